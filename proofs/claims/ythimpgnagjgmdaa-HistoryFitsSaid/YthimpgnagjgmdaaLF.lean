/- PROVED: whether an order fits what was ahead of what, and which two places don't, is told as the document tells it; for every input. -/
import Derived.Test.YthimpgnagjgmdaaH14
namespace Go.Proofs.Ythimpgnagjgmdaa
open Go.ChangeShapes Go.WideShapes Go.ChangeAt Go.RowKit Go.Deep

set_option maxRecDepth 100000 in
theorem HistoryFits_walk {H : Type} {ench : TypeId × Value → H} {base : Nat} {held : Bool} {r : Reach} {b0 : Nat} {W : World}
    (va : Value) {da : DataW H} {pa : List MemPlace} (ha : DataW.Trod ench Try.prog W base (fun _ => true) held 22 va da pa) (hva : Value.okWide Try.prog W r b0 22 va)
    (vm : Value) {dm : DataW H} {pm : List MemPlace} (hm : DataW.Trod ench Try.prog W base (fun _ => true) held 26 vm dm pm) (hvm : Value.okWide Try.prog W r b0 26 vm) :
    Calls Try.prog 4 #[va, vm] W fun e W' => e = .returned (.bool true) ∧ Below W.heap.size W W' := by
  obtain ⟨q1, xs1, c1, rfl, _, _, hs1, ho1⟩ := open_calls hva ha
  obtain ⟨q2, xs2, c2, rfl, h2, _, hs2, _⟩ := open_ints hvm hm
  exact HistoryFits_walkI q1 xs1.length c1 xs1 q2 xs2.length c2 xs2 W rfl hs1 ho1 rfl h2 hs2
set_option maxHeartbeats 4000000 in
set_option maxRecDepth 100000 in
theorem HistoryFits_lifted (os : Os) (started : os.Started) (H : Type) (enc : TypeId × Value → H) :
    ReturnsInHanded {} Try.checked os 4 .any (Rows.historyFitsSpec.pre6 enc Try.prog Try.f4 Rows.historyFitsRow.domain false) (Rows.historyFitsSpec.post enc Try.prog Try.f4 false true false false) := by
  refine returnsInHanded_of_change (C := Try.checked) own started (by kernel_rfl) Try.func4
    (ChangeSpec.witness6 (enc := enc) (C := Try.checked) false ⟨#[], #[.slice none 0 0, .slice none 0 0], []⟩ 8 (by kernel_rfl) (by kernel_rfl) (by kernel_rfl) (by kernel_rfl)) ?_
  intro W base args ds gs before hval0 hW hcnd hroom
  have hval : ∀ (j : Nat) t v, Try.f4.params[j]? = some t → args[j]? = some v → Value.okWide Try.prog W .any base t v := hval0
  have hW' := hW
  obtain ⟨p, q, hA0, hV, rfl, hfz, hnd⟩ := hW
  have hA : DataW.TrodAll enc Try.prog W 0 (fun _ => true) true Try.f4.params.toList args.toList ds p := hA0
  rw [Try.params4] at hA hval
  obtain ⟨v0, vs0, d0, ds0, p0, q0, hargs, rfl, rfl, h0, r0⟩ := trodAll_cons hA
  obtain ⟨v1, vs1, d1, ds1, p1, q1, rfl, rfl, rfl, h1, r1⟩ := trodAll_cons r0
  obtain ⟨rfl, rfl, rfl⟩ := trodAll_nil r1
  obtain rfl : args = #[v0, v1] := by cases args; simp_all
  obtain ⟨rfl, rfl⟩ := trodVars_none hV
  have k0 := h0
  have lt0 : ∀ x ∈ p0, x.block < W.heap.size := by obtain ⟨m, hm⟩ := k0; exact DataW.trod_lt m _ _ _ hm
  have k1 := h1
  have lt1 : ∀ x ∈ p1, x.block < W.heap.size := by obtain ⟨m, hm⟩ := k1; exact DataW.trod_lt m _ _ _ hm
  clear hA0 hval0
  refine (HistoryFits_walk v0 h0 (hval 0 22 v0 rfl rfl) v1 h1 (hval 1 26 v1 rfl rfl)).mono fun e W' ⟨he, bel⟩ => ?_
  subst he
  exact ⟨_, rfl, _, _, _, [], _, [], hW', trodAll_mk1 (shut_bool Try.underlying4 _), (trodAll_cons_mk (Below.trod laidOut (by kernel_rfl) (of_decide_eq_true (by kernel_rfl)) k0 bel lt0) (trodAll_cons_mk (Below.trod laidOut (by kernel_rfl) (of_decide_eq_true (by kernel_rfl)) k1 bel lt1) trodAll_mk0)), rfl, bel.frame _, fun h => by cases h⟩

theorem HistoryFits_holds : Rows.HistoryFitsSaid :=
  OpenClaim.holds_of_wide 4 Try.f4 rfl rfl rfl rfl rfl rfl rfl ⟨rfl, rfl, rfl, rfl, rfl⟩ rfl rfl rfl rfl rfl (by kernel_rfl) Try.func4 (by kernel_rfl)
    (of_decide_eq_true (by kernel_rfl)) (by unfold Func.isWrapper; first | (rw [if_pos (by decide +kernel)]; kernel_rfl) | (rw [if_neg (by decide +kernel)]; exact ⟨rfl, rfl⟩))
    (fun os started H enc _ => HistoryFits_lifted os started H enc)
end Go.Proofs.Ythimpgnagjgmdaa
