/- PROVED: whatever is put and deleted, by any keys, each answer, and what is held, in order, is the document's; for every list of calls and every key. No condition. -/
import Derived.Test.YtagdedjclbmlkaaD11
import Derived.Test.YtagdedjclbmlkaaD12
namespace Go.Proofs.Ytagdedjclbmlkaa
open Go.ChangeShapes Go.WideShapes Go.ChangeAt Go.RowKit Go.Deep

set_option maxRecDepth 100000 in
theorem CritPlays_walkO {H : Type} {ench : TypeId × Value → H} {base : Nat} {held : Bool} {r : Reach} {b0 : Nat} {W : World}
    (va : Value) {da : DataW H} {pa : List MemPlace} (ha : DataW.Trod ench Try.prog W base (fun _ => true) held 22 va da pa) (hva : Value.okWide Try.prog W r b0 22 va)
    (vk : Value) {dk : DataW H} {pk : List MemPlace} (hk : DataW.Trod ench Try.prog W base (fun _ => true) held 30 vk dk pk) (hvk : Value.okWide Try.prog W r b0 30 vk) :
    Calls Try.prog 3 #[va, vk] W fun e W' => e = .returned (.bool true) ∧ Below W.heap.size W W' := by
  obtain ⟨q, xs, c, rfl, hc, hm, hs⟩ := open_acts hva ha
  obtain ⟨k, hkl, rfl⟩ := open_key hvk hk
  exact CritPlays_walk q xs.length c xs k W rfl (Nat.le_trans hc hm) hs hkl
set_option maxHeartbeats 4000000 in
set_option maxRecDepth 100000 in
theorem CritPlays_lifted (os : Os) (started : os.Started) (H : Type) (enc : TypeId × Value → H) :
    ReturnsInHanded {} Try.checked os 3 .any (Rows.critPlaysSpec.pre6 enc Try.prog Try.f3 Rows.critPlaysRow.domain false) (Rows.critPlaysSpec.post enc Try.prog Try.f3 false true false false) := by
  refine returnsInHanded_of_change (C := Try.checked) own started (by kernel_rfl) Try.func3
    (ChangeSpec.witness6 (enc := enc) (C := Try.checked) false ⟨#[], #[.slice none 0 0, .agg (bC z25)], []⟩ 8 (by kernel_rfl) (by kernel_rfl) (by kernel_rfl) (by kernel_rfl)) ?_
  intro W base args ds gs before hval0 hW hcnd hroom
  have hval : ∀ (j : Nat) t v, Try.f3.params[j]? = some t → args[j]? = some v → Value.okWide Try.prog W .any base t v := hval0
  have hW' := hW
  obtain ⟨p, q, hA0, hV, rfl, hfz, hnd⟩ := hW
  have hA : DataW.TrodAll enc Try.prog W 0 (fun _ => true) true Try.f3.params.toList args.toList ds p := hA0
  rw [Try.params3] at hA hval
  obtain ⟨v0, vs0, d0, ds0, p0, q0, hargs, rfl, rfl, h0, r0⟩ := trodAll_cons hA
  obtain ⟨v1, vs1, d1, ds1, p1, q1, rfl, rfl, rfl, h1, r1⟩ := trodAll_cons r0
  obtain ⟨rfl, rfl, rfl⟩ := trodAll_nil r1
  obtain rfl : args = #[v0, v1] := by cases args; simp_all
  obtain ⟨rfl, rfl⟩ := trodVars_none hV
  have k0 := h0
  have lt0 : ∀ x ∈ p0, x.block < W.heap.size := by obtain ⟨m, hm⟩ := k0; exact DataW.trod_lt m _ _ _ hm
  have k1 := h1
  have lt1 : ∀ x ∈ p1, x.block < W.heap.size := by obtain ⟨m, hm⟩ := k1; exact DataW.trod_lt m _ _ _ hm
  clear hA0 hval0
  refine (CritPlays_walkO v0 h0 (hval 0 22 v0 rfl rfl) v1 h1 (hval 1 30 v1 rfl rfl)).mono fun e W' ⟨he, bel⟩ => ?_
  subst he
  exact ⟨_, rfl, _, _, _, [], _, [], hW', trodAll_mk1 (shut_bool Try.underlying4 _), (trodAll_cons_mk (Below.trod laidOut (by kernel_rfl) (of_decide_eq_true (by kernel_rfl)) k0 bel lt0) (trodAll_cons_mk (Below.trod laidOut (by kernel_rfl) (of_decide_eq_true (by kernel_rfl)) k1 bel lt1) trodAll_mk0)), rfl, bel.frame _, fun h => by cases h⟩

theorem CritPlays_holds : Rows.CritPlaysSaid :=
  OpenClaim.holds_of_wide 3 Try.f3 rfl rfl rfl rfl rfl rfl rfl ⟨rfl, rfl, rfl, rfl, rfl⟩ rfl rfl rfl rfl rfl (by kernel_rfl) Try.func3 (by kernel_rfl)
    (of_decide_eq_true (by kernel_rfl)) (by unfold Func.isWrapper; first | (rw [if_pos (by decide +kernel)]; kernel_rfl) | (rw [if_neg (by decide +kernel)]; exact ⟨rfl, rfl⟩))
    (fun os started H enc _ => CritPlays_lifted os started H enc)
end Go.Proofs.Ytagdedjclbmlkaa
