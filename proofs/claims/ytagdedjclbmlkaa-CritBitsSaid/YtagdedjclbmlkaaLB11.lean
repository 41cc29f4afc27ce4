/- PROVED: where two keys differ first, and the bits at which any key leaves others, are the document's; for every list of calls and any two keys. No condition. -/
import Derived.Test.YtagdedjclbmlkaaE10
import Derived.Test.YtagdedjclbmlkaaD12
namespace Go.Proofs.Ytagdedjclbmlkaa
open Go.ChangeShapes Go.WideShapes Go.ChangeAt Go.RowKit Go.Deep

set_option maxRecDepth 100000 in
theorem CritBits_walkO {H : Type} {ench : TypeId × Value → H} {base : Nat} {held : Bool} {r : Reach} {b0 : Nat} {W : World}
    (va : Value) {da : DataW H} {pa : List MemPlace} (ha : DataW.Trod ench Try.prog W base (fun _ => true) held 22 va da pa) (hva : Value.okWide Try.prog W r b0 22 va)
    (vp : Value) {dp : DataW H} {pp : List MemPlace} (hp : DataW.Trod ench Try.prog W base (fun _ => true) held 30 vp dp pp) (hvp : Value.okWide Try.prog W r b0 30 vp)
    (vk : Value) {dk : DataW H} {pk : List MemPlace} (hk : DataW.Trod ench Try.prog W base (fun _ => true) held 30 vk dk pk) (hvk : Value.okWide Try.prog W r b0 30 vk) :
    Calls Try.prog 4 #[va, vp, vk] W fun e W' => e = .returned (.bool true) ∧ Below W.heap.size W W' := by
  obtain ⟨q, xs, c, rfl, hc, hm, hs⟩ := open_acts hva ha
  obtain ⟨p, hpl, rfl⟩ := open_key hvp hp
  obtain ⟨k, hkl, rfl⟩ := open_key hvk hk
  exact CritBits_walk q xs.length c xs p k W rfl (Nat.le_trans hc hm) hs hpl hkl
set_option maxHeartbeats 4000000 in
set_option maxRecDepth 100000 in
theorem CritBits_lifted (os : Os) (started : os.Started) (H : Type) (enc : TypeId × Value → H) :
    ReturnsInHanded {} Try.checked os 4 .any (Rows.critBitsSpec.pre6 enc Try.prog Try.f4 Rows.critBitsRow.domain false) (Rows.critBitsSpec.post enc Try.prog Try.f4 false true false false) := by
  refine returnsInHanded_of_change (C := Try.checked) own started (by kernel_rfl) Try.func4
    (ChangeSpec.witness6 (enc := enc) (C := Try.checked) false ⟨#[], #[.slice none 0 0, .agg (bC z25), .agg (bC z25)], []⟩ 8 (by kernel_rfl) (by kernel_rfl) (by kernel_rfl) (by kernel_rfl)) ?_
  intro W base args ds gs before hval0 hW hcnd hroom
  have hval : ∀ (j : Nat) t v, Try.f4.params[j]? = some t → args[j]? = some v → Value.okWide Try.prog W .any base t v := hval0
  have hW' := hW
  obtain ⟨p, q, hA0, hV, rfl, hfz, hnd⟩ := hW
  have hA : DataW.TrodAll enc Try.prog W 0 (fun _ => true) true Try.f4.params.toList args.toList ds p := hA0
  rw [Try.params4] at hA hval
  obtain ⟨v0, vs0, d0, ds0, p0, q0, hargs, rfl, rfl, h0, r0⟩ := trodAll_cons hA
  obtain ⟨v1, vs1, d1, ds1, p1, q1, rfl, rfl, rfl, h1, r1⟩ := trodAll_cons r0
  obtain ⟨v2, vs2, d2, ds2, p2, q2, rfl, rfl, rfl, h2, r2⟩ := trodAll_cons r1
  obtain ⟨rfl, rfl, rfl⟩ := trodAll_nil r2
  obtain rfl : args = #[v0, v1, v2] := by cases args; simp_all
  obtain ⟨rfl, rfl⟩ := trodVars_none hV
  have k0 := h0
  have lt0 : ∀ x ∈ p0, x.block < W.heap.size := by obtain ⟨m, hm⟩ := k0; exact DataW.trod_lt m _ _ _ hm
  have k1 := h1
  have lt1 : ∀ x ∈ p1, x.block < W.heap.size := by obtain ⟨m, hm⟩ := k1; exact DataW.trod_lt m _ _ _ hm
  have k2 := h2
  have lt2 : ∀ x ∈ p2, x.block < W.heap.size := by obtain ⟨m, hm⟩ := k2; exact DataW.trod_lt m _ _ _ hm
  clear hA0 hval0
  refine (CritBits_walkO v0 h0 (hval 0 22 v0 rfl rfl) v1 h1 (hval 1 30 v1 rfl rfl) v2 h2 (hval 2 30 v2 rfl rfl)).mono fun e W' ⟨he, bel⟩ => ?_
  subst he
  exact ⟨_, rfl, _, _, _, [], _, [], hW', trodAll_mk1 (shut_bool Try.underlying4 _), (trodAll_cons_mk (Below.trod laidOut (by kernel_rfl) (of_decide_eq_true (by kernel_rfl)) k0 bel lt0) (trodAll_cons_mk (Below.trod laidOut (by kernel_rfl) (of_decide_eq_true (by kernel_rfl)) k1 bel lt1) (trodAll_cons_mk (Below.trod laidOut (by kernel_rfl) (of_decide_eq_true (by kernel_rfl)) k2 bel lt2) trodAll_mk0))), rfl, bel.frame _, fun h => by cases h⟩

theorem CritBits_holds : Rows.CritBitsSaid :=
  OpenClaim.holds_of_wide 4 Try.f4 rfl rfl rfl rfl rfl rfl rfl ⟨rfl, rfl, rfl, rfl, rfl⟩ rfl rfl rfl rfl rfl (by kernel_rfl) Try.func4 (by kernel_rfl)
    (of_decide_eq_true (by kernel_rfl)) (by unfold Func.isWrapper; first | (rw [if_pos (by decide +kernel)]; kernel_rfl) | (rw [if_neg (by decide +kernel)]; exact ⟨rfl, rfl⟩))
    (fun os started H enc _ => CritBits_lifted os started H enc)
end Go.Proofs.Ytagdedjclbmlkaa
