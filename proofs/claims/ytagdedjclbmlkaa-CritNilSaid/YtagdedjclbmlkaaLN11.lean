/- PROVED: a nil tree holds nothing: whatever is asked of it, by any key or prefix, it answers so, and the example answers as it should; for every input. -/
import Derived.Test.YtagdedjclbmlkaaC25
import Derived.Test.YtagdedjclbmlkaaC26
namespace Go.Proofs.Ytagdedjclbmlkaa
open Go.ChangeShapes Go.WideShapes Go.ChangeAt Go.RowKit Go.Deep

def z26 : Array Value := (pC z25 0).toArray
set_option maxRecDepth 100000 in
theorem CritNil_walkO {H : Type} {ench : TypeId × Value → H} (vk : Value) {dk dp : DataW H} {pk pp : List MemPlace} {base : Nat} {held : Bool} {r : Reach} {b0 : Nat} {W : World}
    (hk : DataW.Trod ench Try.prog W base (fun _ => true) held 30 vk dk pk) (hvk : Value.okWide Try.prog W r b0 30 vk)
    (vp : Value) (hp : DataW.Trod ench Try.prog W base (fun _ => true) held 63 vp dp pp) (hvp : Value.okWide Try.prog W r b0 63 vp) :
    Calls Try.prog 7 #[vk, vp] W fun e W' => e = .returned (.bool true) ∧ Below W.heap.size W W' := by
  obtain ⟨k, hkl, rfl⟩ := open_key hvk hk
  obtain ⟨q, d, hq, rfl⟩ := open_pre hvp hp
  exact CritNil_walk k q d W hkl hq
set_option maxHeartbeats 4000000 in
set_option maxRecDepth 100000 in
theorem CritNil_lifted (os : Os) (started : os.Started) (H : Type) (enc : TypeId × Value → H) :
    ReturnsInHanded {} Try.checked os 7 .any (Rows.critNilSpec.pre6 enc Try.prog Try.f7 Rows.critNilRow.domain false) (Rows.critNilSpec.post enc Try.prog Try.f7 false true false false) := by
  refine returnsInHanded_of_change (C := Try.checked) own started (by kernel_rfl) Try.func7
    (ChangeSpec.witness6 (enc := enc) (C := Try.checked) false ⟨#[], #[.agg (bC z25), .agg z26], []⟩ 8 (by kernel_rfl) (by kernel_rfl) (by kernel_rfl) (by kernel_rfl)) ?_
  intro W base args ds gs before hval0 hW hcnd hroom
  have hval : ∀ (j : Nat) t v, Try.f7.params[j]? = some t → args[j]? = some v → Value.okWide Try.prog W .any base t v := hval0
  have hW' := hW
  obtain ⟨p, q, hA0, hV, rfl, hfz, hnd⟩ := hW
  have hA : DataW.TrodAll enc Try.prog W 0 (fun _ => true) true Try.f7.params.toList args.toList ds p := hA0
  rw [Try.params7] at hA hval
  obtain ⟨v0, vs0, d0, ds0, p0, q0, hargs, rfl, rfl, h0, r0⟩ := trodAll_cons hA
  obtain ⟨v1, vs1, d1, ds1, p1, q1, rfl, rfl, rfl, h1, r1⟩ := trodAll_cons r0
  obtain ⟨rfl, rfl, rfl⟩ := trodAll_nil r1
  obtain rfl : args = #[v0, v1] := by cases args; simp_all
  obtain ⟨rfl, rfl⟩ := trodVars_none hV
  have k0 := h0
  have lt0 : ∀ x ∈ p0, x.block < W.heap.size := by obtain ⟨m, hm⟩ := k0; exact DataW.trod_lt m _ _ _ hm
  have k1 := h1
  have lt1 : ∀ x ∈ p1, x.block < W.heap.size := by obtain ⟨m, hm⟩ := k1; exact DataW.trod_lt m _ _ _ hm
  clear hA0 hval0
  refine (CritNil_walkO v0 h0 (hval 0 30 v0 rfl rfl) v1 h1 (hval 1 63 v1 rfl rfl)).mono fun e W' ⟨he, bel⟩ => ?_
  subst he
  exact ⟨_, rfl, _, _, _, [], _, [], hW', trodAll_mk1 (shut_bool Try.underlying4 _), (trodAll_cons_mk (Below.trod laidOut (by kernel_rfl) (of_decide_eq_true (by kernel_rfl)) k0 bel lt0) (trodAll_cons_mk (Below.trod laidOut (by kernel_rfl) (of_decide_eq_true (by kernel_rfl)) k1 bel lt1) trodAll_mk0)), rfl, bel.frame _, fun h => by cases h⟩

theorem CritNil_holds : Rows.CritNilSaid :=
  OpenClaim.holds_of_wide 7 Try.f7 rfl rfl rfl rfl rfl rfl rfl ⟨rfl, rfl, rfl, rfl, rfl⟩ rfl rfl rfl rfl rfl (by kernel_rfl) Try.func7 (by kernel_rfl)
    (of_decide_eq_true (by kernel_rfl)) (by unfold Func.isWrapper; first | (rw [if_pos (by decide +kernel)]; kernel_rfl) | (rw [if_neg (by decide +kernel)]; exact ⟨rfl, rfl⟩))
    (fun os started H enc _ => CritNil_lifted os started H enc)
end Go.Proofs.Ytagdedjclbmlkaa
