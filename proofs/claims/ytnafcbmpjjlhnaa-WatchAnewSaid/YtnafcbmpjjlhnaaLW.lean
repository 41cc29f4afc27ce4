/- PROVED: resynced, a watcher is as one that begins to watch then: of what is published behind it both are told the same, in number and event by event, and both stop alike; for every input. -/
import Derived.Test.YtnafcbmpjjlhnaaK31
namespace Go.Proofs.Ytnafcbmpjjlhnaa
open Go.ChangeShapes Go.WideShapes Go.ChangeAt Go.RowKit Go.Deep

set_option maxRecDepth 100000 in
theorem WatchAnew_walk {H : Type} {ench : TypeId × Value → H} {base : Nat} {held : Bool} {r : Reach} {b0 : Nat} {W : World}
    (va : Value) {da : DataW H} {pa : List MemPlace} (ha : DataW.Trod ench Try.prog W base (fun _ => true) held 22 va da pa) (hva : Value.okWide Try.prog W r b0 22 va)
    (vm : Value) {dm : DataW H} {pm : List MemPlace} (hm : DataW.Trod ench Try.prog W base (fun _ => true) held 22 vm dm pm) (hvm : Value.okWide Try.prog W r b0 22 vm)
    (vp : Value) {dp : DataW H} {pp : List MemPlace}
    (hp : DataW.Trod ench Try.prog W base (fun _ => true) held 32 vp dp pp) (hvp : Value.okWide Try.prog W r b0 32 vp)
    (t : Int) (_ : (Lit.int IntKind.u64 t).wf = true) :
    Calls Try.prog 3 #[va, vm, vp, .int .u64 t] W fun e W' => e = .returned (.bool true) ∧ Below W.heap.size W W' := by
  obtain ⟨k, d, hk, rfl⟩ := open_pre hvp hp
  obtain ⟨q1, xs1, c1, rfl, _, _, hs1, ho1⟩ := open_acts hva ha
  obtain ⟨q2, xs2, c2, rfl, _, _, hs2, ho2⟩ := open_acts hvm hm
  exact WatchAnew_walkI k d hk t q1 xs1.length c1 xs1 q2 xs2.length c2 xs2 W rfl rfl hs1 hs2 ho1 ho2
set_option maxHeartbeats 4000000 in
set_option maxRecDepth 100000 in
theorem WatchAnew_lifted (os : Os) (started : os.Started) (H : Type) (enc : TypeId × Value → H) :
    ReturnsInHanded {} Try.checked os 3 .any (Rows.watchAnewSpec.pre6 enc Try.prog Try.f3 Rows.watchAnewRow.domain false) (Rows.watchAnewSpec.post enc Try.prog Try.f3 false true false false) := by
  refine returnsInHanded_of_change (C := Try.checked) own started (by kernel_rfl) Try.func3
    (ChangeSpec.witness6 (enc := enc) (C := Try.checked) false ⟨#[], #[.slice none 0 0, .slice none 0 0, .agg z26, .int .u64 0], []⟩ 8 (by kernel_rfl) (by kernel_rfl) (by kernel_rfl) (by kernel_rfl)) ?_
  intro W base args ds gs before hval0 hW hcnd hroom
  have hval : ∀ (j : Nat) t v, Try.f3.params[j]? = some t → args[j]? = some v → Value.okWide Try.prog W .any base t v := hval0
  have hW' := hW
  obtain ⟨p, q, hA0, hV, rfl, hfz, hnd⟩ := hW
  have hA : DataW.TrodAll enc Try.prog W 0 (fun _ => true) true Try.f3.params.toList args.toList ds p := hA0
  rw [Try.params3] at hA hval
  obtain ⟨v0, vs0, d0, ds0, p0, q0, hargs, rfl, rfl, h0, r0⟩ := trodAll_cons hA
  obtain ⟨v1, vs1, d1, ds1, p1, q1, rfl, rfl, rfl, h1, r1⟩ := trodAll_cons r0
  obtain ⟨v2, vs2, d2, ds2, p2, q2, rfl, rfl, rfl, h2, r2⟩ := trodAll_cons r1
  obtain ⟨v3, vs3, d3, ds3, p3, q3, rfl, rfl, rfl, h3, r3⟩ := trodAll_cons r2
  obtain ⟨rfl, rfl, rfl⟩ := trodAll_nil r3
  obtain rfl : args = #[v0, v1, v2, v3] := by cases args; simp_all
  obtain ⟨rfl, rfl⟩ := trodVars_none hV
  have k0 := h0
  have lt0 : ∀ x ∈ p0, x.block < W.heap.size := by obtain ⟨m, hm⟩ := k0; exact DataW.trod_lt m _ _ _ hm
  have k1 := h1
  have lt1 : ∀ x ∈ p1, x.block < W.heap.size := by obtain ⟨m, hm⟩ := k1; exact DataW.trod_lt m _ _ _ hm
  have k2 := h2
  have lt2 : ∀ x ∈ p2, x.block < W.heap.size := by obtain ⟨m, hm⟩ := k2; exact DataW.trod_lt m _ _ _ hm
  have k3 := h3
  have lt3 : ∀ x ∈ p3, x.block < W.heap.size := by obtain ⟨m, hm⟩ := k3; exact DataW.trod_lt m _ _ _ hm
  obtain ⟨a3, rfl, rfl, rfl, w3⟩ := open_int Try.underlying33 (hval 3 33 v3 rfl rfl) h3
  clear hA0 hval0
  refine (WatchAnew_walk v0 h0 (hval 0 22 v0 rfl rfl) v1 h1 (hval 1 22 v1 rfl rfl) v2 h2 (hval 2 32 v2 rfl rfl) a3 w3).mono fun e W' ⟨he, bel⟩ => ?_
  subst he
  exact ⟨_, rfl, _, _, _, [], _, [], hW', trodAll_mk1 (shut_bool Try.underlying4 _), (trodAll_cons_mk (Below.trod laidOut (by kernel_rfl) (of_decide_eq_true (by kernel_rfl)) k0 bel lt0) (trodAll_cons_mk (Below.trod laidOut (by kernel_rfl) (of_decide_eq_true (by kernel_rfl)) k1 bel lt1) (trodAll_cons_mk (Below.trod laidOut (by kernel_rfl) (of_decide_eq_true (by kernel_rfl)) k2 bel lt2) (trodAll_cons_mk (Below.trod laidOut (by kernel_rfl) (of_decide_eq_true (by kernel_rfl)) k3 bel lt3) trodAll_mk0)))), rfl, bel.frame _, fun h => by cases h⟩

theorem WatchAnew_holds : Rows.WatchAnewSaid :=
  OpenClaim.holds_of_wide 3 Try.f3 rfl rfl rfl rfl rfl rfl rfl ⟨rfl, rfl, rfl, rfl, rfl⟩ rfl rfl rfl rfl rfl (by kernel_rfl) Try.func3 (by kernel_rfl)
    (of_decide_eq_true (by kernel_rfl)) (by unfold Func.isWrapper; first | (rw [if_pos (by decide +kernel)]; kernel_rfl) | (rw [if_neg (by decide +kernel)]; exact ⟨rfl, rfl⟩))
    (fun os started H enc _ => WatchAnew_lifted os started H enc)
end Go.Proofs.Ytnafcbmpjjlhnaa
