/- PROVED: whichever way keys are put, and whatever else was there in between, a tree holds the same in the same order; for all keys, all others and any turn. No condition. -/
import Derived.Test.YtagdedjclbmlkaaE13
import Derived.Test.YtagdedjclbmlkaaD12
namespace Go.Proofs.Ytagdedjclbmlkaa
open Go.ChangeShapes Go.WideShapes Go.ChangeAt Go.RowKit Go.Deep

set_option maxRecDepth 100000 in
theorem open_keys {H : Type} {ench : TypeId × Value → H} {w : World} {base : Nat} {held : Bool} {v : Value} {d : DataW H} {p : List MemPlace} {r : Reach} {b0 : Nat}
    (hv : Value.okWide Try.prog w r b0 64 v) (h : DataW.Trod ench Try.prog w base (fun _ => true) held 64 v d p) :
    ∃ (q : Option Addr) (xs : List K25) (cap : Nat), v = .slice q xs.length cap ∧ xs.length ≤ cap ∧ SlAt encK 25 w q xs := by
  obtain ⟨q, xs, cap, h1, h2, _, h4, _⟩ := open_rows (E := 30) (enc := encK) (k := 25) (φ := fun _ => True) Try.underlying64 (by kernel_rfl) (by omega) (fun _ _ _ hy hl => by
    obtain ⟨k, hk, e⟩ := dec_key hl hy
    exact ⟨⟨k, hk⟩, e, trivial⟩) hv h
  exact ⟨q, xs, cap, h1, h2, h4⟩
set_option maxRecDepth 100000 in
theorem CritOrder_walkO {H : Type} {ench : TypeId × Value → H} {base : Nat} {held : Bool} {r : Reach} {b0 : Nat} {W : World}
    (va : Value) {da : DataW H} {pa : List MemPlace} (ha : DataW.Trod ench Try.prog W base (fun _ => true) held 64 va da pa) (hva : Value.okWide Try.prog W r b0 64 va)
    (vb : Value) {db : DataW H} {pb : List MemPlace} (hb : DataW.Trod ench Try.prog W base (fun _ => true) held 64 vb db pb) (hvb : Value.okWide Try.prog W r b0 64 vb)
    (vt : Value) {dt : DataW H} {pt : List MemPlace} (ht : DataW.Trod ench Try.prog W base (fun _ => true) held 3 vt dt pt) (hvt : Value.okWide Try.prog W r b0 3 vt) :
    Calls Try.prog 6 #[va, vb, vt] W fun e W' => e = .returned (.bool true) ∧ Below W.heap.size W W' := by
  obtain ⟨q1, xs1, c1, rfl, h1, hs1⟩ := open_keys hva ha
  obtain ⟨q2, xs2, c2, rfl, h2, hs2⟩ := open_keys hvb hb
  obtain ⟨a, rfl, -, -, -⟩ := open_int Try.underlying3 hvt ht
  exact CritOrder_walk q1 xs1.length c1 xs1 q2 xs2.length c2 xs2 a W rfl h1 hs1 rfl h2 hs2
set_option maxHeartbeats 4000000 in
set_option maxRecDepth 100000 in
theorem CritOrder_lifted (os : Os) (started : os.Started) (H : Type) (enc : TypeId × Value → H) :
    ReturnsInHanded {} Try.checked os 6 .any (Rows.critOrderSpec.pre6 enc Try.prog Try.f6 Rows.critOrderRow.domain false) (Rows.critOrderSpec.post enc Try.prog Try.f6 false true false false) := by
  refine returnsInHanded_of_change (C := Try.checked) own started (by kernel_rfl) Try.func6
    (ChangeSpec.witness6 (enc := enc) (C := Try.checked) false ⟨#[], #[.slice none 0 0, .slice none 0 0, .int .i64 0], []⟩ 8 (by kernel_rfl) (by kernel_rfl) (by kernel_rfl) (by kernel_rfl)) ?_
  intro W base args ds gs before hval0 hW hcnd hroom
  have hval : ∀ (j : Nat) t v, Try.f6.params[j]? = some t → args[j]? = some v → Value.okWide Try.prog W .any base t v := hval0
  have hW' := hW
  obtain ⟨p, q, hA0, hV, rfl, hfz, hnd⟩ := hW
  have hA : DataW.TrodAll enc Try.prog W 0 (fun _ => true) true Try.f6.params.toList args.toList ds p := hA0
  rw [Try.params6] at hA hval
  obtain ⟨v0, vs0, d0, ds0, p0, q0, hargs, rfl, rfl, h0, r0⟩ := trodAll_cons hA
  obtain ⟨v1, vs1, d1, ds1, p1, q1, rfl, rfl, rfl, h1, r1⟩ := trodAll_cons r0
  obtain ⟨v2, vs2, d2, ds2, p2, q2, rfl, rfl, rfl, h2, r2⟩ := trodAll_cons r1
  obtain ⟨rfl, rfl, rfl⟩ := trodAll_nil r2
  obtain rfl : args = #[v0, v1, v2] := by cases args; simp_all
  obtain ⟨rfl, rfl⟩ := trodVars_none hV
  have k0 := h0
  have lt0 : ∀ x ∈ p0, x.block < W.heap.size := by obtain ⟨m, hm⟩ := k0; exact DataW.trod_lt m _ _ _ hm
  have k1 := h1
  have lt1 : ∀ x ∈ p1, x.block < W.heap.size := by obtain ⟨m, hm⟩ := k1; exact DataW.trod_lt m _ _ _ hm
  have k2 := h2
  have lt2 : ∀ x ∈ p2, x.block < W.heap.size := by obtain ⟨m, hm⟩ := k2; exact DataW.trod_lt m _ _ _ hm
  clear hA0 hval0
  refine (CritOrder_walkO v0 h0 (hval 0 64 v0 rfl rfl) v1 h1 (hval 1 64 v1 rfl rfl) v2 h2 (hval 2 3 v2 rfl rfl)).mono fun e W' ⟨he, bel⟩ => ?_
  subst he
  exact ⟨_, rfl, _, _, _, [], _, [], hW', trodAll_mk1 (shut_bool Try.underlying4 _), (trodAll_cons_mk (Below.trod laidOut (by kernel_rfl) (of_decide_eq_true (by kernel_rfl)) k0 bel lt0) (trodAll_cons_mk (Below.trod laidOut (by kernel_rfl) (of_decide_eq_true (by kernel_rfl)) k1 bel lt1) (trodAll_cons_mk (Below.trod laidOut (by kernel_rfl) (of_decide_eq_true (by kernel_rfl)) k2 bel lt2) trodAll_mk0))), rfl, bel.frame _, fun h => by cases h⟩

theorem CritOrder_holds : Rows.CritOrderSaid :=
  OpenClaim.holds_of_wide 6 Try.f6 rfl rfl rfl rfl rfl rfl rfl ⟨rfl, rfl, rfl, rfl, rfl⟩ rfl rfl rfl rfl rfl (by kernel_rfl) Try.func6 (by kernel_rfl)
    (of_decide_eq_true (by kernel_rfl)) (by unfold Func.isWrapper; first | (rw [if_pos (by decide +kernel)]; kernel_rfl) | (rw [if_neg (by decide +kernel)]; exact ⟨rfl, rfl⟩))
    (fun os started H enc _ => CritOrder_lifted os started H enc)
end Go.Proofs.Ytagdedjclbmlkaa
