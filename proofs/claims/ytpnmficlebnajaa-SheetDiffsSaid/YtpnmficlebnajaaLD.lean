/- PROVED: for every two slices of entries and every slice of changes the law SheetDiffs returns true and leaves its arguments as they were. No condition. -/
import Derived.Test.YtpnmficlebnajaaJ12
import Derived.Test.YtpnmficlebnajaaRows
namespace Go.Proofs.Ytpnmficlebnajaa
open Go.ChangeShapes Go.WideShapes Go.ChangeAt Go.RowKit Go.Deep

set_option maxRecDepth 100000 in
theorem SheetDiffs_walkO {H : Type} {enc : TypeId × Value → H} {w : World} {base : Nat} (v0 : Value) {d0 : DataW H} {p0 : List MemPlace} (h0 : DataW.Trod enc Try.prog w base (fun _ => true) true 22 v0 d0 p0) {b0 : Nat} (hv0 : Value.okWide Try.prog w .any b0 22 v0)
    (v1 : Value) {d1 : DataW H} {p1 : List MemPlace} (h1 : DataW.Trod enc Try.prog w base (fun _ => true) true 22 v1 d1 p1) (hv1 : Value.okWide Try.prog w .any b0 22 v1)
    (v2 : Value) {d2 : DataW H} {p2 : List MemPlace} (h2 : DataW.Trod enc Try.prog w base (fun _ => true) true 46 v2 d2 p2) (hv2 : Value.okWide Try.prog w .any b0 46 v2) :
    Calls Try.prog 6 #[v0, v1, v2] w fun e w' => e = .returned (.bool true) ∧ Below w.heap.size w w' := by
  obtain ⟨qa, a, ca, rfl, hca, hma, ha, hsa⟩ := open_ents hv0 h0
  obtain ⟨qb, b, cb, rfl, hcb, hmb, hb, hsb⟩ := open_ents hv1 h1
  obtain ⟨qc, c, cc, rfl, hcc, hmc, hc, hsc⟩ := open_chgs hv2 h2
  exact SheetDiffs_walkS qa a _ ca qb b _ cb qc c _ cc w rfl hca hma ha hsa rfl hcb hmb hb hsb rfl hcc hmc hc hsc

set_option maxHeartbeats 4000000 in
set_option maxRecDepth 100000 in
theorem SheetDiffs_lifted (os : Os) (started : os.Started) (H : Type) (enc : TypeId × Value → H) :
    ReturnsInHanded {} Try.checked os 6 .any (Rows.sheetDiffsSpec.pre6 enc Try.prog Try.f6 Rows.sheetDiffsRow.domain false) (Rows.sheetDiffsSpec.post enc Try.prog Try.f6 false true false false) := by
  refine returnsInHanded_of_change (C := Try.checked) own started (by kernel_rfl) Try.func6
    (ChangeSpec.witness6 (enc := enc) (C := Try.checked) false ⟨#[], #[.slice none 0 0, .slice none 0 0, .slice none 0 0], []⟩ 8 (by kernel_rfl) (by kernel_rfl) (by kernel_rfl) (by kernel_rfl)) ?_
  intro W base args ds gs before hval0 hW hcnd hroom
  have hval : ∀ (j : Nat) t v, Try.f6.params[j]? = some t → args[j]? = some v → Value.okWide Try.prog W .any base t v := hval0
  have hW' := hW
  obtain ⟨p, q, hA0, hV, rfl, hfz, hnd⟩ := hW
  have hA : DataW.TrodAll enc Try.prog W 0 (fun _ => true) true Try.f6.params.toList args.toList ds p := hA0
  rw [Try.params6] at hA hval
  obtain ⟨v0, vs0, d0, ds0, p0, q0, hargs, rfl, rfl, h0, r0⟩ := trodAll_cons hA
  obtain ⟨v1, vs1, d1, ds1, p1, q1, rfl, rfl, rfl, h1, r1⟩ := trodAll_cons r0
  obtain ⟨v2, vs2, d2, ds2, p2, q2, rfl, rfl, rfl, h2, r2⟩ := trodAll_cons r1
  obtain ⟨rfl, rfl, rfl⟩ := trodAll_nil r2
  obtain rfl : args = #[v0, v1, v2] := by cases args; simp_all
  obtain ⟨rfl, rfl⟩ := trodVars_none hV
  have k0 := h0
  have lt0 : ∀ x ∈ p0, x.block < W.heap.size := by obtain ⟨m, hm⟩ := k0; exact DataW.trod_lt m _ _ _ hm
  have k1 := h1
  have lt1 : ∀ x ∈ p1, x.block < W.heap.size := by obtain ⟨m, hm⟩ := k1; exact DataW.trod_lt m _ _ _ hm
  have k2 := h2
  have lt2 : ∀ x ∈ p2, x.block < W.heap.size := by obtain ⟨m, hm⟩ := k2; exact DataW.trod_lt m _ _ _ hm
  clear hA0 hval0
  refine (SheetDiffs_walkO v0 h0 (hval 0 22 v0 rfl rfl) v1 h1 (hval 1 22 v1 rfl rfl) v2 h2 (hval 2 46 v2 rfl rfl)).mono fun e W' ⟨he, bel⟩ => ?_
  subst he
  exact ⟨_, rfl, _, _, _, [], _, [], hW', trodAll_mk1 (shut_bool Try.underlying4 _), (trodAll_cons_mk (Below.trod laidOut (by kernel_rfl) (of_decide_eq_true (by kernel_rfl)) k0 bel lt0) (trodAll_cons_mk (Below.trod laidOut (by kernel_rfl) (of_decide_eq_true (by kernel_rfl)) k1 bel lt1) (trodAll_cons_mk (Below.trod laidOut (by kernel_rfl) (of_decide_eq_true (by kernel_rfl)) k2 bel lt2) trodAll_mk0))), rfl, bel.frame _, fun h => by cases h⟩

theorem SheetDiffs_holds : Rows.SheetDiffsSaid :=
  OpenClaim.holds_of_wide 6 Try.f6 rfl rfl rfl rfl rfl rfl rfl ⟨rfl, rfl, rfl, rfl, rfl⟩ rfl rfl rfl rfl rfl (by kernel_rfl) Try.func6 (by kernel_rfl)
    (of_decide_eq_true (by kernel_rfl)) (by unfold Func.isWrapper; first | (rw [if_pos (by decide +kernel)]; kernel_rfl) | (rw [if_neg (by decide +kernel)]; exact ⟨rfl, rfl⟩))
    (fun os started H enc _ => SheetDiffs_lifted os started H enc)
end Go.Proofs.Ytpnmficlebnajaa
