/- PROVED: for every slice of entries and every array of twelve bytes the law SheetBack returns true and leaves its arguments as they were. No condition. -/
import Derived.Test.YtpnmficlebnajaaF14
import Derived.Test.YtpnmficlebnajaaF12
import Derived.Test.YtpnmficlebnajaaRows
namespace Go.Proofs.Ytpnmficlebnajaa
open Go.ChangeShapes Go.WideShapes Go.ChangeAt Go.RowKit Go.Deep

set_option maxRecDepth 100000 in
theorem SheetBack_walk (v0 : Value) {H : Type} {enc : TypeId × Value → H} {w : World} {d0 : DataW H} {p0 : List MemPlace} {base : Nat} (h0 : DataW.Trod enc Try.prog w base (fun _ => true) true 22 v0 d0 p0) (hv0 : Value.okWide Try.prog w .any base 22 v0) (nm : List UInt8) (h12 : nm.length = 12) (w1 : World) (hw : w = w1) :
    Calls Try.prog 5 #[v0, .agg (bC nm)] w1 fun e w' => e = .returned (.bool true) ∧ Below w1.heap.size w1 w' := by
  subst hw
  obtain ⟨q, l, cap, rfl, hc, hm, ha, hs⟩ := open_ents hv0 h0
  exact SheetBack_walkS (fun q l n cap w h1 h2 h3 h4 h5 => sheet_any q l n cap w h1 h2 h3 h4 h5) q l _ cap nm w rfl hc hm ha hs h12

set_option maxRecDepth 100000 in
theorem SheetBack_lifted (os : Os) (started : os.Started) (H : Type) (enc : TypeId × Value → H) :
    ReturnsInHanded {} Try.checked os 5 .any (Rows.sheetBackSpec.pre6 enc Try.prog Try.f5 Rows.sheetBackRow.domain false) (Rows.sheetBackSpec.post enc Try.prog Try.f5 false true false false) := by
  refine returnsInHanded_of_change (C := Try.checked) own started (by kernel_rfl) Try.func5
    (ChangeSpec.witness6 (enc := enc) (C := Try.checked) false ⟨#[], #[.slice none 0 0, .agg #[.int .u8 0, .int .u8 0, .int .u8 0, .int .u8 0, .int .u8 0, .int .u8 0, .int .u8 0, .int .u8 0, .int .u8 0, .int .u8 0, .int .u8 0, .int .u8 0]], []⟩ 8 (by kernel_rfl) (by kernel_rfl) (by kernel_rfl) (by kernel_rfl)) ?_
  intro W base args ds gs before hval0 hW hcnd hroom
  have hval : ∀ (j : Nat) t v, Try.f5.params[j]? = some t → args[j]? = some v → Value.okWide Try.prog W .any base t v := hval0
  have hW' := hW
  obtain ⟨p, q, hA0, hV, rfl, hfz, hnd⟩ := hW
  have hA : DataW.TrodAll enc Try.prog W 0 (fun _ => true) true Try.f5.params.toList args.toList ds p := hA0
  rw [Try.params5] at hA hval
  obtain ⟨v0, vs0, d0, ds0, p0, q0, hargs, rfl, rfl, h0, r0⟩ := trodAll_cons hA
  obtain ⟨v1, vs1, d1, ds1, p1, q1, rfl, rfl, rfl, h1, r1⟩ := trodAll_cons r0
  obtain ⟨rfl, rfl, rfl⟩ := trodAll_nil r1
  obtain rfl : args = #[v0, v1] := by cases args; simp_all
  obtain ⟨rfl, rfl⟩ := trodVars_none hV
  have k0 := h0
  have lt0 : ∀ x ∈ p0, x.block < W.heap.size := by obtain ⟨m, hm⟩ := k0; exact DataW.trod_lt m _ _ _ hm
  have k1 := h1
  have lt1 : ∀ x ∈ p1, x.block < W.heap.size := by obtain ⟨m, hm⟩ := k1; exact DataW.trod_lt m _ _ _ hm
  obtain ⟨a1, w1, rfl⟩ := open_bytes Try.underlying40 Try.underlying5 (by kernel_rfl) (by kernel_rfl) (hval 1 40 v1 rfl rfl) h1
  clear hA0 hval0
  refine (SheetBack_walk v0 h0 (hval 0 22 v0 rfl rfl) a1 w1 W rfl).mono fun e W' ⟨he, bel⟩ => ?_
  subst he
  exact ⟨_, rfl, _, _, _, [], _, [], hW', trodAll_mk1 (shut_bool Try.underlying4 _), (trodAll_cons_mk (Below.trod laidOut (by kernel_rfl) (of_decide_eq_true (by kernel_rfl)) k0 bel lt0) (trodAll_cons_mk (Below.trod laidOut (by kernel_rfl) (of_decide_eq_true (by kernel_rfl)) k1 bel lt1) trodAll_mk0)), rfl, bel.frame _, fun h => by cases h⟩

theorem SheetBack_holds : Rows.SheetBackSaid :=
  OpenClaim.holds_of_wide 5 Try.f5 rfl rfl rfl rfl rfl rfl rfl ⟨rfl, rfl, rfl, rfl, rfl⟩ rfl rfl rfl rfl rfl (by kernel_rfl) Try.func5 (by kernel_rfl)
    (of_decide_eq_true (by kernel_rfl)) (by unfold Func.isWrapper; first | (rw [if_pos (by decide +kernel)]; kernel_rfl) | (rw [if_neg (by decide +kernel)]; exact ⟨rfl, rfl⟩))
    (fun os started H enc _ => SheetBack_lifted os started H enc)

end Go.Proofs.Ytpnmficlebnajaa
