/- The document's Line. -/
import Derived.Test.YtmbbhnbfgcmkgaaDoorD3
namespace Go.Proofs.YtmbbhnbfgcmkgaaDoor
open Go.RowKit
def lineR (y : D4) : List UInt8 × Int := if errD y ≠ 0 then ([], errD y) else (wordL y.kind ++ (usesL y.kind).flatMap (fun c => 32 :: partD y c), 0)
theorem lineR_err {y : D4} {e : Int} (h : errD y = e) (he : e ≠ 0) : lineR y = ([], e) := by unfold lineR; rw [if_pos (by rw [h]; exact he), h]
theorem lineR_ok {y : D4} (h : errD y = 0) : lineR y = (wordL y.kind ++ (usesL y.kind).flatMap (fun c => 32 :: partD y c), 0) := by unfold lineR; rw [if_neg (by rw [h]; simp)]
theorem uses_cases (k : Int) : (usesL k = [119, 98] ∧ uW k = true ∧ uN k = false ∧ uB k = true) ∨ (usesL k = [119] ∧ uW k = true ∧ uN k = false ∧ uB k = false) ∨ (usesL k = [110] ∧ uW k = false ∧ uN k = true ∧ uB k = false) ∨ (usesL k = [] ∧ uW k = false ∧ uN k = false ∧ uB k = false) := by
  unfold usesL uW uN uB
  rcases kinds k with h | h | rfl | rfl | rfl | rfl | rfl | rfl
  · right; right; right
    rw [if_neg (by omega), if_neg (by omega), if_neg (by omega)]
    exact ⟨rfl, decide_eq_false (by omega), decide_eq_false (by omega), decide_eq_false (by omega)⟩
  · right; right; right
    rw [if_neg (by omega), if_neg (by omega), if_neg (by omega)]
    exact ⟨rfl, decide_eq_false (by omega), decide_eq_false (by omega), decide_eq_false (by omega)⟩
  all_goals simp
theorem catB (a b c : ByteArray) (hc : c = a ++ b) (h : a.size + b.size ≤ 1000000000) (w : World) : (binOp .add 9 (.string a) (.string b)).run Tryd.prog w = .ok (.string c) w := by
  have hz : ¬ 9223372036854775807 < a.size + b.size := by omega
  subst hc
  go_simp
theorem ba_cat {a b : List UInt8} : (⟨(a ++ b).toArray⟩ : ByteArray) = ⟨a.toArray⟩ ++ ⟨b.toArray⟩ := ByteArray.ext (by simp)
theorem ba_size (a : List UInt8) : (⟨a.toArray⟩ : ByteArray).size = a.length := by show a.toArray.size = _; simp
/-- A box of the document's act. -/
structure DBx (w W : World) (y : D4) : Prop where
  bel : Below w.heap.size w W
  p : W.heap[w.heap.size]? = some (Obj.cells (d4C y).toArray 32 (0, 0))
theorem DBx.below {w W W' : World} {y : D4} (h : DBx w W y) (hb : Below W.heap.size W W') : DBx w W' y := ⟨h.bel.trans (hb.mono h.bel.size), (hb.block _ (lt_heap h.p)).trans h.p⟩
theorem DBx.cells {w W : World} {x : D4} (h : DBx w W x) : W.cell? ⟨w.heap.size, 0, none⟩ = some (.int .i64 x.kind) ∧ W.cell? ⟨w.heap.size, 1, none⟩ = some (.int .i64 x.who) ∧ W.cell? ⟨w.heap.size, 2, none⟩ = some (.int .i64 x.n) ∧ W.cell? ⟨w.heap.size, 3, none⟩ = some (.string ⟨x.b.toArray⟩) := by
  rw [cell_blk h.p, cell_blk h.p, cell_blk h.p, cell_blk h.p]; exact ⟨rfl, rfl, rfl, rfl⟩
set_option maxRecDepth 100000 in
set_option maxHeartbeats 8000000 in
theorem refLine_any (x : D4) (w : World) :
    Calls Tryd.prog 28 #[.agg (d4C x).toArray] w fun e w' => e = .returned (.tuple #[.string ⟨(lineR (bareD x)).1.toArray⟩, .int .i64 (lineR (bareD x)).2]) ∧ Below w.heap.size w w' := by
  have HX : Hid ((w.alloc (.cells (d4C x).toArray 32)).heap[w.heap.size]? = some (Obj.cells (d4C x).toArray 32 (0, 0))) := heap_alloc_new _ _
  have HB0 : Hid (Below w.heap.size w (w.alloc (.cells (d4C x).toArray 32))) := below_alloc1 _ _
  have KB : Hid (∀ W, Calls Tryd.prog 13 #[.agg (d4C x).toArray] W fun e w' => e = .returned (.agg (d4C (bareD x)).toArray) ∧ Below W.heap.size W w') := fun W => refBare_any x W
  generalize bareD x = y at *
  go_enter Tryd.func28, Tryd.ntmps28
  go_upto_region 1 with fail
  generalize w.alloc (.cells (d4C x).toArray 32) = W0 at *
  go_upto_region 2 with (first
    | (refine ld_D4 rfl _ rfl w.heap.size 0 x rfl (range_whole (by simpa using HX.out)) ?_)
    | (go_at_call 13; (refine (KB.out _).mono ?_); rintro e W1 ⟨rfl, hb1⟩; have HX1 : Hid (W1.heap[w.heap.size]? = some (Obj.cells (d4C x).toArray 32 (0, 0))) := ((hb1.block _ (lt_heap HX.out)).trans HX.out); have HB1 : Hid (Below w.heap.size w W1) := HB0.out.trans (hb1.mono HB0.out.size); clear hb1 HX HB0 KB)
    | ((with_reducible refine gate_st 32 _ _ rfl ?_); refine wl_str rfl _ _ _ rfl w.heap.size (d4C y).toArray (d4C x).toArray _ sizD4 rfl (by simp [d4C, Value.oneCell']) rfl rfl HX1.out ?_))
  have HD : Hid (DBx w (W1.setRow w.heap.size (d4C y).toArray) y) := ⟨setRow_below HB1.out (Nat.le_refl _) _, setRow_at HX1.out⟩
  clear HX1 HB1
  generalize W1.setRow w.heap.size (d4C y).toArray = W2 at *
  have p0 := HD.out.cells.1
  have p1 := HD.out.cells.2.1
  have p2 := HD.out.cells.2.2.1
  have p3 := HD.out.cells.2.2.2
  have hsz := ba_size y.b
  by_cases h1 : y.kind < 1
  · have HE := Lib.hid (lineR_err (err_16 (Or.inl h1)) (by decide))
    go_wp2_with fail
    go_ret2
    exact ⟨by rw [HE.out]; rfl, HD.out.bel⟩
  by_cases h2 : 6 < y.kind
  · have HE := Lib.hid (lineR_err (err_16 (Or.inr h2)) (by decide))
    go_wp2_with fail
    go_ret2
    exact ⟨by rw [HE.out]; rfl, HD.out.bel⟩
  by_cases h3 : y.who < 0
  · have HE := Lib.hid (lineR_err (err_5 h1 h2 (Or.inl h3)) (by decide))
    go_wp2_with fail
    go_ret2
    exact ⟨by rw [HE.out]; rfl, HD.out.bel⟩
  by_cases h4 : 7 < y.who
  · have HE := Lib.hid (lineR_err (err_5 h1 h2 (Or.inr (Or.inl h4))) (by decide))
    go_wp2_with fail
    go_ret2
    exact ⟨by rw [HE.out]; rfl, HD.out.bel⟩
  by_cases h5 : y.n < 0
  · have HE := Lib.hid (lineR_err (err_5 h1 h2 (Or.inr (Or.inr (Or.inl h5)))) (by decide))
    go_wp2_with fail
    go_ret2
    exact ⟨by rw [HE.out]; rfl, HD.out.bel⟩
  by_cases h6 : 300 < y.n
  · have HE := Lib.hid (lineR_err (err_5 h1 h2 (Or.inr (Or.inr (Or.inr h6)))) (by decide))
    go_wp2_with fail
    go_ret2
    exact ⟨by rw [HE.out]; rfl, HD.out.bel⟩
  by_cases h7 : 1300 < y.b.length
  · have HE := Lib.hid (lineR_err (err_2 h1 h2 h3 h4 h5 h6 h7) (by decide))
    have h8 : (1300 : Int) < y.b.length := by omega
    go_wp2_with fail
    go_ret2
    exact ⟨by rw [HE.out]; rfl, HD.out.bel⟩
  have HE := Lib.hid (lineR_ok (err_0 h1 h2 h3 h4 h5 h6 h7))
  have h8 : ¬ (1300 : Int) < y.b.length := by omega
  go_upto_region 8 with fail
  clear h8
  have k1 : 1 ≤ y.kind := by omega
  have k6 : y.kind ≤ 6 := by omega
  have w0 : 0 ≤ y.who := by omega
  have w7 : y.who ≤ 7 := by omega
  have n0 : 0 ≤ y.n := by omega
  have n3 : y.n ≤ 300 := by omega
  have hbl : y.b.length ≤ 1300 := by omega
  clear h1 h2 h3 h4 h5 h6 h7 p1 p2 p3 hsz
  have KW : Hid (∀ W, Calls Tryd.prog 36 #[.int .i64 y.kind] W fun e w' => e = .returned (.string ⟨(wordL y.kind).toArray⟩) ∧ Below W.heap.size W w') := fun W => refWord_any y.kind W k1 k6
  have KU : Hid (∀ W, Calls Tryd.prog 29 #[.int .i64 y.kind] W fun e w' => e = .returned (.tuple #[.bool (uW y.kind), .bool (uN y.kind), .bool (uB y.kind)]) ∧ Below W.heap.size W w') := fun W => refUses_any y.kind W
  have KD1 : Hid (∀ W, Calls Tryd.prog 37 #[.int .i64 y.who] W fun e w' => e = .returned (.string ⟨(decL y.who).toArray⟩) ∧ Below W.heap.size W w') := fun W => refDec_any y.who W w0 (by omega)
  have KD2 : Hid (∀ W, Calls Tryd.prog 37 #[.int .i64 y.n] W fun e w' => e = .returned (.string ⟨(decL y.n).toArray⟩) ∧ Below W.heap.size W w') := fun W => refDec_any y.n W n0 (by omega)
  have KH : Hid (∀ W, Calls Tryd.prog 15 #[.string ⟨y.b.toArray⟩] W fun e w' => e = .returned (.string ⟨(hexD y.b).toArray⟩) ∧ Below W.heap.size W w') := fun W => refHex_any y.b W (by omega)
  have hl1 := wordL_len y.kind
  have hl2 := dec_len y.who
  have hl3 := dec_len y.n
  have hl4 : (hexD y.b).length ≤ 2601 := by have := hexD_len y.b; omega
  have HU := Lib.hid (uses_cases y.kind)
  generalize uW y.kind = bw at *
  generalize uN y.kind = bn at *
  generalize uB y.kind = bb at *
  go_upto_region 9 with (go_at_call 36; (refine (KW.out _).mono ?_); rintro e W3 ⟨rfl, hb3⟩; have HD3 := Lib.hid (HD.out.below hb3); clear hb3 HD p0 KW; have p0 := HD3.out.cells.1)
  go_upto_region 10 with (go_at_call 29; (refine (KU.out _).mono ?_); rintro e W4 ⟨rfl, hb4⟩; have HD4 := Lib.hid (HD3.out.below hb4); clear hb4 HD3 p0 KU)
  have HP : Hid (∀ c, partD y c = if c = 119 then decL y.who else if c = 110 then decL y.n else hexD y.b) := fun c => rfl
  generalize wordL y.kind = A at *
  have q1 := HD4.out.cells.2.1
  have q2 := HD4.out.cells.2.2.1
  have q3 := HD4.out.cells.2.2.2
  generalize decL y.who = d1 at *
  generalize decL y.n = d2 at *
  generalize hexD y.b = d3 at *
  have hA := ba_size A
  have z1 := ba_size d1
  have z2 := ba_size d2
  have z3 := ba_size d3
  rcases HU.out with ⟨eu, rfl, rfl, rfl⟩ | ⟨eu, rfl, rfl, rfl⟩ | ⟨eu, rfl, rfl, rfl⟩ | ⟨eu, rfl, rfl, rfl⟩
  · have HE2 : Hid (lineR y = (A ++ [32] ++ d1 ++ [32] ++ d3, 0)) := by show _ = _; rw [HE.out, eu]; simp [HP.out]
    clear HE HU HP eu
    generalize ga : (⟨A.toArray⟩ : ByteArray) = S0 at *
    have e0 := Lib.hid ga
    clear ga
    generalize gd1 : (⟨d1.toArray⟩ : ByteArray) = Sd1 at *
    have ed1 := Lib.hid gd1
    clear gd1
    generalize gd3 : (⟨d3.toArray⟩ : ByteArray) = Sd3 at *
    have ed3 := Lib.hid gd3
    clear gd3
    go_wp2_with (first
      | (go_at_call 37; (refine (KD1.out _).mono ?_); rintro e V0 ⟨rfl, hv0⟩; have HV0 := Lib.hid (HD4.out.below hv0); clear hv0 HD4 KD1 q1 q2 q3; have q1 := HV0.out.cells.2.1; have q2 := HV0.out.cells.2.2.1; have q3 := HV0.out.cells.2.2.2)
      | (go_at_call 15; (refine (KH.out _).mono ?_); rintro e V1 ⟨rfl, hv1⟩; have HV1 := Lib.hid (HV0.out.below hv1); clear hv1 HV0 KH q1 q2 q3; have q1 := HV1.out.cells.2.1; have q2 := HV1.out.cells.2.2.1; have q3 := HV1.out.cells.2.2.2))
    go_ret2
    have EE : (S0 ++ ⟨#[32]⟩ ++ Sd1 ++ ⟨#[32]⟩ ++ Sd3 : ByteArray) = ⟨(A ++ [32] ++ d1 ++ [32] ++ d3).toArray⟩ := by simp only [ba_cat, e0.out, ed1.out, ed3.out]
    refine ⟨?_, HV1.out.bel⟩
    rw [HE2.out, ← EE]; rfl
  · have HE2 : Hid (lineR y = (A ++ [32] ++ d1, 0)) := by show _ = _; rw [HE.out, eu]; simp [HP.out]
    clear HE HU HP eu
    generalize ga : (⟨A.toArray⟩ : ByteArray) = S0 at *
    have e0 := Lib.hid ga
    clear ga
    generalize gd1 : (⟨d1.toArray⟩ : ByteArray) = Sd1 at *
    have ed1 := Lib.hid gd1
    clear gd1
    go_wp2_with (first
      | (go_at_call 37; (refine (KD1.out _).mono ?_); rintro e V0 ⟨rfl, hv0⟩; have HV0 := Lib.hid (HD4.out.below hv0); clear hv0 HD4 KD1 q1 q2 q3; have q1 := HV0.out.cells.2.1; have q2 := HV0.out.cells.2.2.1; have q3 := HV0.out.cells.2.2.2))
    go_ret2
    have EE : (S0 ++ ⟨#[32]⟩ ++ Sd1 : ByteArray) = ⟨(A ++ [32] ++ d1).toArray⟩ := by simp only [ba_cat, e0.out, ed1.out]
    refine ⟨?_, HV0.out.bel⟩
    rw [HE2.out, ← EE]; rfl
  · have HE2 : Hid (lineR y = (A ++ [32] ++ d2, 0)) := by show _ = _; rw [HE.out, eu]; simp [HP.out]
    clear HE HU HP eu
    generalize ga : (⟨A.toArray⟩ : ByteArray) = S0 at *
    have e0 := Lib.hid ga
    clear ga
    generalize gd2 : (⟨d2.toArray⟩ : ByteArray) = Sd2 at *
    have ed2 := Lib.hid gd2
    clear gd2
    go_wp2_with (first
      | (go_at_call 37; (refine (KD2.out _).mono ?_); rintro e V0 ⟨rfl, hv0⟩; have HV0 := Lib.hid (HD4.out.below hv0); clear hv0 HD4 KD2 q1 q2 q3; have q1 := HV0.out.cells.2.1; have q2 := HV0.out.cells.2.2.1; have q3 := HV0.out.cells.2.2.2))
    go_ret2
    have EE : (S0 ++ ⟨#[32]⟩ ++ Sd2 : ByteArray) = ⟨(A ++ [32] ++ d2).toArray⟩ := by simp only [ba_cat, e0.out, ed2.out]
    refine ⟨?_, HV0.out.bel⟩
    rw [HE2.out, ← EE]; rfl
  · have HE2 : Hid (lineR y = (A, 0)) := by show _ = _; rw [HE.out, eu]; simp [HP.out]
    clear HE HU HP eu
    generalize ga : (⟨A.toArray⟩ : ByteArray) = S0 at *
    have e0 := Lib.hid ga
    clear ga
    go_wp2_with fail
    go_ret2
    have EE : (S0 : ByteArray) = ⟨(A).toArray⟩ := by simp only [ba_cat, e0.out]
    refine ⟨?_, HD4.out.bel⟩
    rw [HE2.out, ← EE]; rfl
end Go.Proofs.YtmbbhnbfgcmkgaaDoor
