/- The document's Unpin, Count. -/
import Derived.Test.YtmdhlpnieimdaaaZF
namespace Go.Proofs.Ytmdhlpnieimdaaa
open Go.RowKit

theorem DT.un {W : World} {B u k : Nat} {ts : List Nat} (hu : u < 18446744073709551616) (h : DT W B u ts) (hk : k < 64) : DT ((W.setCell ⟨B, k, none⟩ (.bool false)).setCell ⟨B, 64 + k, none⟩ (.int .u64 0)) B (clearB u k) (ts.set k 0) := by
  have h1 := heap_setCell_self (i := k) (.bool false) h
  rw [dC_un hu ts hk] at h1
  have h2 := heap_setCell_self (i := 64 + k) (.int .u64 ((0 : Nat) : Int)) h1
  rw [dC_set] at h2
  exact h2
set_option maxRecDepth 100000 in
set_option maxHeartbeats 4000000 in
theorem refUnpin_no (u : Nat) (id : Int) (ts : List Nat) (w : World) (hl : ts.length = 64) (h0 : hasL u id = false) :
    Calls Try.prog 13 #[.agg (dC u ts), .int .i64 id] w fun e w' => e = .returned (.tuple #[.agg (dC u ts), .bool false]) ∧ Below w.heap.size w w' := by
  have hz := zero43
  have HD0 : Hid (DT (w.alloc (.cells (dC u ts) 43)) w.heap.size u ts) := heap_alloc_new _ _
  have HB0 : Hid (Below w.heap.size w (w.alloc (.cells (dC u ts) 43))) := below_alloc1 _ _
  have HS0 : Hid ((w.alloc (.cells (dC u ts) 43)).heap.size = w.heap.size + 1) := by show _ = _; simp
  have H0 := Lib.hid h0
  clear h0
  go_enter Try.func13, Try.ntmps13
  go_upto_region 1 with fail
  generalize w.alloc (.cells (dC u ts) 43) = W0 at *
  have HD1 : Hid (DT (W0.alloc (.cells (dC 0 zL) 43)) w.heap.size u ts) := HD0.out.below (by rw [HS0.out]; omega) (below_alloc1 _ _)
  have HE1 : Hid (DT (W0.alloc (.cells (dC 0 zL) 43)) (w.heap.size + 1) 0 zL) := by show DT _ _ _ _; rw [← HS0.out]; exact heap_alloc_new _ _
  have HB1 : Hid (Below w.heap.size w (W0.alloc (.cells (dC 0 zL) 43))) := HB0.out.trans ((below_alloc1 _ _).mono HB0.out.size)
  clear HD0 HB0 HS0
  by_cases hneg : id < 0
  · clear H0
    go_upto_region 2 with fail
    clear hz
    generalize W0.alloc (.cells (dC 0 zL) 43) = W1 at *
    go_wp2_with (first
      | ((with_reducible refine gate_ld 43 (.tmp 2) rfl ?_); refine wl_ldr rfl 43 _ rfl w.heap.size 0 (dL u ts) _ Try.underlying43 rfl (by rw [siz43, dL_len _ hl]) rfl HD1.out.range ?_)
      | ((with_reducible refine gate_st 43 (.tmp 4) (.tmp 19) rfl ?_); refine wl_str rfl 43 _ _ rfl (w.heap.size + 1) (dC u ts) _ 43 (by rw [siz43, dC_size _ hl]) (by rw [dC_size _ hl, dC_size _ zL_len]) (dC_one _ _) rfl rfl HE1.out ?_))
    refine bodyPost_ret (res_rowc_tmp rfl _ _ (w.heap.size + 1) (dC u ts) _ rfl (setRow_at HE1.out) Try.underlying43 rfl (by rw [siz43, dC_size _ hl])) rfl ⟨rfl, setRow_below HB1.out (Nat.le_succ _) _⟩
  by_cases hbig : 63 < id
  · clear H0
    go_upto_region 2 with fail
    clear hz
    generalize W0.alloc (.cells (dC 0 zL) 43) = W1 at *
    go_wp2_with (first
      | ((with_reducible refine gate_ld 43 (.tmp 2) rfl ?_); refine wl_ldr rfl 43 _ rfl w.heap.size 0 (dL u ts) _ Try.underlying43 rfl (by rw [siz43, dL_len _ hl]) rfl HD1.out.range ?_)
      | ((with_reducible refine gate_st 43 (.tmp 4) (.tmp 19) rfl ?_); refine wl_str rfl 43 _ _ rfl (w.heap.size + 1) (dC u ts) _ 43 (by rw [siz43, dC_size _ hl]) (by rw [dC_size _ hl, dC_size _ zL_len]) (dC_one _ _) rfl rfl HE1.out ?_))
    refine bodyPost_ret (res_rowc_tmp rfl _ _ (w.heap.size + 1) (dC u ts) _ rfl (setRow_at HE1.out) Try.underlying43 rfl (by rw [siz43, dC_size _ hl])) rfl ⟨rfl, setRow_below HB1.out (Nat.le_succ _) _⟩
  obtain ⟨k, rfl⟩ : ∃ k : Nat, id = k := ⟨id.toNat, by omega⟩
  have hk : k < 64 := by omega
  have hkI : (k : Int) < 64 := by omega
  have hb : u.testBit k = false := by
    have h := H0.out
    simp only [hasL, Int.toNat_natCast] at h
    have h1 : decide (0 ≤ (k : Int)) = true := by simp
    have h2 : decide ((k : Int) < 64) = true := by simpa using hkI
    rw [h1, h2] at h
    simpa using h
  have hci := HD1.out.is hk
  rw [hb] at hci
  go_upto_region 2 with fail
  clear hz
  generalize W0.alloc (.cells (dC 0 zL) 43) = W1 at *
  go_wp2_with (first
    | ((with_reducible refine gate_ld 43 (.tmp 2) rfl ?_); refine wl_ldr rfl 43 _ rfl w.heap.size 0 (dL u ts) _ Try.underlying43 rfl (by rw [siz43, dL_len _ hl]) rfl HD1.out.range ?_)
    | ((with_reducible refine gate_st 43 (.tmp 4) (.tmp 19) rfl ?_); refine wl_str rfl 43 _ _ rfl (w.heap.size + 1) (dC u ts) _ 43 (by rw [siz43, dC_size _ hl]) (by rw [dC_size _ hl, dC_size _ zL_len]) (dC_one _ _) rfl rfl HE1.out ?_))
  refine bodyPost_ret (res_rowc_tmp rfl _ _ (w.heap.size + 1) (dC u ts) _ rfl (setRow_at HE1.out) Try.underlying43 rfl (by rw [siz43, dC_size _ hl])) rfl ⟨rfl, setRow_below HB1.out (Nat.le_succ _) _⟩
set_option maxRecDepth 100000 in
set_option maxHeartbeats 4000000 in
theorem refUnpin_yes (u k : Nat) (ts : List Nat) (w : World) (hl : ts.length = 64) (hu : u < 18446744073709551616) (hk : k < 64) (hb : u.testBit k = true) :
    Calls Try.prog 13 #[.agg (dC u ts), .int .i64 (k : Int)] w fun e w' => e = .returned (.tuple #[.agg (dC (clearB u k) (ts.set k 0)), .bool true]) ∧ Below w.heap.size w w' := by
  have hz := zero43
  have HD0 : Hid (DT (w.alloc (.cells (dC u ts) 43)) w.heap.size u ts) := heap_alloc_new _ _
  have HB0 : Hid (Below w.heap.size w (w.alloc (.cells (dC u ts) 43))) := below_alloc1 _ _
  have HS0 : Hid ((w.alloc (.cells (dC u ts) 43)).heap.size = w.heap.size + 1) := by show _ = _; simp
  have hneg : ¬ (k : Int) < 0 := by omega
  have hbig : ¬ 63 < (k : Int) := by omega
  have hkI : (k : Int) < 64 := by omega
  go_enter Try.func13, Try.ntmps13
  go_upto_region 1 with fail
  generalize w.alloc (.cells (dC u ts) 43) = W0 at *
  have HD1 : Hid (DT (W0.alloc (.cells (dC 0 zL) 43)) w.heap.size u ts) := HD0.out.below (by rw [HS0.out]; omega) (below_alloc1 _ _)
  have HE1 : Hid (DT (W0.alloc (.cells (dC 0 zL) 43)) (w.heap.size + 1) 0 zL) := by show DT _ _ _ _; rw [← HS0.out]; exact heap_alloc_new _ _
  have HB1 : Hid (Below w.heap.size w (W0.alloc (.cells (dC 0 zL) 43))) := HB0.out.trans ((below_alloc1 _ _).mono HB0.out.size)
  clear HD0 HB0 HS0
  have hci := HD1.out.is hk
  have hca := HD1.out.at_ hl hk
  have hfr := fun i => HD1.out.frz i
  rw [hb] at hci
  go_upto_region 3 with fail
  clear hz
  generalize W0.alloc (.cells (dC 0 zL) 43) = W1 at *
  obtain ⟨Z, hZ⟩ : ∃ Z, (W1.setCell ⟨w.heap.size, k, none⟩ (.bool false)).setCell ⟨w.heap.size, 64 + k, none⟩ (.int .u64 0) = Z := ⟨_, rfl⟩
  have HP : Hid (DT Z w.heap.size (clearB u k) (ts.set k 0)) := by show DT _ _ _ _; rw [← hZ]; exact HD1.out.un hu hk
  have HEZ : Hid (DT Z (w.heap.size + 1) 0 zL) := by show DT _ _ _ _; rw [← hZ]; exact (heap_setCell_other _ (by omega)).trans ((heap_setCell_other _ (by omega)).trans HE1.out)
  have HBZ : Hid (Below w.heap.size w Z) := by show Below _ _ _; rw [← hZ]; exact HB1.out.trans (((Turn.setCell _ _ _ _).trans (Turn.setCell _ _ _ _)).below (by simp) HB1.out.size)
  have HZ := Lib.hid hZ
  clear hZ HE1 HB1
  go_upto_region 4 with fail
  rw [HZ.out]
  go_wp2_with (first
    | ((with_reducible refine gate_ld 43 (.tmp 2) rfl ?_); refine wl_ldr rfl 43 _ rfl w.heap.size 0 (dL (clearB u k) (ts.set k 0)) _ Try.underlying43 rfl (by rw [siz43, dL_len _ (by simp [hl])]) rfl HP.out.range ?_)
    | ((with_reducible refine gate_st 43 (.tmp 4) (.tmp 26) rfl ?_); refine wl_str rfl 43 _ _ rfl (w.heap.size + 1) (dC (clearB u k) (ts.set k 0)) _ 43 (by rw [siz43, dC_size _ (by simp [hl])]) (by rw [dC_size _ (by simp [hl]), dC_size _ zL_len]) (dC_one _ _) rfl rfl HEZ.out ?_))
  refine bodyPost_ret (res_rowc_tmp rfl _ _ (w.heap.size + 1) (dC (clearB u k) (ts.set k 0)) _ rfl (setRow_at HEZ.out) Try.underlying43 rfl (by rw [siz43, dC_size _ (by simp [hl])])) rfl ⟨rfl, setRow_below HBZ.out (Nat.le_succ _) _⟩

/-- Of the first n places: those at a time; all. -/
def cntA (u : Nat) (ts : List Nat) (t : Nat) : Nat → Nat := cntP (fun i => u.testBit i && ts.getD i 0 == t)
set_option maxRecDepth 100000 in
set_option maxHeartbeats 4000000 in
theorem refCount_any (u t : Nat) (ts : List Nat) (w : World) (hl : ts.length = 64) :
    Calls Try.prog 23 #[.agg (dC u ts), .int .u64 (t : Int)] w fun e w' => e = .returned (.tuple #[.int .i64 (cntA u ts t 64 : Nat), .int .i64 (cntP u.testBit 64 : Nat)]) ∧ Below w.heap.size w w' := by
  have HD0 : Hid (DT (w.alloc (.cells (dC u ts) 43)) w.heap.size u ts) := heap_alloc_new _ _
  have HB0 : Hid (Below w.heap.size w (w.alloc (.cells (dC u ts) 43))) := below_alloc1 _ _
  go_enter Try.func23, Try.ntmps23
  go_wp2_with fail
  generalize w.alloc (.cells (dC u ts) 43) = W0 at *
  go_loopw [6, 7, 8] (fun vn va vi wr => ∃ j : Nat, j ≤ 64 ∧ vi = .int .i64 j ∧ vn = .int .i64 (cntA u ts t j : Nat) ∧ va = .int .i64 (cntP u.testBit j : Nat) ∧ wr = W0) (fun _ _ vi _ => 64 - (intOf vi).toNat)
  case atStart => exact ⟨0, Nat.zero_le _, rfl, rfl, rfl, rfl⟩
  case round =>
    obtain ⟨j, hj, rfl, rfl, rfl, rfl⟩ := hrel
    by_cases hjk : j < 64
    · have hjI : (j : Int) < 64 := by omega
      have hci := HD0.out.is hjk
      have hca := HD0.out.at_ hl hjk
      have hnA : cntA u ts t (j + 1) = cntA u ts t j + if (u.testBit j && ts.getD j 0 == t) then 1 else 0 := rfl
      have hnP : cntP u.testBit (j + 1) = cntP u.testBit j + if u.testBit j then 1 else 0 := rfl
      have hbA : cntA u ts t j ≤ 64 := Nat.le_trans (cntP_le _ j) hj
      have hbP : cntP u.testBit j ≤ 64 := Nat.le_trans (cntP_le _ j) hj
      have HnA := Lib.hid hnA
      have HnP := Lib.hid hnP
      clear hnA hnP
      generalize cntA u ts t j = nA at *
      generalize cntP u.testBit j = nP at *
      cases hb : u.testBit j with
      | false =>
        rw [hb] at hci
        have e1 : cntA u ts t (j + 1) = nA := by rw [HnA.out, hb]; simp
        have e2 : cntP u.testBit (j + 1) = nP := by rw [HnP.out, hb]; simp
        have E1 := Lib.hid e1
        have E2 := Lib.hid e2
        clear e1 e2 HnA HnP hb
        go_wp2_with fail
        go_roundw
        case rel => exact ⟨j + 1, by omega, by go_num, by rw [E1.out], by rw [E2.out], by first | rfl | trivial⟩
        case measure => simp [intOf]; omega
      | true =>
        rw [hb] at hci
        have hw1 : IntKind.i64.wrap ((nP : Int) + 1) = ((nP + 1 : Nat) : Int) := by rw [IntWalk.i64_in _ (by omega)]; omega
        have e2 : cntP u.testBit (j + 1) = nP + 1 := by rw [HnP.out, hb]; simp
        have E2 := Lib.hid e2
        clear e2
        generalize htj : ts.getD j 0 = tj at *
        by_cases heq : tj = t
        · have e1 : cntA u ts t (j + 1) = nA + 1 := by rw [HnA.out, hb]; simp [heq]
          have hw2 : IntKind.i64.wrap ((nA : Int) + 1) = ((nA + 1 : Nat) : Int) := by rw [IntWalk.i64_in _ (by omega)]; omega
          have E1 := Lib.hid e1
          clear e1 HnA HnP hb htj
          subst heq
          go_wp2_with fail
          go_roundw
          case rel => exact ⟨j + 1, by omega, by go_num, by rw [E1.out]; go_num, by rw [E2.out]; go_num, by first | rfl | trivial⟩
          case measure => simp [intOf]; omega
        · have e1 : cntA u ts t (j + 1) = nA := by rw [HnA.out, hb]; simp [heq]
          have hne : ((tj : Int) == (t : Int)) = false := by simp; omega
          have hne2 : ¬ (tj : Int) = (t : Int) := by omega
          have E1 := Lib.hid e1
          clear e1 HnA HnP hb htj
          go_wp2_with fail
          go_roundw
          case rel => exact ⟨j + 1, by omega, by go_num, by rw [E1.out], by rw [E2.out]; go_num, by first | rfl | trivial⟩
          case measure => simp [intOf]; omega
    · obtain rfl : 64 = j := by omega
      go_wp2_with fail
      refine bodyPost_ret (results_tmp2 rfl _ _ _) rfl ⟨rfl, HB0.out⟩
end Go.Proofs.Ytmdhlpnieimdaaa
