/- The document's Pin. -/
import Derived.Test.YtmdhlpnieimdaaaZE
namespace Go.Proofs.Ytmdhlpnieimdaaa
open Go.RowKit

theorem res_rowc2 {P : Program} {fn : Func} {p t u : Tmp} {T T' : TypeId} {d : TypeDesc} (h : fn.results = #[.cell p T, .tmp t, .tmp u]) (tmps : Array Value) (w : World) (g : Nat) (cs : Array Value) (fr : Nat × Nat)
    (hp : tmps.getD p undef = .pointer (some ⟨g, 0, none⟩)) (hg : w.heap[g]? = some (.cells cs T' fr)) (hu : P.underlying T = some d) (hd : (match d with | .struct _ | .array _ _ => true | _ => false) = true) (hi : (P.info? T).map (·.size) = some cs.size) :
    (results fn tmps).run P w = .ok (.tuple #[.agg cs, tmps.getD t undef, tmps.getD u undef]) w := by
  have hp' : tmps[p]?.getD undef = .pointer (some ⟨g, 0, none⟩) := by simpa using hp
  have hload : (loadVar T ⟨g, 0, none⟩).run P w = .ok (.agg cs) w := by
    refine run_loadVar_row _ g T' T cs fr d hg hu ?_ hi
    revert hd
    cases d <;> intro hd <;> first | rfl | exact hd
  simp [results, h, hp', asAddr, hload]
/-- The document's table lies in block B. -/
def DT (W : World) (B u : Nat) (ts : List Nat) : Prop := W.heap[B]? = some (.cells (dC u ts) 43)
theorem DT.is {W : World} {B u : Nat} {ts : List Nat} (h : DT W B u ts) {i : Nat} (hi : i < 64) : W.cell? ⟨B, i, none⟩ = some (.bool (u.testBit i)) := by rw [cell_of_tab h, dC_is u ts hi]
theorem DT.at_ {W : World} {B u : Nat} {ts : List Nat} (h : DT W B u ts) (hl : ts.length = 64) {i : Nat} (hi : i < 64) : W.cell? ⟨B, 64 + i, none⟩ = some (.int .u64 ((ts.getD i 0 : Nat) : Int)) := by rw [cell_of_tab h, dC_at u hl hi]
theorem DT.below {W W' : World} {B u : Nat} {ts : List Nat} {b : Nat} (h : DT W B u ts) (hB : B < b) (hb : Below b W W') : DT W' B u ts := (hb.block B hB).trans h
theorem DT.range {W : World} {B u : Nat} {ts : List Nat} (h : DT W B u ts) : W.rangeAt B 0 (dL u ts) := range_whole h
theorem DT.frz {W : World} {B u : Nat} {ts : List Nat} (h : DT W B u ts) (i : Nat) : W.frozen? ⟨B, i, none⟩ = false := by
  have h' : W.heap[B]? = _ := h
  simp [World.frozen?, h']
theorem DT.pin {W : World} {B u k t : Nat} {ts : List Nat} (h : DT W B u ts) (hk : k < 64) : DT ((W.setCell ⟨B, k, none⟩ (.bool true)).setCell ⟨B, 64 + k, none⟩ (.int .u64 (t : Int))) B (u ||| 2 ^ k) (ts.set k t) := by
  have h1 := heap_setCell_self (i := k) (.bool true) h
  rw [dC_pin ts hk] at h1
  have h2 := heap_setCell_self (i := 64 + k) (.int .u64 (t : Int)) h1
  rw [dC_set] at h2
  exact h2
theorem dL_len (u : Nat) {ts : List Nat} (h : ts.length = 64) : (dL u ts).length = 128 := by simp [dL, h]
set_option maxRecDepth 100000 in
set_option maxHeartbeats 4000000 in
theorem refPin_room (u k t : Nat) (ts : List Nat) (w : World) (hl : ts.length = 64) (hk : k < 64) (h0 : u.testBit k = false) (h1 : ∀ i, i < k → u.testBit i = true) :
    Calls Try.prog 14 #[.agg (dC u ts), .int .u64 (t : Int)] w fun e w' => e = .returned (.tuple #[.agg (dC (u ||| 2 ^ k) (ts.set k t)), .int .i64 (k : Int), .int .i64 0]) ∧ Below w.heap.size w w' := by
  have hz := zero43
  have H1 := Lib.hid h1
  have HD0 : Hid (DT (w.alloc (.cells (dC u ts) 43)) w.heap.size u ts) := heap_alloc_new _ _
  have HB0 : Hid (Below w.heap.size w (w.alloc (.cells (dC u ts) 43))) := below_alloc1 _ _
  have HS0 : Hid ((w.alloc (.cells (dC u ts) 43)).heap.size = w.heap.size + 1) := by show _ = _; simp
  clear h1
  go_enter Try.func14, Try.ntmps14
  go_upto_region 1 with fail
  generalize w.alloc (.cells (dC u ts) 43) = W0 at *
  have HD1 : Hid (DT (W0.alloc (.cells (dC 0 zL) 43)) w.heap.size u ts) := HD0.out.below (by rw [HS0.out]; omega) (below_alloc1 _ _)
  have HE1 : Hid (DT (W0.alloc (.cells (dC 0 zL) 43)) (w.heap.size + 1) 0 zL) := by show DT _ _ _ _; rw [← HS0.out]; exact heap_alloc_new _ _
  have HB1 : Hid (Below w.heap.size w (W0.alloc (.cells (dC 0 zL) 43))) := HB0.out.trans ((below_alloc1 _ _).mono HB0.out.size)
  clear HD0 HB0 HS0 hz
  go_wp2_with fail
  generalize W0.alloc (.cells (dC 0 zL) 43) = W1 at *
  go_loopw [7] (fun vi wr => ∃ j : Nat, j ≤ k ∧ vi = .int .i64 j ∧ wr = W1) (fun vi _ => k - (intOf vi).toNat)
  case atStart => exact ⟨0, Nat.zero_le _, rfl, rfl⟩
  case round =>
    obtain ⟨j, hj, rfl, rfl⟩ := hrel
    have hj64 : j < 64 := by omega
    have hjI : (j : Int) < 64 := by omega
    have hci := HD1.out.is hj64
    by_cases hjk : j < k
    · have hb := H1.out j hjk
      rw [hb] at hci
      go_wp2_with fail
      go_roundw
      case rel => exact ⟨j + 1, by omega, by go_num, by first | rfl | trivial⟩
      case measure => simp [intOf]; omega
    · obtain rfl : j = k := by omega
      rw [h0] at hci
      have hca := HD1.out.at_ hl hj64
      have hfr : ∀ i, wr.frozen? ⟨w.heap.size, i, none⟩ = false := fun i => HD1.out.frz i
      have hEE := HE1.out
      obtain ⟨Z, hZ⟩ : ∃ Z, (wr.setCell ⟨w.heap.size, j, none⟩ (.bool true)).setCell ⟨w.heap.size, 64 + j, none⟩ (.int .u64 (t : Int)) = Z := ⟨_, rfl⟩
      have HP : Hid (DT Z w.heap.size (u ||| 2 ^ j) (ts.set j t)) := by show DT _ _ _ _; rw [← hZ]; exact HD1.out.pin hj64
      have HEZ : Hid (DT Z (w.heap.size + 1) 0 zL) := by show DT _ _ _ _; rw [← hZ]; exact (heap_setCell_other _ (by omega)).trans ((heap_setCell_other _ (by omega)).trans HE1.out)
      have HBZ : Hid (Below w.heap.size w Z) := by show Below _ _ _; rw [← hZ]; exact HB1.out.trans (((Turn.setCell _ _ _ _).trans (Turn.setCell _ _ _ _)).below (by simp) HB1.out.size)
      have HZ := Lib.hid hZ
      clear hZ HE1 hEE HB1
      go_upto_region 6 with fail
      rw [HZ.out]
      go_wp2_with (first
        | ((with_reducible refine gate_ld 43 (.tmp 2) rfl ?_); refine wl_ldr rfl 43 _ rfl w.heap.size 0 (dL (u ||| 2 ^ j) (ts.set j t)) _ Try.underlying43 rfl (by rw [siz43, dL_len _ (by simp [hl])]) rfl HP.out.range ?_)
        | ((with_reducible refine gate_st 43 (.tmp 4) (.tmp 24) rfl ?_); refine wl_str rfl 43 _ _ rfl (w.heap.size + 1) (dC (u ||| 2 ^ j) (ts.set j t)) _ 43 (by rw [siz43, dC_size _ (by simp [hl])]) (by rw [dC_size _ (by simp [hl]), dC_size _ zL_len]) (dC_one _ _) rfl rfl HEZ.out ?_))
      refine bodyPost_ret (res_rowc2 rfl _ _ (w.heap.size + 1) (dC (u ||| 2 ^ j) (ts.set j t)) _ rfl (setRow_at HEZ.out) Try.underlying43 rfl (by rw [siz43, dC_size _ (by simp [hl])])) rfl ⟨rfl, setRow_below HBZ.out (Nat.le_succ _) _⟩
set_option maxRecDepth 100000 in
set_option maxHeartbeats 4000000 in
theorem refPin_full (u t : Nat) (ts : List Nat) (w : World) (hl : ts.length = 64) (h1 : ∀ i, i < 64 → u.testBit i = true) :
    Calls Try.prog 14 #[.agg (dC u ts), .int .u64 (t : Int)] w fun e w' => e = .returned (.tuple #[.agg (dC u ts), .int .i64 0, .int .i64 6]) ∧ Below w.heap.size w w' := by
  have hz := zero43
  have H1 := Lib.hid h1
  have HD0 : Hid (DT (w.alloc (.cells (dC u ts) 43)) w.heap.size u ts) := heap_alloc_new _ _
  have HB0 : Hid (Below w.heap.size w (w.alloc (.cells (dC u ts) 43))) := below_alloc1 _ _
  have HS0 : Hid ((w.alloc (.cells (dC u ts) 43)).heap.size = w.heap.size + 1) := by show _ = _; simp
  clear h1
  go_enter Try.func14, Try.ntmps14
  go_upto_region 1 with fail
  generalize w.alloc (.cells (dC u ts) 43) = W0 at *
  have HD1 : Hid (DT (W0.alloc (.cells (dC 0 zL) 43)) w.heap.size u ts) := HD0.out.below (by rw [HS0.out]; omega) (below_alloc1 _ _)
  have HE1 : Hid (DT (W0.alloc (.cells (dC 0 zL) 43)) (w.heap.size + 1) 0 zL) := by show DT _ _ _ _; rw [← HS0.out]; exact heap_alloc_new _ _
  have HB1 : Hid (Below w.heap.size w (W0.alloc (.cells (dC 0 zL) 43))) := HB0.out.trans ((below_alloc1 _ _).mono HB0.out.size)
  clear HD0 HB0 HS0 hz
  go_wp2_with fail
  generalize W0.alloc (.cells (dC 0 zL) 43) = W1 at *
  go_loopw [7] (fun vi wr => ∃ j : Nat, j ≤ 64 ∧ vi = .int .i64 j ∧ wr = W1) (fun vi _ => 64 - (intOf vi).toNat)
  case atStart => exact ⟨0, Nat.zero_le _, rfl, rfl⟩
  case round =>
    obtain ⟨j, hj, rfl, rfl⟩ := hrel
    by_cases hjk : j < 64
    · have hjI : (j : Int) < 64 := by omega
      have hci := HD1.out.is hjk
      have hb := H1.out j hjk
      rw [hb] at hci
      go_wp2_with fail
      go_roundw
      case rel => exact ⟨j + 1, by omega, by go_num, by first | rfl | trivial⟩
      case measure => simp [intOf]; omega
    · obtain rfl : 64 = j := by omega
      have hEE := HE1.out
      go_wp2_with (first
        | ((with_reducible refine gate_ld 43 (.tmp 2) rfl ?_); refine wl_ldr rfl 43 _ rfl w.heap.size 0 (dL u ts) _ Try.underlying43 rfl (by rw [siz43, dL_len _ hl]) rfl HD1.out.range ?_)
        | ((with_reducible refine gate_st 43 (.tmp 4) (.tmp 26) rfl ?_); refine wl_str rfl 43 _ _ rfl (w.heap.size + 1) (dC u ts) _ 43 (by rw [siz43, dC_size _ hl]) (by rw [dC_size _ hl, dC_size _ zL_len]) (dC_one _ _) rfl rfl HE1.out ?_))
      refine bodyPost_ret (res_rowc2 rfl _ _ (w.heap.size + 1) (dC u ts) _ rfl (setRow_at HE1.out) Try.underlying43 rfl (by rw [siz43, dC_size _ hl])) rfl ⟨rfl, setRow_below HB1.out (Nat.le_succ _) _⟩
end Go.Proofs.Ytmdhlpnieimdaaa
