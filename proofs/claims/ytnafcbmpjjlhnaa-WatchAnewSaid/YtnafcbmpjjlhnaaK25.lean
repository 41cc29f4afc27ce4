/- The document's Cut: some writes, at most 20. -/
import Derived.Test.YtnafcbmpjjlhnaaK24
namespace Go.Proofs.Ytnafcbmpjjlhnaa
open Go.RowKit

def setT (r : Wr) (s : ByteArray) : Wr := ⟨r.key, r.dead, r.rest.take 8 ++ [.string s], r.lkey, by simp [r.lrest], by
  rw [List.all_append, Bool.and_eq_true]
  refine ⟨?_, rfl⟩
  rw [List.all_eq_true]
  intro u hu
  exact (List.all_eq_true.1 r.one) u (List.mem_of_mem_take hu)⟩
theorem setT_cells (r : Wr) (s : ByteArray) : (wrC r).take 34 ++ [Value.string s] ++ (wrC r).drop (34 + 1) = wrC (setT r s) := by
  have h : (wrC r).take 34 = (bC r.key).toList ++ (.bool r.dead :: r.rest.take 8) := by
    unfold wrC
    have h1 : (bC r.key).toList.length = 25 := by simp [bC, r.lkey]
    rw [List.take_append, List.take_of_length_le (by omega), h1]
    rfl
  rw [h, List.drop_eq_nil_of_le (by rw [wrC_len]; omega)]
  simp [wrC, setT]
theorem txt_cell {r : Wr} {s : ByteArray} (h : r.rest[8]? = some (.string s)) : (wrC r).toArray[34]? = some (.string s) := by
  have h1 : (bC r.key).toList.length = 25 := by simp [bC, r.lkey]
  rw [List.getElem?_toArray]
  unfold wrC
  rw [List.getElem?_append_right (by omega), h1]
  exact h
/-- What Cut makes of a write: its text cut. -/
def cutW (r : Wr) : Wr := match r.rest[8]? with | some (Value.string s) => setT r (s.extract 0 (min s.size 80)) | _ => r
theorem cutW_txt {r : Wr} {s : ByteArray} (h : r.rest[8]? = some (.string s)) {m : Nat} (hm : m = min s.size 80) : cutW r = setT r (s.extract 0 m) := by unfold cutW; rw [h, hm]
def cutL (xs : List Wr) : List Wr := (xs.take 20).map cutW
theorem cutL_len (xs : List Wr) : (cutL xs).length ≤ 20 := by simp [cutL]; omega
theorem siz9 : (Try.prog.info? 9).map (·.size) = some 1 := by kernel_rfl
def wz : Array Value := #[Value.int IntKind.u8 0, Value.int IntKind.u8 0, Value.int IntKind.u8 0, Value.int IntKind.u8 0, Value.int IntKind.u8 0, Value.int IntKind.u8 0, Value.int IntKind.u8 0, Value.int IntKind.u8 0, Value.int IntKind.u8 0, Value.int IntKind.u8 0, Value.int IntKind.u8 0, Value.int IntKind.u8 0, Value.int IntKind.u8 0, Value.int IntKind.u8 0, Value.int IntKind.u8 0, Value.int IntKind.u8 0, Value.int IntKind.u8 0, Value.int IntKind.u8 0, Value.int IntKind.u8 0, Value.int IntKind.u8 0, Value.int IntKind.u8 0, Value.int IntKind.u8 0, Value.int IntKind.u8 0, Value.int IntKind.u8 0, Value.int IntKind.u8 0, Value.bool false, Value.int IntKind.u8 0, Value.int IntKind.u8 0, Value.int IntKind.u8 0, Value.int IntKind.u8 0, Value.int IntKind.u8 0, Value.bool false, Value.int IntKind.u32 0, Value.int IntKind.u64 0, Value.string ⟨#[]⟩]
set_option maxRecDepth 100000 in
set_option maxHeartbeats 8000000 in
theorem cut_any14 (q : Option Addr) (n c : Nat) (xs : List Wr) (w : World) (hn : xs.length = n) (hq : SlAt wrC 35 w q xs) (ht : ∀ x ∈ xs, Txt x) :
    Calls Try.prog 8 #[.slice q n c] w fun e w' => ∃ v', e = .returned v' ∧ OwnE wrC 58 35 w' w.heap.size v' (cutL xs) ∧ Below w.heap.size w w' := by
  have HN := Lib.hid hn
  have HQ := Lib.hid hq
  have HT := Lib.hid ht
  clear hn hq ht
  go_enter Try.func8, Try.ntmps8
  go_wp2_with fail
  go_loopw [3, 4] (fun vo vi wr => ∃ (k : Nat) (ys : List Wr), k ≤ n ∧ k ≤ 20 ∧ vi = .int .i64 k ∧ ys.length = k ∧ Hid (ys = (xs.take k).map cutW) ∧ Hid (OwnE wrC 58 35 wr w.heap.size vo ys) ∧ Hid (Below w.heap.size w wr)) (fun _ vi _ => 20 - (intOf vi).toNat)
  case atStart => exact ⟨0, [], Nat.zero_le _, Nat.zero_le _, rfl, rfl, rfl, OwnE.nil _ _, Below.refl _ _⟩
  case round =>
    obtain ⟨k, ys, hkn, hk20, rfl, hyl, HY, HO, HB⟩ := hrel
    by_cases h1 : k < n
    · have h1i : (k : Int) < n := by omega
      by_cases h2 : k < 20
      · have h2i : (k : Int) < 20 := by omega
        obtain ⟨b, o, rfl, hbs, hro⟩ := HQ.out k (by rw [HN.out]; exact h1)
        obtain ⟨r, hr⟩ : ∃ r, r = xs[k]'(by rw [HN.out]; exact h1) := ⟨_, rfl⟩
        rw [← hr] at hro
        obtain ⟨s, hs⟩ := HT.out r (by rw [hr]; exact List.getElem_mem _)
        have HRow : Hid (wr.rangeAt b (o + k * 35) (wrC r)) := range_of_block hro (HB.out.block b hbs)
        have HS := Lib.hid hs
        have HY2 : Hid ((xs.take (k + 1)).map cutW = ys ++ [cutW r]) := by show _ = _; rw [List.take_succ_eq_append_getElem (by rw [HN.out]; exact h1), List.map_append, ← HY.out, hr]; rfl
        clear hro hr hs
        go_upto_region 6 with (first | ((with_reducible refine gate_ld 58 (.tmp 18) rfl ?_); refine wl_ldr rfl 58 _ rfl b (o + k * 35) (wrC r) _ Try.underlying58 rfl (by rw [sizWr, wrC_len]) rfl HRow.out ?_) | ((with_reducible refine gate_st 58 (.tmp 5) _ rfl ?_); refine wl_strn rfl _ _ _ rfl (wrC r).toArray wz _ (by rw [sizWr]; simp [wrC_len]) (by simp [wrC_len, wz]) (by rw [← Array.all_toList]; exact wrC_one r) (by simp [Act.eval]) rfl ?_))
        have HB4 := Lib.hid (HB.out.alloc HB.out.size (.cells (wrC r).toArray 58))
        have HN4 : Hid ((wr.alloc (.cells (wrC r).toArray 58)).heap[wr.heap.size]? = some (.cells (wrC r).toArray 58 (0, 0))) := heap_alloc_new _ _
        have HO4 := Lib.hid (HO.out.below (below_alloc1 wr (.cells (wrC r).toArray 58)))
        generalize wr.alloc (.cells (wrC r).toArray 58) = W4 at *
        have hct : W4.cell? ⟨wr.heap.size, 34, none⟩ = some (.string s) := by rw [cell_blk HN4.out]; exact txt_cell HS.out
        obtain ⟨m, hm, hml⟩ : ∃ m : Nat, min (s.size : Int) 80 = (m : Int) ∧ m ≤ s.size := ⟨min s.size 80, by omega, Nat.min_le_left _ _⟩
        have HM : Hid (cutW r = setT r (s.extract 0 m)) := cutW_txt HS.out (by omega)
        have hmi : ¬ (s.size : Int) < m := by omega
        obtain ⟨s', hs'⟩ : ∃ s', s' = s.extract 0 m := ⟨_, rfl⟩
        go_upto_region 7 with (first | ((with_reducible refine gate_st 9 (.tmp 30) _ rfl ?_); refine wl_st1 rfl 9 siz9 _ _ rfl wr.heap.size 34 (.string s') rfl (by rw [hs']; rfl) rfl _ _ HN4.out (by rw [wrC_len]; omega) ?_; rw [setT_cells]))
        have HB5 : Hid (Below w.heap.size w (W4.setRow wr.heap.size (wrC (setT r s')).toArray)) := setRow_below HB4.out HB.out.size _
        have HO5 : Hid (OwnE wrC 58 35 (W4.setRow wr.heap.size (wrC (setT r s')).toArray) w.heap.size u3 ys) := HO4.out.block fun g hg => setRow_other _ _ _ _ (by have := (HO.out.lt g hg).2; omega)
        have HN5 : Hid ((W4.setRow wr.heap.size (wrC (setT r s')).toArray).heap[wr.heap.size]? = some (.cells (wrC (setT r s')).toArray 58 (0, 0))) := setRow_at HN4.out
        generalize W4.setRow wr.heap.size (wrC (setT r s')).toArray = W5 at *
        rw [← hs'] at HM
        rw [HM.out] at HY2
        clear HM
        generalize setT r s' = r' at *
        clear hct hs' hm hml hmi HB4 HN4 HO4
        have HN5r := Lib.hid (range_whole HN5.out)
        go_wp2_with (first | ((with_reducible refine gate_ld 58 (.tmp 5) rfl ?_); refine wl_ldr rfl 58 _ rfl wr.heap.size 0 (wrC r') _ Try.underlying58 rfl (by rw [sizWr, wrC_len]) rfl HN5r.out ?_) | (refine wl_bs1 (k := 35) 42 58 72 (.agg (wrC wr0).toArray) Try.underlying42 infoW wr0_sz (by omega) (by omega) wrC_len rfl (.tmp 32) rfl r' rfl ?_) | (at_builtin; refine wl_app1 (k := 35) 42 58 72 (.agg (wrC wr0).toArray) Try.underlying42 infoW wr0_sz (by omega) wrC_len wrC_one' rfl (.tmp 31) (.tmp 33) rfl w.heap.size u3 ys rfl (HO5.out.below (below_alloc1 _ _)) _ _ r' rfl (range_whole (heap_alloc_new _ _)) (by omega) (by unfold maxLen; omega) (HB5.out.alloc HB5.out.size _).size (fun v' w' hv hg => ?_); have HV := Lib.hid hv; have HG := Lib.hid (grown_below hg (fun g hg => ((HO5.out.lt g hg).1)) (HB5.out.alloc HB5.out.size _).size); clear hv hg))
        go_roundw
        case rel => exact ⟨k + 1, ys ++ [r'], by omega, by omega, by go_num, by simp [hyl], HY2.out.symm, HV, (HB5.out.alloc HB5.out.size _).trans HG.out⟩
        case measure => simp [intOf]; omega
      · have h2i : ¬ (k : Int) < 20 := by omega
        have HR : Hid (ys = cutL xs) := by
          show _ = _
          rw [HY.out]
          obtain rfl : k = 20 := by omega
          rfl
        go_wp2_with fail
        go_ret
        exact ⟨_, rfl, HR.out ▸ HO.out, HB.out⟩
    · have h1i : ¬ (k : Int) < n := by omega
      have HR : Hid (ys = cutL xs) := by
        show _ = _
        rw [HY.out, cutL, List.take_of_length_le (by rw [HN.out]; omega), List.take_of_length_le (l := xs) (by rw [HN.out]; omega)]
      go_wp2_with fail
      go_ret
      exact ⟨_, rfl, HR.out ▸ HO.out, HB.out⟩
end Go.Proofs.Ytnafcbmpjjlhnaa
