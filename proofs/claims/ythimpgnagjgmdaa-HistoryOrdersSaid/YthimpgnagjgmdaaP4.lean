/- The law's Cut of chapter 14: some writes, at most 20, their texts cut. -/
import Derived.Test.YthimpgnagjgmdaaP3
namespace Go.Proofs.Ythimpgnagjgmdaa
open Go.RowKit

def wr0 : WrD := ⟨⟨0, 0, 0, z12, List.replicate 10 0⟩, false, ⟨0, 0, 0, 0, 0, false, 0, 0, ⟨#[]⟩⟩, rfl, rfl⟩
theorem infoW : (Try.prog.info? 78).map (fun i => (i.zero, i.size, i.bytes)) = some (some (.agg (wrC wr0).toArray), 35, 72) := by kernel_rfl
theorem wr0_sz : (Value.agg (wrC wr0).toArray).cells.size = 35 := by show (wrC wr0).toArray.size = 35; simp [wrC_len]
theorem wrC_one' (x : WrD) : ∀ u ∈ wrC x, u.oneCell' = true := fun u hu => List.all_eq_true.1 (wrC_one x) u hu
def setT (r : WrD) (s : ByteArray) : WrD := { r with rc := { r.rc with text := s } }
theorem setT_cells (r : WrD) (s : ByteArray) : (wrC r).take 34 ++ [Value.string s] ++ (wrC r).drop (34 + 1) = wrC (setT r s) := by
  rw [List.drop_eq_nil_of_le (by rw [wrC_len]; omega), List.append_nil]
  have h1 := kC_len r.kok
  unfold wrC
  rw [List.take_append, List.take_of_length_le (by omega), h1]
  simp [rcC, setT]
theorem txt_cell (r : WrD) : (wrC r)[34]? = some (.string r.rc.text) := by
  unfold wrC
  rw [List.getElem?_append_right (by rw [kC_len r.kok]; omega), kC_len r.kok]
  rfl
/-- What Cut makes of a write: its text cut. -/
def cutW (r : WrD) : WrD := setT r (r.rc.text.extract 0 (min r.rc.text.size 80))
def cutL (xs : List WrD) : List WrD := (xs.take 20).map cutW
theorem cutL_len (xs : List WrD) : (cutL xs).length ≤ 20 := by simp [cutL]; omega
def wz : Array Value := #[Value.int IntKind.u8 0, Value.int IntKind.u8 0, Value.int IntKind.u8 0, Value.int IntKind.u8 0, Value.int IntKind.u8 0, Value.int IntKind.u8 0, Value.int IntKind.u8 0, Value.int IntKind.u8 0, Value.int IntKind.u8 0, Value.int IntKind.u8 0, Value.int IntKind.u8 0, Value.int IntKind.u8 0, Value.int IntKind.u8 0, Value.int IntKind.u8 0, Value.int IntKind.u8 0, Value.int IntKind.u8 0, Value.int IntKind.u8 0, Value.int IntKind.u8 0, Value.int IntKind.u8 0, Value.int IntKind.u8 0, Value.int IntKind.u8 0, Value.int IntKind.u8 0, Value.int IntKind.u8 0, Value.int IntKind.u8 0, Value.int IntKind.u8 0, Value.bool false, Value.int IntKind.u8 0, Value.int IntKind.u8 0, Value.int IntKind.u8 0, Value.int IntKind.u8 0, Value.int IntKind.u8 0, Value.bool false, Value.int IntKind.u32 0, Value.int IntKind.u64 0, Value.string ⟨#[]⟩]
theorem wl_st1 {P : Program} {ops : Array Oper} {rest : List Oper} {o : Oper} {a : Act} {w : World} {Q : Exit → Act → World → Prop} (hgd : o.guard = none) (T : TypeId) (hsz : (P.info? T).map (·.size) = some 1) (x y : Operand) (ho : o.op = .store T x y) (b i : Nat) (v : Value) (hx : a.eval x = .pointer (some ⟨b, i, none⟩)) (hy : a.eval y = v) (h1 : v.oneCell' = true) (cur : List Value) (T' : TypeId) (hg : w.heap[b]? = some (.cells cur.toArray T' (0, 0))) (hi : i + 1 ≤ cur.length)
    (h : wpList P ops Q rest (a.put o.dst undef) (w.setRow b (cur.take i ++ [v] ++ cur.drop (i + 1)).toArray)) : wpList P ops Q (o :: rest) a w := by
  refine wpList_plain hgd fun K hK => ?_
  have := exec_st1 (P := P) (a := a) (w := w) T hsz x y ho b i v hx hy h1 cur T' hg hi
  unfold Oper.wp
  rw [this]
  exact hK _ _ h
set_option maxRecDepth 100000 in
set_option maxHeartbeats 8000000 in
theorem cut14_any (q : Option Addr) (n c : Nat) (xs : List WrD) (w : World) (hn : xs.length = n) (hq : SlAt wrC 35 w q xs) :
    Calls Try.prog 17 #[.slice q n c] w fun e w' => ∃ v', e = .returned v' ∧ OwnE wrC 78 35 w' w.heap.size v' (cutL xs) ∧ Below w.heap.size w w' := by
  have HN := Lib.hid hn
  have HQ := Lib.hid hq
  clear hn hq
  go_enter Try.func17, Try.ntmps17
  go_wp2_with fail
  go_loopw [3, 4] (fun vo vi wr => ∃ (k : Nat) (ys : List WrD), k ≤ n ∧ k ≤ 20 ∧ vi = .int .i64 k ∧ ys.length = k ∧ Hid (ys = (xs.take k).map cutW) ∧ Hid (OwnE wrC 78 35 wr w.heap.size vo ys) ∧ Hid (Below w.heap.size w wr)) (fun _ vi _ => 20 - (intOf vi).toNat)
  case atStart => exact ⟨0, [], Nat.zero_le _, Nat.zero_le _, rfl, rfl, rfl, OwnE.nil _ _, Below.refl _ _⟩
  case round =>
    obtain ⟨k, ys, hkn, hk20, rfl, hyl, HY, HO, HB⟩ := hrel
    by_cases h1 : k < n
    · have h1i : (k : Int) < n := by omega
      by_cases h2 : k < 20
      · have h2i : (k : Int) < 20 := by omega
        obtain ⟨b, o, rfl, hbs, hro⟩ := HQ.out k (by rw [HN.out]; exact h1)
        obtain ⟨r, hr⟩ : ∃ r, r = xs[k]'(by rw [HN.out]; exact h1) := ⟨_, rfl⟩
        rw [← hr] at hro
        obtain ⟨s, hs⟩ : ∃ s, s = r.rc.text := ⟨_, rfl⟩
        have HRow : Hid (wr.rangeAt b (o + k * 35) (wrC r)) := range_of_block hro (HB.out.block b hbs)
        have HS := Lib.hid hs
        have HY2 : Hid ((xs.take (k + 1)).map cutW = ys ++ [cutW r]) := by show _ = _; rw [List.take_succ_eq_append_getElem (by rw [HN.out]; exact h1), List.map_append, ← HY.out, hr]; rfl
        clear hro hr hs
        go_upto_region 6 with (first | ((with_reducible refine gate_ld 78 (.tmp 18) rfl ?_); refine wl_ldr rfl 78 _ rfl b (o + k * 35) (wrC r) _ Try.underlying78 rfl (by rw [sizWr, wrC_len]) rfl HRow.out ?_) | ((with_reducible refine gate_st 78 (.tmp 5) _ rfl ?_); refine wl_strn rfl _ _ _ rfl (wrC r).toArray wz _ (by rw [sizWr]; simp [wrC_len]) (by simp [wrC_len, wz]) (by rw [← Array.all_toList]; exact wrC_one r) (by simp [Act.eval]) rfl ?_))
        have HB4 := Lib.hid (HB.out.alloc HB.out.size (.cells (wrC r).toArray 78))
        have HN4 : Hid ((wr.alloc (.cells (wrC r).toArray 78)).heap[wr.heap.size]? = some (.cells (wrC r).toArray 78 (0, 0))) := heap_alloc_new _ _
        have HO4 := Lib.hid (HO.out.below (below_alloc1 wr (.cells (wrC r).toArray 78)))
        generalize wr.alloc (.cells (wrC r).toArray 78) = W4 at *
        have hct : W4.cell? ⟨wr.heap.size, 34, none⟩ = some (.string s) := by rw [cell_blk HN4.out, List.getElem?_toArray]; rw [HS.out]; exact txt_cell r
        obtain ⟨m, hm, hml⟩ : ∃ m : Nat, min (s.size : Int) 80 = (m : Int) ∧ m ≤ s.size := ⟨min s.size 80, by omega, Nat.min_le_left _ _⟩
        have HM : Hid (cutW r = setT r (s.extract 0 m)) := by show _ = _; rw [HS.out] at *; unfold cutW; congr 2; congr 1; omega
        have hmi : ¬ (s.size : Int) < m := by omega
        obtain ⟨s', hs'⟩ : ∃ s', s' = s.extract 0 m := ⟨_, rfl⟩
        go_upto_region 7 with (first | ((with_reducible refine gate_st 9 (.tmp 30) _ rfl ?_); refine wl_st1 rfl 9 siz9 _ _ rfl wr.heap.size 34 (.string s') rfl (by rw [hs']; rfl) rfl _ _ HN4.out (by rw [wrC_len]; omega) ?_; rw [setT_cells]))
        have HB5 : Hid (Below w.heap.size w (W4.setRow wr.heap.size (wrC (setT r s')).toArray)) := setRow_below HB4.out HB.out.size _
        have HO5 : Hid (OwnE wrC 78 35 (W4.setRow wr.heap.size (wrC (setT r s')).toArray) w.heap.size u3 ys) := HO4.out.block fun g hg => setRow_other _ _ _ _ (by have := (HO.out.lt g hg).2; omega)
        have HN5 : Hid ((W4.setRow wr.heap.size (wrC (setT r s')).toArray).heap[wr.heap.size]? = some (.cells (wrC (setT r s')).toArray 78 (0, 0))) := setRow_at HN4.out
        generalize W4.setRow wr.heap.size (wrC (setT r s')).toArray = W5 at *
        rw [← hs'] at HM
        rw [HM.out] at HY2
        clear HM
        generalize setT r s' = r' at *
        clear hct hs' hm hml hmi HB4 HN4 HO4
        have HN5r := Lib.hid (range_whole HN5.out)
        go_wp2_with (first | ((with_reducible refine gate_ld 78 (.tmp 5) rfl ?_); refine wl_ldr rfl 78 _ rfl wr.heap.size 0 (wrC r') _ Try.underlying78 rfl (by rw [sizWr, wrC_len]) rfl HN5r.out ?_) | (refine wl_bs1 (k := 35) 36 78 72 (.agg (wrC wr0).toArray) Try.underlying36 infoW wr0_sz (by omega) (by omega) wrC_len rfl (.tmp 32) rfl r' rfl ?_) | (at_builtin; refine wl_app1 (k := 35) 36 78 72 (.agg (wrC wr0).toArray) Try.underlying36 infoW wr0_sz (by omega) wrC_len wrC_one' rfl (.tmp 31) (.tmp 33) rfl w.heap.size u3 ys rfl (HO5.out.below (below_alloc1 _ _)) _ _ r' rfl (range_whole (heap_alloc_new _ _)) (by omega) (by unfold maxLen; omega) (HB5.out.alloc HB5.out.size _).size (fun v' w' hv hg => ?_); have HV := Lib.hid hv; have HG := Lib.hid (grown_below hg (fun g hg => ((HO5.out.lt g hg).1)) (HB5.out.alloc HB5.out.size _).size); clear hv hg))
        go_roundw
        case rel => exact ⟨k + 1, ys ++ [r'], by omega, by omega, by go_num, by simp [hyl], HY2.out.symm, HV, (HB5.out.alloc HB5.out.size _).trans HG.out⟩
        case measure => simp [intOf]; omega
      · have h2i : ¬ (k : Int) < 20 := by omega
        have HR : Hid (ys = cutL xs) := by
          show _ = _
          rw [HY.out]
          obtain rfl : k = 20 := by omega
          rfl
        go_wp2_with fail
        go_ret
        exact ⟨_, rfl, HR.out ▸ HO.out, HB.out⟩
    · have h1i : ¬ (k : Int) < n := by omega
      have HR : Hid (ys = cutL xs) := by
        show _ = _
        rw [HY.out, cutL, List.take_of_length_le (by rw [HN.out]; omega), List.take_of_length_le (l := xs) (by rw [HN.out]; omega)]
      go_wp2_with fail
      go_ret
      exact ⟨_, rfl, HR.out ▸ HO.out, HB.out⟩
end Go.Proofs.Ythimpgnagjgmdaa
