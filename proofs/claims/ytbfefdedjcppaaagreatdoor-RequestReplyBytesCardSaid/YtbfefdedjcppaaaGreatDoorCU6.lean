/- The law's cut of a reply: at most 20 events, its text cut. -/
import Derived.Test.YtbfefdedjcppaaaGreatDoorSM6
namespace Go.Proofs.YtbfefdedjcppaaaGreatDoor
set_option maxRecDepth 100000
set_option maxHeartbeats 4000000
open Go.RowKit
def cutRp (x : RpD) : RpD := { x with text := x.text.extract 0 (min x.text.size 1300) }
theorem ryC_set (x : RpD) (v : Value) (s : ByteArray) : (ryC x v).take 1 ++ [Value.string s] ++ (ryC x v).drop (1 + 1) = ryC { x with text := s } v := rfl
theorem ryC_setE (x : RpD) (v u : Value) : (ryC x v).take 14 ++ [u] ++ (ryC x v).drop (14 + 1) = ryC x u := by
 unfold ryC
 rw [List.take_left' (rpC_len x), List.drop_eq_nil_of_le (by simp [rpC_len]), List.append_nil]
def zeroR : RpD := ⟨0, ⟨#[]⟩, zt10, 0, 0, rfl⟩
theorem sizEvs : (Tryz.prog.info? 57).map (·.size) = some 1 := by kernel_rfl
theorem cut26_any (x : RpD) (q : Option Addr) (n c : Nat) (w : World) (hnc : n ≤ c) (hcm : c ≤ maxLen) : Calls Tryz.prog 13 #[.agg (ryC x (.slice q n c)).toArray] w fun e w' => e = .returned (.agg (ryC (cutRp x) (.slice q (min n 20) c)).toArray) ∧ Below w.heap.size w w' := by
 have HG0 : Hid (((w.alloc (.cells (ryC x (.slice q n c)).toArray 59)).alloc (.cells (ryC zeroR (.slice none 0 0)).toArray 59)).heap[w.heap.size]? = some (.cells (ryC x (.slice q n c)).toArray 59 (0, 0))) := heap_alloc2_old _ _ _
 have HG1 : Hid (((w.alloc (.cells (ryC x (.slice q n c)).toArray 59)).alloc (.cells (ryC zeroR (.slice none 0 0)).toArray 59)).heap[w.heap.size + 1]? = some (.cells (ryC zeroR (.slice none 0 0)).toArray 59 (0, 0))) := heap_alloc2_new _ _ _
 have HB1 : Hid (Below w.heap.size w ((w.alloc (.cells (ryC x (.slice q n c)).toArray 59)).alloc (.cells (ryC zeroR (.slice none 0 0)).toArray 59))) := below_alloc2 _ _ _
 obtain ⟨m, hm, hml⟩ : ∃ m : Nat, min (x.text.size : Int) 1300 = (m : Int) ∧ m = min x.text.size 1300 := ⟨_, by omega, rfl⟩
 have hmi : ¬ (x.text.size : Int) < m := by omega
 obtain ⟨m2, hm2, hml2⟩ : ∃ m2 : Nat, min (n : Int) 20 = (m2 : Int) ∧ m2 = min n 20 := ⟨_, by omega, rfl⟩
 have hmc : ¬ (c : Int) < m2 := by omega
 have hmc' : m2 ≤ c := by omega
 have HC : Hid (cutRp x = { x with text := x.text.extract 0 m }) := by show _ = _; rw [hml]; rfl
 have HC2 := Lib.hid hml2
 clear hml hml2
 go_enter Tryz.func13, Tryz.ntmps13
 go_upto_region 1 with fail
 rw [show (Obj.cells #[Value.int .i64 0, Value.string ⟨#[]⟩, .int .u8 0, .int .u8 0, .int .u8 0, .int .u8 0, .int .u8 0, .int .u8 0, .int .u8 0, .int .u8 0, .int .u8 0, .int .u8 0, .int .i64 0, .int .i64 0, Value.slice none 0 0] 59) = Obj.cells (ryC zeroR (.slice none 0 0)).toArray 59 from rfl]
 generalize (w.alloc (.cells (ryC x (.slice q n c)).toArray 59)).alloc (.cells (ryC zeroR (.slice none 0 0)).toArray 59) = W1 at *
 have hct : W1.cell? ⟨w.heap.size, 1, none⟩ = some (.string x.text) := by rw [cell_blk HG0.out]; rfl
 go_upto_region 2 with (first
   | ((with_reducible refine gate_st 9 _ _ rfl ?_); refine wl_st1G rfl 9 siz9 _ _ rfl w.heap.size 1 (.string (x.text.extract 0 m)) rfl rfl rfl (ryC x (.slice q n c)) (ryC { x with text := x.text.extract 0 m } (.slice q n c)) _ HG0.out (by rw [ryC_len]; omega) (ryC_set x _ _) (fun W2 h1 h2 => ?_); have HG2 := Lib.hid h1; have HZ2 : Hid (W2.heap[w.heap.size + 1]? = some (.cells (ryC zeroR (.slice none 0 0)).toArray 59 (0, 0))) := (h2.block _ (lt_heap HG1.out) (by simp)).trans HG1.out; have HB2 := Lib.hid (HB1.out.trans (h2.below (B := w.heap.size) (fun k hk => by simp at hk; omega) HB1.out.size)); clear h1 h2; try simp only [Act.put]))
 rw [← HC.out] at HG2
 clear hct hm hmi HC HG0 HG1 HB1
 have hcs : W2.cell? ⟨w.heap.size, 14, none⟩ = some (.slice q n c) := by rw [cell_blk HG2.out, List.getElem?_toArray]; exact ryC_sl _ _
 generalize hxx : cutRp x = x' at *
 have HXX := Lib.hid hxx
 clear hxx
 go_upto_region 3 with (first
   | ((with_reducible refine gate_st 57 _ _ rfl ?_); refine wl_st1G rfl 57 sizEvs _ _ rfl w.heap.size 14 (.slice q m2 c) rfl (by first | rfl | simp [Act.eval]) rfl (ryC x' (.slice q n c)) (ryC x' (.slice q m2 c)) _ HG2.out (by rw [ryC_len]; omega) (ryC_setE x' _ _) (fun W3 h1 h2 => ?_); have HG3 := Lib.hid h1; have HZ3 : Hid (W3.heap[w.heap.size + 1]? = some (.cells (ryC zeroR (.slice none 0 0)).toArray 59 (0, 0))) := (h2.block _ (lt_heap HZ2.out) (by simp)).trans HZ2.out; have HB3 := Lib.hid (HB2.out.trans (h2.below (B := w.heap.size) (fun k hk => by simp at hk; omega) HB2.out.size)); clear h1 h2; try simp only [Act.put]))
 clear hcs hm2 hmc hmc'
 go_wp2_with (first
   | ((with_reducible refine gate_ld 59 _ rfl ?_); refine wl_ldr rfl 59 _ rfl w.heap.size 0 (ryC x' (.slice q m2 c)) _ Tryz.underlying59 rfl (by rw [sizRy, ryC_len]) rfl (range_whole HG3.out) ?_)
   | ((with_reducible refine gate_st 59 _ _ rfl ?_); refine wl_str rfl 59 _ _ rfl (w.heap.size + 1) (ryC x' (.slice q m2 c)).toArray (ryC zeroR (.slice none 0 0)).toArray _ (by rw [sizRy, List.size_toArray, ryC_len]) (by rw [List.size_toArray, List.size_toArray, ryC_len, ryC_len]) (by rw [← Array.all_toList]; exact ryC_one _ _ rfl) rfl rfl HZ3.out ?_))
 refine bodyPost_ret (res_rowc (P := Tryz.prog) (T := 59) (T' := 59) rfl _ _ (w.heap.size + 1) (ryC x' (.slice q m2 c)).toArray (0, 0) rfl (setRow_at HZ3.out) Tryz.underlying59 rfl (by rw [sizRy, List.size_toArray, ryC_len])) rfl ⟨by rw [← HC2.out, HXX.out], setRow_below HB3.out (Nat.le_succ _) _⟩
end Go.Proofs.YtbfefdedjcppaaaGreatDoor
