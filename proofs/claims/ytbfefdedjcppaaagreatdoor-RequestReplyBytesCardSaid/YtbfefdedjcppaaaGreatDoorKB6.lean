/- vulgateref06.Bytes: a key's 25 bytes. -/
import Derived.Test.YtbfefdedjcppaaaGreatDoorRG
import Derived.Deep.RegionWith
import Derived.BigRegion
namespace Go.Proofs.YtbfefdedjcppaaaGreatDoor
set_option maxRecDepth 100000
set_option maxHeartbeats 8000000
open Go.RowKit
def bkM (b : List UInt8) (j : Nat) : List UInt8 := b.take j ++ List.replicate (25 - j) 0
theorem bkM_len (b : List UInt8) (hb : b.length = 25) (j : Nat) (hj : j ≤ 25) : (bkM b j).length = 25 := by
 simp [bkM, hb]; omega
theorem bkM_all (b : List UInt8) (hb : b.length = 25) : bkM b 25 = b := by
 unfold bkM; rw [List.take_of_length_le (by omega)]; simp
theorem bkM_step (b : List UInt8) (hb : b.length = 25) (j : Nat) (h : j < 25) : (bC (bkM b j)).toList.take j ++ [Value.int .u8 ((b.getD j 0).toNat : Int)] ++ (bC (bkM b j)).toList.drop (j + 1) = (bC (bkM b (j + 1))).toList := by
 have h1 : (b.take j).length = j := by rw [List.length_take]; omega
 have h2 : bkM b (j + 1) = (bkM b j).take j ++ [b.getD j 0] ++ (bkM b j).drop (j + 1) := by
   unfold bkM
   rw [List.take_left' h1, List.drop_append, List.drop_eq_nil_of_le (by omega), h1, show j + 1 - j = 1 by omega, List.nil_append, List.drop_replicate, show 25 - j - 1 = 25 - (j + 1) by omega]
   congr 1
   rw [List.take_succ_eq_append_getElem (by omega), List.getD_eq_getElem?_getD, List.getElem?_eq_getElem (by omega)]; rfl
 rw [h2]
 simp only [bC, List.map_append, List.map_take, List.map_drop, List.map_cons, List.map_nil]
structure BkSt (w W : World) (b : List UInt8) (j : Nat) : Prop where
 bel : Below w.heap.size w W
 src : W.heap[w.heap.size]? = some (.cells (rkR b).toArray 44 (0, 0))
 res : W.heap[w.heap.size + 1]? = some (.cells #[Value.int .u8 0, .int .u8 0, .int .u8 0, .int .u8 0, .int .u8 0, .int .u8 0, .int .u8 0, .int .u8 0, .int .u8 0, .int .u8 0, .int .u8 0, .int .u8 0, .int .u8 0, .int .u8 0, .int .u8 0, .int .u8 0, .int .u8 0, .int .u8 0, .int .u8 0, .int .u8 0, .int .u8 0, .int .u8 0, .int .u8 0, .int .u8 0, .int .u8 0] 108 (0, 0))
 dst : W.heap[w.heap.size + 1 + 1]? = some (.cells (bC (bkM b j)) 108 (0, 0))
theorem BkSt.step {w W W' : World} {b : List UInt8} {j j' : Nat} (h : BkSt w W b j) (hd : W'.heap[w.heap.size + 1 + 1]? = some (.cells (bC (bkM b j')) 108 (0, 0))) (ht : Turn [w.heap.size + 1 + 1] W W') : BkSt w W' b j' := by
 have hk : ∀ k, k < W.heap.size → k ≠ w.heap.size + 1 + 1 → W'.heap[k]? = W.heap[k]? := fun k a b => ht.block k a (by simpa using b)
 exact ⟨h.bel.trans (ht.below (fun k hk => by simp at hk; omega) h.bel.size), (hk _ (lt_heap h.src) (by omega)).trans h.src, (hk _ (lt_heap h.res) (by omega)).trans h.res, hd⟩
theorem BkSt.start (w : World) (b : List UInt8) : BkSt w (((w.alloc (.cells (rkR b).toArray 44)).alloc (.cells #[Value.int .u8 0, .int .u8 0, .int .u8 0, .int .u8 0, .int .u8 0, .int .u8 0, .int .u8 0, .int .u8 0, .int .u8 0, .int .u8 0, .int .u8 0, .int .u8 0, .int .u8 0, .int .u8 0, .int .u8 0, .int .u8 0, .int .u8 0, .int .u8 0, .int .u8 0, .int .u8 0, .int .u8 0, .int .u8 0, .int .u8 0, .int .u8 0, .int .u8 0] 108)).alloc (.cells #[Value.int .u8 0, .int .u8 0, .int .u8 0, .int .u8 0, .int .u8 0, .int .u8 0, .int .u8 0, .int .u8 0, .int .u8 0, .int .u8 0, .int .u8 0, .int .u8 0, .int .u8 0, .int .u8 0, .int .u8 0, .int .u8 0, .int .u8 0, .int .u8 0, .int .u8 0, .int .u8 0, .int .u8 0, .int .u8 0, .int .u8 0, .int .u8 0, .int .u8 0] 108)) b 0 := by
 refine ⟨(below_alloc2 _ _ _).alloc (by simp; omega) _, ?_, ?_, ?_⟩
 · rw [heap_alloc_old _ _ (by simp; omega)]; exact heap_alloc2_old _ _ _
 · rw [heap_alloc_old _ _ (by simp)]; exact heap_alloc2_new _ _ _
 · have := heap_alloc_new ((w.alloc (.cells (rkR b).toArray 44)).alloc (.cells #[Value.int .u8 0, .int .u8 0, .int .u8 0, .int .u8 0, .int .u8 0, .int .u8 0, .int .u8 0, .int .u8 0, .int .u8 0, .int .u8 0, .int .u8 0, .int .u8 0, .int .u8 0, .int .u8 0, .int .u8 0, .int .u8 0, .int .u8 0, .int .u8 0, .int .u8 0, .int .u8 0, .int .u8 0, .int .u8 0, .int .u8 0, .int .u8 0, .int .u8 0] 108)) (.cells #[Value.int .u8 0, .int .u8 0, .int .u8 0, .int .u8 0, .int .u8 0, .int .u8 0, .int .u8 0, .int .u8 0, .int .u8 0, .int .u8 0, .int .u8 0, .int .u8 0, .int .u8 0, .int .u8 0, .int .u8 0, .int .u8 0, .int .u8 0, .int .u8 0, .int .u8 0, .int .u8 0, .int .u8 0, .int .u8 0, .int .u8 0, .int .u8 0, .int .u8 0] 108)
   rw [show ((w.alloc (.cells (rkR b).toArray 44)).alloc (.cells #[Value.int .u8 0, .int .u8 0, .int .u8 0, .int .u8 0, .int .u8 0, .int .u8 0, .int .u8 0, .int .u8 0, .int .u8 0, .int .u8 0, .int .u8 0, .int .u8 0, .int .u8 0, .int .u8 0, .int .u8 0, .int .u8 0, .int .u8 0, .int .u8 0, .int .u8 0, .int .u8 0, .int .u8 0, .int .u8 0, .int .u8 0, .int .u8 0, .int .u8 0] 108)).heap.size = w.heap.size + 1 + 1 from by simp] at this
   exact this
theorem bkM_three (b : List UInt8) (hb : b.length = 25) : (((bC (bkM b 0)).setIfInBounds 0 (.int .u8 ((b.getD 0 0).toNat : Int))).setIfInBounds 1 (.int .u8 ((b.getD 1 0).toNat : Int))).setIfInBounds 2 (.int .u8 ((b.getD 2 0).toNat : Int)) = bC (bkM b 3) := by
 obtain ⟨a0, a1, a2, a3, a4, a5, a6, a7, a8, a9, a10, a11, a12, a13, a14, a15, a16, a17, a18, a19, a20, a21, a22, a23, a24, rfl⟩ := Kx.list25 b hb
 rfl
theorem rkR_at (b : List UInt8) (hb : b.length = 25) (i : Nat) (h3 : 3 ≤ i) (hi : i < 25) : (rkR b)[i]? = some (.int .u8 ((b.getD i 0).toNat : Int)) := by
 unfold rkR
 rw [List.getElem?_append_right (by show 3 ≤ i; omega), show i - (rkH b).length = i - 3 from rfl, Array.getElem?_toList, bC_get (b.drop 3) (i - 3) (by rw [List.length_drop]; omega), List.getElem_drop, List.getD_eq_getElem?_getD, List.getElem?_eq_getElem (by omega)]
 congr 4
 show b[3 + (i - 3)] = b[i]
 congr 1
 omega
theorem bytes06_any (b : List UInt8) (hb : b.length = 25) (w : World) : Calls Tryz.prog 67 #[.agg (rkR b).toArray] w fun e w' => e = .returned (.agg (bC b)) ∧ Below w.heap.size w w' := by
 have HS := Lib.hid (BkSt.start w b)
 have H25 := Lib.hid hb
 have HC : Hid (∀ W : World, W.heap[w.heap.size]? = some (.cells (rkR b).toArray 44 (0, 0)) → ∀ i, 3 ≤ i → i < 25 → W.cell? ⟨w.heap.size, i, none⟩ = some (.int .u8 ((b.getD i 0).toNat : Int))) := fun W h i h3 hi => by
   rw [cell_blk h, List.getElem?_toArray]; exact rkR_at b hb i h3 hi
 clear hb
 go_enter Tryz.func67, Tryz.ntmps67
 go_upto_region 2 with fail
 generalize ((w.alloc (.cells (rkR b).toArray 44)).alloc (.cells #[Value.int .u8 0, .int .u8 0, .int .u8 0, .int .u8 0, .int .u8 0, .int .u8 0, .int .u8 0, .int .u8 0, .int .u8 0, .int .u8 0, .int .u8 0, .int .u8 0, .int .u8 0, .int .u8 0, .int .u8 0, .int .u8 0, .int .u8 0, .int .u8 0, .int .u8 0, .int .u8 0, .int .u8 0, .int .u8 0, .int .u8 0, .int .u8 0, .int .u8 0] 108)).alloc (.cells #[Value.int .u8 0, .int .u8 0, .int .u8 0, .int .u8 0, .int .u8 0, .int .u8 0, .int .u8 0, .int .u8 0, .int .u8 0, .int .u8 0, .int .u8 0, .int .u8 0, .int .u8 0, .int .u8 0, .int .u8 0, .int .u8 0, .int .u8 0, .int .u8 0, .int .u8 0, .int .u8 0, .int .u8 0, .int .u8 0, .int .u8 0, .int .u8 0, .int .u8 0] 108) = W1 at *
 have c0 : W1.cell? ⟨w.heap.size, 0, none⟩ = some (.int .i64 ((b.getD 0 0).toNat : Int)) := by rw [cell_blk HS.out.src]; rfl
 have c1 : W1.cell? ⟨w.heap.size, 1, none⟩ = some (.int .i64 ((b.getD 1 0).toNat : Int)) := by rw [cell_blk HS.out.src]; rfl
 have c2 : W1.cell? ⟨w.heap.size, 2, none⟩ = some (.int .i64 ((b.getD 2 0).toNat : Int)) := by rw [cell_blk HS.out.src]; rfl
 have d0 : W1.cell? ⟨w.heap.size + 1 + 1, 0, none⟩ = some (.int .u8 0) := by rw [cell_blk HS.out.dst]; rfl
 have d1 : W1.cell? ⟨w.heap.size + 1 + 1, 1, none⟩ = some (.int .u8 0) := by rw [cell_blk HS.out.dst]; rfl
 have d2 : W1.cell? ⟨w.heap.size + 1 + 1, 2, none⟩ = some (.int .u8 0) := by rw [cell_blk HS.out.dst]; rfl
 have f0 : W1.frozen? ⟨w.heap.size + 1 + 1, 0, none⟩ = false := by simp [World.frozen?, HS.out.dst]
 have f1 : W1.frozen? ⟨w.heap.size + 1 + 1, 1, none⟩ = false := by simp [World.frozen?, HS.out.dst]
 have f2 : W1.frozen? ⟨w.heap.size + 1 + 1, 2, none⟩ = false := by simp [World.frozen?, HS.out.dst]
 have wv : ∀ x : UInt8, IntKind.u8.wrap (x.toNat : Int) = (x.toNat : Int) := fun x => by have : x.toNat < 256 := x.toNat_lt; rw [IntKind.wrap_u8]; omega
 have w0 := wv (b.getD 0 0)
 have w1 := wv (b.getD 1 0)
 have w2 := wv (b.getD 2 0)
 clear wv
 generalize hx0 : b.getD 0 0 = x0 at *
 generalize hx1 : b.getD 1 0 = x1 at *
 generalize hx2 : b.getD 2 0 = x2 at *
 have hB3 := bkM_three b H25.out
 rw [hx0, hx1, hx2] at hB3
 have H3 : Hid (BkSt w ((((W1.setCell ⟨w.heap.size + 1 + 1, 0, none⟩ (.int .u8 (x0.toNat : Int))).setCell ⟨w.heap.size + 1 + 1, 1, none⟩ (.int .u8 (x1.toNat : Int))).setCell ⟨w.heap.size + 1 + 1, 2, none⟩ (.int .u8 (x2.toNat : Int))).drew) b 3) := by
   have h3 := heap_setCell_self (i := 2) (.int .u8 (x2.toNat : Int)) (heap_setCell_self (i := 1) (.int .u8 (x1.toNat : Int)) (heap_setCell_self (i := 0) (.int .u8 (x0.toNat : Int)) HS.out.dst))
   rw [hB3] at h3
   exact HS.out.step h3 (((Turn.setCell _ 0 _ W1).trans (Turn.setCell _ 1 _ _)).trans ((Turn.setCell _ 2 _ _).trans ⟨rfl, rfl, rfl, Nat.le_refl _, fun _ _ _ => rfl⟩))
 go_region
 clear hB3 HS c0 c1 c2 d0 d1 d2 f0 f1 f2 w0 w1 w2 hx0 hx1 hx2
 generalize (((W1.setCell ⟨w.heap.size + 1 + 1, 0, none⟩ (.int .u8 (x0.toNat : Int))).setCell ⟨w.heap.size + 1 + 1, 1, none⟩ (.int .u8 (x1.toNat : Int))).setCell ⟨w.heap.size + 1 + 1, 2, none⟩ (.int .u8 (x2.toNat : Int))).drew = W2 at *
 go_wp2_with fail
 go_loopw [4] (fun i wr => ∃ k : Nat, k ≤ 12 ∧ i = .int .i64 (k : Int) ∧ Hid (BkSt w wr b (3 + k))) (fun i _ => 12 - (intOf i).toNat)
 case atStart => exact ⟨0, Nat.zero_le _, rfl, H3.out⟩
 case round =>
   obtain ⟨k, hk, rfl, HS⟩ := hrel
   clear H3
   by_cases hlt : k < 12
   · have hlt' : (k : Int) < 12 := by omega
     have hc : wr.cell? ⟨w.heap.size, 3 + k, none⟩ = some (.int .u8 ((b.getD (3 + k) 0).toNat : Int)) := HC.out wr HS.out.src (3 + k) (by omega) (by omega)
     have HSt := Lib.hid (bkM_step b H25.out (3 + k) (by omega))
     have HLn : Hid ((bC (bkM b (3 + k))).toList.length = 25) := by show _ = _; rw [Array.length_toList]; simp [bC, bkM_len b H25.out (3 + k) (by omega)]
     have hw3 : IntKind.i64.wrap ((3 : Int) + (k : Int)) = ((3 + k : Nat) : Int) := by simp [IntKind.wrap, IntKind.bits, IntKind.signed]; omega
     have h3l : ((3 + k : Nat) : Int) < 25 := by omega
     have h3m : 3 + k < 25 := by omega
     generalize (b.getD (3 + k) 0) = xk at *
     go_wp2_with (first
       | ((with_reducible refine gate_st 5 _ _ rfl ?_); refine wl_st1G rfl 5 siz5 _ _ rfl (w.heap.size + 1 + 1) (3 + k) (.int .u8 (xk.toNat : Int)) (by first | rfl | simp [Act.eval]) rfl rfl (bC (bkM b (3 + k))).toList (bC (bkM b (3 + k + 1))).toList _ HS.out.dst (by rw [HLn.out]; omega) HSt.out (fun W3 h1 h2 => ?_); have HS3 := Lib.hid (HS.out.step (j' := 3 + k + 1) h1 h2); clear h1 h2; try simp only [Act.put]))
     go_roundw
     case rel => exact ⟨k + 1, by omega, by simp, HS3.out⟩
     case measure => simp [intOf]; omega
   · obtain rfl : k = 12 := by omega
     go_wp2_with fail
     go_loopw [5] (fun i wr => ∃ k : Nat, k ≤ 10 ∧ i = .int .i64 (k : Int) ∧ Hid (BkSt w wr b (15 + k))) (fun i _ => 10 - (intOf i).toNat)
     case atStart => exact ⟨0, Nat.zero_le _, rfl, HS.out⟩
     case round =>
       obtain ⟨k, hk, rfl, HS⟩ := hrel
       by_cases hlt : k < 10
       · have hlt' : (k : Int) < 10 := by omega
         have hc : wr.cell? ⟨w.heap.size, 15 + k, none⟩ = some (.int .u8 ((b.getD (15 + k) 0).toNat : Int)) := HC.out wr HS.out.src (15 + k) (by omega) (by omega)
         have HSt := Lib.hid (bkM_step b H25.out (15 + k) (by omega))
         have HLn : Hid ((bC (bkM b (15 + k))).toList.length = 25) := by show _ = _; rw [Array.length_toList]; simp [bC, bkM_len b H25.out (15 + k) (by omega)]
         have hw3 : IntKind.i64.wrap ((15 : Int) + (k : Int)) = ((15 + k : Nat) : Int) := by simp [IntKind.wrap, IntKind.bits, IntKind.signed]; omega
         have h3l : ((15 + k : Nat) : Int) < 25 := by omega
         have h3m : 15 + k < 25 := by omega
         generalize (b.getD (15 + k) 0) = xk at *
         go_wp2_with (first
           | ((with_reducible refine gate_st 5 _ _ rfl ?_); refine wl_st1G rfl 5 siz5 _ _ rfl (w.heap.size + 1 + 1) (15 + k) (.int .u8 (xk.toNat : Int)) (by first | rfl | simp [Act.eval]) rfl rfl (bC (bkM b (15 + k))).toList (bC (bkM b (15 + k + 1))).toList _ HS.out.dst (by rw [HLn.out]; omega) HSt.out (fun W3 h1 h2 => ?_); have HS3 := Lib.hid (HS.out.step (j' := 15 + k + 1) h1 h2); clear h1 h2; try simp only [Act.put]))
         go_roundw
         case rel => exact ⟨k + 1, by omega, by simp, HS3.out⟩
         case measure => simp [intOf]; omega
       · obtain rfl : k = 10 := by omega
         have HD : Hid (wr.heap[w.heap.size + 1 + 1]? = some (.cells (bC b) 108 (0, 0))) := by have h := HS.out.dst; rwa [show 15 + 10 = 25 from rfl, bkM_all b H25.out] at h
         have HRl : Hid ((bC b).size = 25) := by show _ = _; simp [bC, H25.out]
         go_wp2_with (first
           | ((with_reducible refine gate_ld 108 _ rfl ?_); refine wl_ldr rfl 108 _ rfl (w.heap.size + 1 + 1) 0 (bC b).toList _ Tryz.underlying108 rfl (by rw [siz25A, Array.length_toList, HRl.out]) rfl (range_whole HD.out) ?_)
           | ((with_reducible refine gate_st 108 _ _ rfl ?_); refine wl_str rfl 108 _ _ rfl (w.heap.size + 1) (bC b) #[Value.int IntKind.u8 0, Value.int IntKind.u8 0, Value.int IntKind.u8 0, Value.int IntKind.u8 0, Value.int IntKind.u8 0, Value.int IntKind.u8 0, Value.int IntKind.u8 0, Value.int IntKind.u8 0, Value.int IntKind.u8 0, Value.int IntKind.u8 0, Value.int IntKind.u8 0, Value.int IntKind.u8 0, Value.int IntKind.u8 0, Value.int IntKind.u8 0, Value.int IntKind.u8 0, Value.int IntKind.u8 0, Value.int IntKind.u8 0, Value.int IntKind.u8 0, Value.int IntKind.u8 0, Value.int IntKind.u8 0, Value.int IntKind.u8 0, Value.int IntKind.u8 0, Value.int IntKind.u8 0, Value.int IntKind.u8 0, Value.int IntKind.u8 0] _ (by rw [siz25A, HRl.out]) (by rw [HRl.out]; rfl) (by rw [← Array.all_toList]; exact bC_all b) rfl rfl HS.out.res ?_))
         refine bodyPost_ret (res_rowc (P := Tryz.prog) (T := 108) (T' := 108) rfl _ _ (w.heap.size + 1) (bC b) (0, 0) rfl (setRow_at HS.out.res) Tryz.underlying108 rfl (by rw [siz25A, HRl.out])) rfl ⟨rfl, setRow_below HS.out.bel (by omega) _⟩
end Go.Proofs.YtbfefdedjcppaaaGreatDoor
