/- Replies, records, writes in memory; the laws' Told (25), Of (10), Of (14). -/
import Derived.Test.YthimpgnagjgmdaaP2
namespace Go.Proofs.Ythimpgnagjgmdaa
open Go.RowKit

/-- A reply. -/
structure RpD where
  err : Int
  text : ByteArray
  tag : List UInt8
  st : Int
  n : Int
  lt : tag.length = 10
def rpC (r : RpD) : List Value := [.int .i64 r.err, .string r.text] ++ ((bC r.tag).toList ++ [.int .i64 r.st, .int .i64 r.n])
theorem rpC_len (r : RpD) : (rpC r).length = 14 := by simp [rpC, bC, r.lt]
theorem rpC_one (r : RpD) : (rpC r).all (·.oneCell') = true := by
  simp only [rpC, List.all_append, bC_all, Bool.true_and]
  rfl
theorem rpC_end (r : RpD) : (rpC r)[12]? = some (.int .i64 r.st) ∧ (rpC r)[13]? = some (.int .i64 r.n) := by
  have h2 : (bC r.tag).toList.length = 10 := by simp [bC, r.lt]
  unfold rpC
  constructor
  · rw [List.getElem?_append_right (by simp), List.getElem?_append_right (by simp [h2])]; simp [h2]
  · rw [List.getElem?_append_right (by simp), List.getElem?_append_right (by simp [h2])]; simp [h2]
theorem rp_tag {w : World} {b o : Nat} {x : RpD} (h : w.rangeAt b o (rpC x)) : w.rangeAt b (o + 2) (bC x.tag).toList := range_app_left (range_app_right h 2 rfl)
theorem sizRp : (Try.prog.info? 40).map (·.size) = some 14 := by kernel_rfl
theorem sizRRp : (Try.prog.info? 49).map (·.size) = some 14 := by kernel_rfl
theorem built_rRp (r : RpD) : Try.prog.built 49 [(0, .int .i64 r.err), (1, .string r.text), (2, .agg (bC r.tag)), (3, .int .i64 r.st), (4, .int .i64 r.n)] = some (rpC r).toArray := by
  obtain ⟨e, t, g, s, n, h⟩ := r
  obtain ⟨a, b, c, d, e, f, g, i, j, k, rfl⟩ := ten g h
  kernel_rfl
def zRp : Array Value := #[Value.int IntKind.i64 0, Value.string ⟨#[]⟩, Value.int IntKind.u8 0, Value.int IntKind.u8 0, Value.int IntKind.u8 0, Value.int IntKind.u8 0, Value.int IntKind.u8 0, Value.int IntKind.u8 0, Value.int IntKind.u8 0, Value.int IntKind.u8 0, Value.int IntKind.u8 0, Value.int IntKind.u8 0, Value.int IntKind.i64 0, Value.int IntKind.i64 0]
theorem ag38 (w : World) : (isAgg 38).run Try.prog w = .ok false w := by simp [isAgg, run_underlying Try.underlying38]
theorem ag4 (w : World) : (isAgg 4).run Try.prog w = .ok false w := by simp [isAgg, run_underlying Try.underlying4]
set_option maxRecDepth 100000 in
set_option maxHeartbeats 8000000 in
theorem told25_any (r : RpD) (w : World) : Calls Try.prog 19 #[.agg (rpC r).toArray] w fun e w' => e = .returned (.agg (rpC r).toArray) ∧ Below w.heap.size w w' := by
  have HG0 : Hid (((w.alloc (.cells (rpC r).toArray 40)).alloc (.cells zRp 49)).heap[w.heap.size]? = some (.cells (rpC r).toArray 40 (0, 0))) := heap_alloc2_old _ _ _
  have HG1 : Hid (((w.alloc (.cells (rpC r).toArray 40)).alloc (.cells zRp 49)).heap[w.heap.size + 1]? = some (.cells zRp 49 (0, 0))) := heap_alloc2_new _ _ _
  have HB1 : Hid (Below w.heap.size w ((w.alloc (.cells (rpC r).toArray 40)).alloc (.cells zRp 49))) := below_alloc2 _ _ _
  have KT : Hid (∀ W, Calls Try.prog 30 #[.agg (bC r.tag)] W fun e w' => e = .returned (.agg (bC r.tag)) ∧ Below W.heap.size W w') := fun W => tag19_any r.tag r.lt W
  go_enter Try.func19, Try.ntmps19
  go_upto_region 1 with fail
  rw [show (Obj.cells #[Value.int IntKind.i64 0, Value.string ⟨#[]⟩, Value.int IntKind.u8 0, Value.int IntKind.u8 0, Value.int IntKind.u8 0, Value.int IntKind.u8 0, Value.int IntKind.u8 0, Value.int IntKind.u8 0, Value.int IntKind.u8 0, Value.int IntKind.u8 0, Value.int IntKind.u8 0, Value.int IntKind.u8 0, Value.int IntKind.i64 0, Value.int IntKind.i64 0] 49) = Obj.cells zRp 49 from rfl]
  generalize (w.alloc (.cells (rpC r).toArray 40)).alloc (.cells zRp 49) = W1 at *
  have hlt := lt_heap HG0.out
  have c0 : W1.cell? ⟨w.heap.size, 0, none⟩ = some (.int .i64 r.err) := by rw [cell_blk HG0.out]; rfl
  have c1 : W1.cell? ⟨w.heap.size, 1, none⟩ = some (.string r.text) := by rw [cell_blk HG0.out]; rfl
  have c2 : W1.cell? ⟨w.heap.size, 12, none⟩ = some (.int .i64 r.st) := by rw [cell_blk HG0.out, List.getElem?_toArray]; exact (rpC_end r).1
  have c3 : W1.cell? ⟨w.heap.size, 13, none⟩ = some (.int .i64 r.n) := by rw [cell_blk HG0.out, List.getElem?_toArray]; exact (rpC_end r).2
  have HRt : Hid (W1.rangeAt w.heap.size 2 (bC r.tag).toList) := by have := rp_tag (range_whole HG0.out); rwa [Nat.zero_add] at this
  refine wp_region_below_tail 12 (by kernel_rfl) (by kernel_rfl) ?_
  simp only [List.take_succ_cons, List.take_zero, List.drop_succ_cons, List.drop_zero]
  repeat (first
    | (refine wq_ldr rfl 33 (.tmp 7) rfl w.heap.size 2 (bC r.tag).toList _ Try.underlying33 rfl (by rw [sizTag]; simp [bC, r.lt]) rfl HRt.out hlt ?_; simp only [Act.put, List.setIfInBounds_toArray, List.set_cons_zero, List.set_cons_succ])
    | (refine wq_one rfl 38 (.tmp 3) rfl w.heap.size 0 (.int .i64 r.err) ag38 rfl c0 hlt ?_; simp only [Act.put, List.setIfInBounds_toArray, List.set_cons_zero, List.set_cons_succ])
    | (refine wq_one rfl 9 (.tmp 5) rfl w.heap.size 1 (.string r.text) ag9 rfl c1 hlt ?_; simp only [Act.put, List.setIfInBounds_toArray, List.set_cons_zero, List.set_cons_succ])
    | (refine wq_one rfl 3 (.tmp 10) rfl w.heap.size 12 (.int .i64 r.st) ag3 rfl c2 hlt ?_; simp only [Act.put, List.setIfInBounds_toArray, List.set_cons_zero, List.set_cons_succ])
    | (refine wq_one rfl 3 (.tmp 12) rfl w.heap.size 13 (.int .i64 r.n) ag3 rfl c3 hlt ?_; simp only [Act.put, List.setIfInBounds_toArray, List.set_cons_zero, List.set_cons_succ])
    | (refine wq_bd _ rfl 49 [(0, .tmp 4), (1, .tmp 6), (2, .tmp 9), (3, .tmp 11), (4, .tmp 13)] rfl [(0, .int .i64 r.err), (1, .string r.text), (2, .agg (bC r.tag)), (3, .int .i64 r.st), (4, .int .i64 r.n)] rfl (rpC r).toArray (built_rRp r) ?_; simp only [Act.put, List.setIfInBounds_toArray, List.set_cons_zero, List.set_cons_succ])
    | go_big_quiet_step (with_reducible exact rg_call KT.out _ _))
  refine wpQuiet_nil ?_
  rintro _ ⟨⟨dq, osq⟩, rfl⟩
  have hbr := below_regrown W1 dq osq
  have HG2 := Lib.hid ((hbr.block _ (lt_heap HG1.out)).trans HG1.out)
  have HB2 := Lib.hid (HB1.out.trans (hbr.mono HB1.out.size))
  clear hbr c0 c1 c2 c3
  generalize Sort.grow (redrawn W1 dq) osq = W2 at *
  go_wp2_with (first
    | ((with_reducible refine gate_st 49 _ _ rfl ?_); refine wl_strG rfl 49 _ _ rfl (w.heap.size + 1) (rpC r).toArray zRp 49 (by rw [sizRRp, List.size_toArray, rpC_len]) (by rw [List.size_toArray, rpC_len]; rfl) (by rw [← Array.all_toList]; exact rpC_one r) rfl rfl HG2.out (fun W3 h1 h2 => ?_); have HG3 := Lib.hid h1; have HB3 := Lib.hid (HB2.out.trans (h2.below (B := w.heap.size) (fun k hk => by simp at hk; omega) HB2.out.size)); clear h1 h2))
  refine bodyPost_ret (res_rowc (P := Try.prog) (T := 49) (T' := 49) rfl _ _ (w.heap.size + 1) (rpC r).toArray (0, 0) rfl HG3.out Try.underlying49 rfl (by rw [sizRRp, List.size_toArray, rpC_len])) rfl ⟨rfl, HB3.out⟩
/-- A record. -/
structure RcD where
  a0 : UInt8
  a1 : UInt8
  a2 : UInt8
  a3 : UInt8
  a4 : UInt8
  gone : Bool
  rev : UInt32
  at_ : Int
  text : ByteArray
def rcC (r : RcD) : List Value := [.int .u8 (r.a0.toNat : Int), .int .u8 (r.a1.toNat : Int), .int .u8 (r.a2.toNat : Int), .int .u8 (r.a3.toNat : Int), .int .u8 (r.a4.toNat : Int), .bool r.gone, .int .u32 (r.rev.toNat : Int), .int .u64 r.at_, .string r.text]
def rcR (r : RcD) : List Value := [.int .i64 (r.a0.toNat : Int), .int .i64 (r.a1.toNat : Int), .int .i64 (r.a2.toNat : Int), .int .i64 (r.a3.toNat : Int), .int .i64 (r.a4.toNat : Int), .bool r.gone, .int .u64 (r.rev.toNat : Int), .int .u64 r.at_, .string r.text]
theorem rcR_one (r : RcD) : (rcR r).all (·.oneCell') = true := rfl
theorem sizRc : (Try.prog.info? 76).map (·.size) = some 9 := by kernel_rfl
theorem sizRRc : (Try.prog.info? 68).map (·.size) = some 9 := by kernel_rfl
theorem built_rcR (r : RcD) : Try.prog.built 68 [(0, .int .i64 (r.a0.toNat : Int)), (1, .int .i64 (r.a1.toNat : Int)), (2, .int .i64 (r.a2.toNat : Int)), (3, .int .i64 (r.a3.toNat : Int)), (4, .int .i64 (r.a4.toNat : Int)), (5, .bool r.gone), (6, .int .u64 (r.rev.toNat : Int)), (7, .int .u64 r.at_), (8, .string r.text)] = some (rcR r).toArray := by kernel_rfl
def zRc : Array Value := #[Value.int IntKind.i64 0, Value.int IntKind.i64 0, Value.int IntKind.i64 0, Value.int IntKind.i64 0, Value.int IntKind.i64 0, Value.bool false, Value.int IntKind.u64 0, Value.int IntKind.u64 0, Value.string ⟨#[]⟩]
set_option maxRecDepth 100000 in
set_option maxHeartbeats 8000000 in
theorem of10_any (r : RcD) (w : World) : Calls Try.prog 32 #[.agg (rcC r).toArray] w fun e w' => e = .returned (.agg (rcR r).toArray) ∧ Below w.heap.size w w' := by
  have HG0 : Hid (((w.alloc (.cells (rcC r).toArray 76)).alloc (.cells zRc 68)).heap[w.heap.size]? = some (.cells (rcC r).toArray 76 (0, 0))) := heap_alloc2_old _ _ _
  have HG1 : Hid (((w.alloc (.cells (rcC r).toArray 76)).alloc (.cells zRc 68)).heap[w.heap.size + 1]? = some (.cells zRc 68 (0, 0))) := heap_alloc2_new _ _ _
  have HB1 : Hid (Below w.heap.size w ((w.alloc (.cells (rcC r).toArray 76)).alloc (.cells zRc 68))) := below_alloc2 _ _ _
  have b0 := byte_lt r.a0
  have d0 : (0 : Int) ≤ (r.a0.toNat : Int) := by omega
  have b1 := byte_lt r.a1
  have d1 : (0 : Int) ≤ (r.a1.toNat : Int) := by omega
  have b2 := byte_lt r.a2
  have d2 : (0 : Int) ≤ (r.a2.toNat : Int) := by omega
  have b3 := byte_lt r.a3
  have d3 : (0 : Int) ≤ (r.a3.toNat : Int) := by omega
  have b4 := byte_lt r.a4
  have d4 : (0 : Int) ≤ (r.a4.toNat : Int) := by omega
  have b6 : (r.rev.toNat : Int) ≤ 4294967295 := by have := r.rev.toNat_lt; omega
  have d6 : (0 : Int) ≤ (r.rev.toNat : Int) := by omega
  go_enter Try.func32, Try.ntmps32
  go_upto_region 1 with fail
  rw [show (Obj.cells #[Value.int IntKind.i64 0, Value.int IntKind.i64 0, Value.int IntKind.i64 0, Value.int IntKind.i64 0, Value.int IntKind.i64 0, Value.bool false, Value.int IntKind.u64 0, Value.int IntKind.u64 0, Value.string ⟨#[]⟩] 68) = Obj.cells zRc 68 from rfl]
  generalize (w.alloc (.cells (rcC r).toArray 76)).alloc (.cells zRc 68) = W1 at *
  have c0 : W1.cell? ⟨w.heap.size, 0, none⟩ = some (.int .u8 (r.a0.toNat : Int)) := by rw [cell_blk HG0.out]; rfl
  have c1 : W1.cell? ⟨w.heap.size, 1, none⟩ = some (.int .u8 (r.a1.toNat : Int)) := by rw [cell_blk HG0.out]; rfl
  have c2 : W1.cell? ⟨w.heap.size, 2, none⟩ = some (.int .u8 (r.a2.toNat : Int)) := by rw [cell_blk HG0.out]; rfl
  have c3 : W1.cell? ⟨w.heap.size, 3, none⟩ = some (.int .u8 (r.a3.toNat : Int)) := by rw [cell_blk HG0.out]; rfl
  have c4 : W1.cell? ⟨w.heap.size, 4, none⟩ = some (.int .u8 (r.a4.toNat : Int)) := by rw [cell_blk HG0.out]; rfl
  have c5 : W1.cell? ⟨w.heap.size, 5, none⟩ = some (.bool r.gone) := by rw [cell_blk HG0.out]; rfl
  have c6 : W1.cell? ⟨w.heap.size, 6, none⟩ = some (.int .u32 (r.rev.toNat : Int)) := by rw [cell_blk HG0.out]; rfl
  have c7 : W1.cell? ⟨w.heap.size, 7, none⟩ = some (.int .u64 r.at_) := by rw [cell_blk HG0.out]; rfl
  have c8 : W1.cell? ⟨w.heap.size, 8, none⟩ = some (.string r.text) := by rw [cell_blk HG0.out]; rfl
  go_wp2_with (first
    | ((with_reducible refine gate_bd 68 _ rfl ?_); refine wl_bd rfl _ [(0, .tmp 5), (1, .tmp 8), (2, .tmp 11), (3, .tmp 14), (4, .tmp 17), (5, .tmp 19), (6, .tmp 22), (7, .tmp 24), (8, .tmp 26)] rfl [(0, .int .i64 (r.a0.toNat : Int)), (1, .int .i64 (r.a1.toNat : Int)), (2, .int .i64 (r.a2.toNat : Int)), (3, .int .i64 (r.a3.toNat : Int)), (4, .int .i64 (r.a4.toNat : Int)), (5, .bool r.gone), (6, .int .u64 (r.rev.toNat : Int)), (7, .int .u64 r.at_), (8, .string r.text)] rfl (rcR r).toArray (built_rcR r) ?_)
    | ((with_reducible refine gate_st 68 _ _ rfl ?_); refine wl_strG rfl 68 _ _ rfl (w.heap.size + 1) (rcR r).toArray zRc 68 (by rw [sizRRc]; rfl) rfl (by rw [← Array.all_toList]; exact rcR_one r) rfl rfl HG1.out (fun W3 h1 h2 => ?_); have HG3 := Lib.hid h1; have HB3 := Lib.hid (HB1.out.trans (h2.below (B := w.heap.size) (fun k hk => by simp at hk; omega) HB1.out.size)); clear h1 h2))
  refine bodyPost_ret (res_rowc (P := Try.prog) (T := 68) (T' := 68) rfl _ _ (w.heap.size + 1) (rcR r).toArray (0, 0) rfl HG3.out Try.underlying68 rfl (by rw [sizRRc]; rfl)) rfl ⟨rfl, HB3.out⟩
/-- A write. -/
structure WrD where
  key : K5
  dead : Bool
  rc : RcD
  kok : key.ok
def wrC (x : WrD) : List Value := (kC x.key).toList ++ (.bool x.dead :: rcC x.rc)
def wrR (x : WrD) : List Value := (rK x.key 10).toList ++ (.bool x.dead :: rcR x.rc)
theorem kC_len {k : K5} (h : k.ok) : (kC k).toList.length = 25 := by simp [kC, bC, K5.len h]
theorem rK_len {k : K5} (h : k.ok) : (rK k 10).toList.length = 25 := by simp [rK_size h 10 (by omega)]
theorem wrC_len (x : WrD) : (wrC x).length = 35 := by rw [wrC, List.length_append, kC_len x.kok]; rfl
theorem wrR_len (x : WrD) : (wrR x).length = 35 := by rw [wrR, List.length_append, rK_len x.kok]; rfl
theorem wrC_one (x : WrD) : (wrC x).all (·.oneCell') = true := by rw [wrC, List.all_append, show (kC x.key).toList.all (·.oneCell') = true from bC_all _]; rfl
theorem wrR_one (x : WrD) : (wrR x).all (·.oneCell') = true := by
  have h := rK_one x.key 10
  rw [← Array.all_toList] at h
  rw [wrR, List.all_append, h]; rfl
theorem sizWr : (Try.prog.info? 78).map (·.size) = some 35 := by kernel_rfl
theorem sizRWr : (Try.prog.info? 70).map (·.size) = some 35 := by kernel_rfl
theorem built_wrR (x : WrD) : Try.prog.built 70 [(0, .agg (rK x.key 10)), (1, .bool x.dead), (2, .agg (rcR x.rc).toArray)] = some (wrR x).toArray := by
  obtain ⟨⟨k0, k1, k2, n, t⟩, d, rc, hn, ht⟩ := x
  obtain ⟨a0, a1, a2, a3, a4, a5, a6, a7, a8, a9, a10, a11, rfl⟩ := twelve n hn
  obtain ⟨a, b, c, d, e, f, g, i, j, k, rfl⟩ := ten t ht
  kernel_rfl
def zWr : Array Value := #[Value.int IntKind.i64 0, Value.int IntKind.i64 0, Value.int IntKind.i64 0, Value.int IntKind.u8 0, Value.int IntKind.u8 0, Value.int IntKind.u8 0, Value.int IntKind.u8 0, Value.int IntKind.u8 0, Value.int IntKind.u8 0, Value.int IntKind.u8 0, Value.int IntKind.u8 0, Value.int IntKind.u8 0, Value.int IntKind.u8 0, Value.int IntKind.u8 0, Value.int IntKind.u8 0, Value.int IntKind.u8 0, Value.int IntKind.u8 0, Value.int IntKind.u8 0, Value.int IntKind.u8 0, Value.int IntKind.u8 0, Value.int IntKind.u8 0, Value.int IntKind.u8 0, Value.int IntKind.u8 0, Value.int IntKind.u8 0, Value.int IntKind.u8 0, Value.bool false, Value.int IntKind.i64 0, Value.int IntKind.i64 0, Value.int IntKind.i64 0, Value.int IntKind.i64 0, Value.int IntKind.i64 0, Value.bool false, Value.int IntKind.u64 0, Value.int IntKind.u64 0, Value.string ⟨#[]⟩]
set_option maxRecDepth 100000 in
set_option maxHeartbeats 8000000 in
theorem of14_any (x : WrD) (w : World) : Calls Try.prog 20 #[.agg (wrC x).toArray] w fun e w' => e = .returned (.agg (wrR x).toArray) ∧ Below w.heap.size w w' := by
  have HG0 : Hid (((w.alloc (.cells (wrC x).toArray 78)).alloc (.cells zWr 70)).heap[w.heap.size]? = some (.cells (wrC x).toArray 78 (0, 0))) := heap_alloc2_old _ _ _
  have HG1 : Hid (((w.alloc (.cells (wrC x).toArray 78)).alloc (.cells zWr 70)).heap[w.heap.size + 1]? = some (.cells zWr 70 (0, 0))) := heap_alloc2_new _ _ _
  have HB1 : Hid (Below w.heap.size w ((w.alloc (.cells (wrC x).toArray 78)).alloc (.cells zWr 70))) := below_alloc2 _ _ _
  have KK : Hid (∀ W, Calls Try.prog 31 #[.agg (kC x.key)] W fun e w' => e = .returned (.agg (rK x.key 10)) ∧ Below W.heap.size W w') := fun W => of06_any x.key W x.kok
  have KR : Hid (∀ W, Calls Try.prog 32 #[.agg (rcC x.rc).toArray] W fun e w' => e = .returned (.agg (rcR x.rc).toArray) ∧ Below W.heap.size W w') := fun W => of10_any x.rc W
  go_enter Try.func20, Try.ntmps20
  go_upto_region 1 with fail
  rw [show (Obj.cells #[Value.int IntKind.i64 0, Value.int IntKind.i64 0, Value.int IntKind.i64 0, Value.int IntKind.u8 0, Value.int IntKind.u8 0, Value.int IntKind.u8 0, Value.int IntKind.u8 0, Value.int IntKind.u8 0, Value.int IntKind.u8 0, Value.int IntKind.u8 0, Value.int IntKind.u8 0, Value.int IntKind.u8 0, Value.int IntKind.u8 0, Value.int IntKind.u8 0, Value.int IntKind.u8 0, Value.int IntKind.u8 0, Value.int IntKind.u8 0, Value.int IntKind.u8 0, Value.int IntKind.u8 0, Value.int IntKind.u8 0, Value.int IntKind.u8 0, Value.int IntKind.u8 0, Value.int IntKind.u8 0, Value.int IntKind.u8 0, Value.int IntKind.u8 0, Value.bool false, Value.int IntKind.i64 0, Value.int IntKind.i64 0, Value.int IntKind.i64 0, Value.int IntKind.i64 0, Value.int IntKind.i64 0, Value.bool false, Value.int IntKind.u64 0, Value.int IntKind.u64 0, Value.string ⟨#[]⟩] 70) = Obj.cells zWr 70 from rfl]
  generalize (w.alloc (.cells (wrC x).toArray 78)).alloc (.cells zWr 70) = W1 at *
  have hlt := lt_heap HG0.out
  have HRk : Hid (W1.rangeAt w.heap.size 0 (kC x.key).toList) := range_app_left (range_whole HG0.out)
  have hr2 : W1.rangeAt w.heap.size 25 (.bool x.dead :: rcC x.rc) := by have := range_app_right (range_whole HG0.out) 25 (kC_len x.kok); rwa [Nat.zero_add] at this
  have c25 : W1.cell? ⟨w.heap.size, 25, none⟩ = some (.bool x.dead) := hr2 0 _ rfl
  have HRr : Hid (W1.rangeAt w.heap.size 26 (rcC x.rc)) := range_app_right (xs := [.bool x.dead]) hr2 1 rfl
  clear hr2
  refine wp_region_below_tail 9 (by kernel_rfl) (by kernel_rfl) ?_
  simp only [List.take_succ_cons, List.take_zero, List.drop_succ_cons, List.drop_zero]
  repeat (first
    | (refine wq_ldr rfl 73 (.tmp 3) rfl w.heap.size 0 (kC x.key).toList _ Try.underlying73 rfl (by rw [sizK, kC_len x.kok]) rfl HRk.out hlt ?_; simp only [Act.put, List.setIfInBounds_toArray, List.set_cons_zero, List.set_cons_succ])
    | (refine wq_ldr rfl 76 (.tmp 8) rfl w.heap.size 26 (rcC x.rc) _ Try.underlying76 rfl (by rw [sizRc]; rfl) rfl HRr.out hlt ?_; simp only [Act.put, List.setIfInBounds_toArray, List.set_cons_zero, List.set_cons_succ])
    | (refine wq_one rfl 4 (.tmp 6) rfl w.heap.size 25 (.bool x.dead) ag4 rfl c25 hlt ?_; simp only [Act.put, List.setIfInBounds_toArray, List.set_cons_zero, List.set_cons_succ])
    | (refine wq_bd _ rfl 70 [(0, .tmp 5), (1, .tmp 7), (2, .tmp 10)] rfl [(0, .agg (rK x.key 10)), (1, .bool x.dead), (2, .agg (rcR x.rc).toArray)] rfl (wrR x).toArray (built_wrR x) ?_; simp only [Act.put, List.setIfInBounds_toArray, List.set_cons_zero, List.set_cons_succ])
    | go_big_quiet_step (first | (with_reducible exact rg_call KK.out _ _) | (with_reducible exact rg_call KR.out _ _)))
  refine wpQuiet_nil ?_
  rintro _ ⟨⟨dq, osq⟩, rfl⟩
  have hbr := below_regrown W1 dq osq
  have HG2 := Lib.hid ((hbr.block _ (lt_heap HG1.out)).trans HG1.out)
  have HB2 := Lib.hid (HB1.out.trans (hbr.mono HB1.out.size))
  clear hbr c25
  generalize Sort.grow (redrawn W1 dq) osq = W2 at *
  go_wp2_with (first
    | ((with_reducible refine gate_st 70 _ _ rfl ?_); refine wl_strG rfl 70 _ _ rfl (w.heap.size + 1) (wrR x).toArray zWr 70 (by rw [sizRWr, List.size_toArray, wrR_len]) (by rw [List.size_toArray, wrR_len]; rfl) (by rw [← Array.all_toList]; exact wrR_one x) rfl rfl HG2.out (fun W3 h1 h2 => ?_); have HG3 := Lib.hid h1; have HB3 := Lib.hid (HB2.out.trans (h2.below (B := w.heap.size) (fun k hk => by simp at hk; omega) HB2.out.size)); clear h1 h2))
  refine bodyPost_ret (res_rowc (P := Try.prog) (T := 70) (T' := 70) rfl _ _ (w.heap.size + 1) (wrR x).toArray (0, 0) rfl HG3.out Try.underlying70 rfl (by rw [sizRWr, List.size_toArray, wrR_len])) rfl ⟨rfl, HB3.out⟩
end Go.Proofs.Ythimpgnagjgmdaa
