/- Orders and replies in memory; the laws' Cut, Of and Told of chapter 25. -/
import Derived.Test.YthimpgnagjgmdaaP1
import Derived.Test.YthimpgnagjgmdaaGQ
namespace Go.Proofs.Ythimpgnagjgmdaa
open Go.RowKit

theorem exec_st1 {P : Program} {o : Oper} {a : Act} {w : World} (T : TypeId) (hsz : (P.info? T).map (·.size) = some 1) (x y : Operand) (ho : o.op = .store T x y) (b i : Nat) (v : Value) (hx : a.eval x = .pointer (some ⟨b, i, none⟩)) (hy : a.eval y = v) (h1 : v.oneCell' = true) (cur : List Value) (T' : TypeId) (hg : w.heap[b]? = some (.cells cur.toArray T' (0, 0))) (hi : i + 1 ≤ cur.length) :
    (execOp a.eval o).run P w = .ok .skip (w.setRow b (cur.take i ++ [v] ++ cur.drop (i + 1)).toArray) := by
  have hst := run_storeCells_at P b i T' [v] 0 cur.toArray w hg (by simpa using hi) (fun x hx => by simp at hx; subst hx; exact h1)
  have hc : v.cells = #[v] := by cases v <;> first | rfl | cases h1
  have hrun : (storeVar T ⟨b, i, none⟩ v).run P w = .ok () (w.setRow b (cur.take i ++ [v] ++ cur.drop (i + 1)).toArray) := by
    cases hq : P.info? T with
    | none => simp [hq] at hsz
    | some inf =>
      have hs : inf.size = 1 := by simpa [hq] using hsz
      simp only [Nat.add_zero, List.length_singleton] at hst
      simp [storeVar, sizeOf, typeInfo, hq, hc, hs, hst]
  unfold execOp
  simp only [ho, hx, hy, Instr.storeAt, Instr.sureAddr, Sem.run_bind, Sem.run_pure, Result.andThen_ok, hrun]
/-- A store of one cell into a block that is known; what it leaves is named anew. -/
theorem wl_st1G {P : Program} {ops : Array Oper} {rest : List Oper} {o : Oper} {a : Act} {w : World} {Q : Exit → Act → World → Prop} (hgd : o.guard = none) (T : TypeId) (hsz : (P.info? T).map (·.size) = some 1) (x y : Operand) (ho : o.op = .store T x y) (b i : Nat) (v : Value) (hx : a.eval x = .pointer (some ⟨b, i, none⟩)) (hy : a.eval y = v) (h1 : v.oneCell' = true) (cur new : List Value) (T' : TypeId) (hg : w.heap[b]? = some (.cells cur.toArray T' (0, 0))) (hi : i + 1 ≤ cur.length) (hn : cur.take i ++ [v] ++ cur.drop (i + 1) = new)
    (h : ∀ w', w'.heap[b]? = some (.cells new.toArray T' (0, 0)) → Turn [b] w w' → wpList P ops Q rest (a.put o.dst undef) w') : wpList P ops Q (o :: rest) a w := by
  subst hn
  refine wpList_plain hgd fun K hK => ?_
  have := exec_st1 (P := P) (a := a) (w := w) T hsz x y ho b i v hx hy h1 cur T' hg hi
  unfold Oper.wp
  rw [this]
  exact hK _ _ (h _ (setRow_at hg) ⟨rfl, rfl, rfl, by simp, fun b _ hr => setRow_other _ _ _ _ (by simpa using hr)⟩)
theorem ag3 (w : World) : (isAgg 3).run Try.prog w = .ok false w := by simp [isAgg, run_underlying Try.underlying3]
theorem ag9 (w : World) : (isAgg 9).run Try.prog w = .ok false w := by simp [isAgg, run_underlying Try.underlying9]
theorem siz9 : (Try.prog.info? 9).map (·.size) = some 1 := by kernel_rfl
/-- An order. -/
structure OpD where
  n0 : Int
  n1 : Int
  n2 : Int
  n3 : Int
  n4 : Int
  n5 : Int
  n6 : Int
  name : List UInt8
  tag : List UInt8
  text : ByteArray
  ln : name.length = 12
  lt : tag.length = 10
def opI (o : OpD) : List Value := [.int .i64 o.n0, .int .i64 o.n1, .int .i64 o.n2, .int .i64 o.n3, .int .i64 o.n4, .int .i64 o.n5, .int .i64 o.n6]
def opC (o : OpD) : List Value := opI o ++ ((bC o.name).toList ++ ((bC o.tag).toList ++ [.string o.text]))
theorem opC_len (o : OpD) : (opC o).length = 30 := by simp [opC, opI, bC, o.ln, o.lt]
theorem bC_all (l : List UInt8) : (bC l).toList.all (·.oneCell') = true := by
  have := bC_one l
  rwa [← Array.all_toList] at this
theorem opC_one (o : OpD) : (opC o).all (·.oneCell') = true := by
  simp only [opC, List.all_append, bC_all, Bool.true_and, Bool.and_true]
  rfl
theorem opC_text (o : OpD) : (opC o)[29]? = some (.string o.text) := by
  have h1 : (bC o.name).toList.length = 12 := by simp [bC, o.ln]
  have h2 : (bC o.tag).toList.length = 10 := by simp [bC, o.lt]
  unfold opC
  rw [List.getElem?_append_right (by simp [opI]), List.getElem?_append_right (by simp [opI, h1]), List.getElem?_append_right (by simp [opI, h1, h2])]
  simp [opI, h1, h2]
def OpD.set (o : OpD) (s : ByteArray) : OpD := { o with text := s }
theorem opC_set (o : OpD) (s : ByteArray) : (opC o).take 29 ++ [Value.string s] ++ (opC o).drop (29 + 1) = opC (o.set s) := by
  have h1 : (bC o.name).toList.length = 12 := by simp [bC, o.ln]
  have h2 : (bC o.tag).toList.length = 10 := by simp [bC, o.lt]
  rw [List.drop_eq_nil_of_le (by rw [opC_len]; omega), List.append_nil]
  have e : opC o = (opI o ++ ((bC o.name).toList ++ (bC o.tag).toList)) ++ [.string o.text] := by simp [opC]
  rw [e, List.take_left' (by simp [opI, h1, h2])]
  simp [opC, OpD.set, opI]
theorem op_name {w : World} {b o : Nat} {x : OpD} (h : w.rangeAt b o (opC x)) : w.rangeAt b (o + 7) (bC x.name).toList := range_app_left (range_app_right h 7 rfl)
theorem op_tag {w : World} {b o : Nat} {x : OpD} (h : w.rangeAt b o (opC x)) : w.rangeAt b (o + 19) (bC x.tag).toList := by
  have := range_app_left (range_app_right (range_app_right h 7 rfl) 12 (by simp [bC, x.ln]))
  rwa [Nat.add_assoc] at this
theorem sizOp : (Try.prog.info? 35).map (·.size) = some 30 := by kernel_rfl
theorem sizROp : (Try.prog.info? 46).map (·.size) = some 30 := by kernel_rfl
theorem twelve (l : List UInt8) (h : l.length = 12) : ∃ a0 a1 a2 a3 a4 a5 a6 a7 a8 a9 a10 a11, l = [a0, a1, a2, a3, a4, a5, a6, a7, a8, a9, a10, a11] := by
  match l, h with
  | [a0, a1, a2, a3, a4, a5, a6, a7, a8, a9, a10, a11], _ => exact ⟨a0, a1, a2, a3, a4, a5, a6, a7, a8, a9, a10, a11, rfl⟩
theorem built_rOp (o : OpD) : Try.prog.built 46 [(0, .int .i64 o.n0), (1, .int .i64 o.n1), (2, .int .i64 o.n2), (3, .int .i64 o.n3), (4, .int .i64 o.n4), (5, .int .i64 o.n5), (6, .int .i64 o.n6), (7, .agg (bC o.name)), (8, .agg (bC o.tag)), (9, .string o.text)] = some (opC o).toArray := by
  obtain ⟨n0, n1, n2, n3, n4, n5, n6, n, t, s, hn, ht⟩ := o
  obtain ⟨a0, a1, a2, a3, a4, a5, a6, a7, a8, a9, a10, a11, rfl⟩ := twelve n hn
  obtain ⟨a, b, c, d, e, f, g, i, j, k, rfl⟩ := ten t ht
  kernel_rfl
def zOp : Array Value := #[Value.int IntKind.i64 0, Value.int IntKind.i64 0, Value.int IntKind.i64 0, Value.int IntKind.i64 0, Value.int IntKind.i64 0, Value.int IntKind.i64 0, Value.int IntKind.i64 0, Value.int IntKind.u8 0, Value.int IntKind.u8 0, Value.int IntKind.u8 0, Value.int IntKind.u8 0, Value.int IntKind.u8 0, Value.int IntKind.u8 0, Value.int IntKind.u8 0, Value.int IntKind.u8 0, Value.int IntKind.u8 0, Value.int IntKind.u8 0, Value.int IntKind.u8 0, Value.int IntKind.u8 0, Value.int IntKind.u8 0, Value.int IntKind.u8 0, Value.int IntKind.u8 0, Value.int IntKind.u8 0, Value.int IntKind.u8 0, Value.int IntKind.u8 0, Value.int IntKind.u8 0, Value.int IntKind.u8 0, Value.int IntKind.u8 0, Value.int IntKind.u8 0, Value.string ⟨#[]⟩]
def cutO (o : OpD) : OpD := o.set (o.text.extract 0 (min o.text.size 1300))
set_option maxRecDepth 100000 in
set_option maxHeartbeats 4000000 in
theorem cut25_any (o : OpD) (w : World) : Calls Try.prog 16 #[.agg (opC o).toArray] w fun e w' => e = .returned (.agg (opC (cutO o)).toArray) ∧ Below w.heap.size w w' := by
  have HG0 : Hid (((w.alloc (.cells (opC o).toArray 35)).alloc (.cells zOp 35)).heap[w.heap.size]? = some (.cells (opC o).toArray 35 (0, 0))) := heap_alloc2_old _ _ _
  have HG1 : Hid (((w.alloc (.cells (opC o).toArray 35)).alloc (.cells zOp 35)).heap[w.heap.size + 1]? = some (.cells zOp 35 (0, 0))) := heap_alloc2_new _ _ _
  have HB1 : Hid (Below w.heap.size w ((w.alloc (.cells (opC o).toArray 35)).alloc (.cells zOp 35))) := below_alloc2 _ _ _
  obtain ⟨m, hm, hml⟩ : ∃ m : Nat, min (o.text.size : Int) 1300 = (m : Int) ∧ m = min o.text.size 1300 := ⟨_, by omega, rfl⟩
  have hmi : ¬ (o.text.size : Int) < m := by omega
  have HC : Hid (cutO o = o.set (o.text.extract 0 m)) := by show _ = _; rw [hml]; rfl
  clear hml
  go_enter Try.func16, Try.ntmps16
  go_upto_region 1 with fail
  rw [show (Obj.cells #[Value.int IntKind.i64 0, Value.int IntKind.i64 0, Value.int IntKind.i64 0, Value.int IntKind.i64 0, Value.int IntKind.i64 0, Value.int IntKind.i64 0, Value.int IntKind.i64 0, Value.int IntKind.u8 0, Value.int IntKind.u8 0, Value.int IntKind.u8 0, Value.int IntKind.u8 0, Value.int IntKind.u8 0, Value.int IntKind.u8 0, Value.int IntKind.u8 0, Value.int IntKind.u8 0, Value.int IntKind.u8 0, Value.int IntKind.u8 0, Value.int IntKind.u8 0, Value.int IntKind.u8 0, Value.int IntKind.u8 0, Value.int IntKind.u8 0, Value.int IntKind.u8 0, Value.int IntKind.u8 0, Value.int IntKind.u8 0, Value.int IntKind.u8 0, Value.int IntKind.u8 0, Value.int IntKind.u8 0, Value.int IntKind.u8 0, Value.int IntKind.u8 0, Value.string ⟨#[]⟩] 35) = Obj.cells zOp 35 from rfl]
  generalize (w.alloc (.cells (opC o).toArray 35)).alloc (.cells zOp 35) = W1 at *
  have hct : W1.cell? ⟨w.heap.size, 29, none⟩ = some (.string o.text) := by rw [cell_blk HG0.out, List.getElem?_toArray]; exact opC_text o
  go_upto_region 2 with (first
    | ((with_reducible refine gate_st 9 _ _ rfl ?_); refine wl_st1G rfl 9 siz9 _ _ rfl w.heap.size 29 (.string (o.text.extract 0 m)) rfl rfl rfl (opC o) (opC (o.set (o.text.extract 0 m))) _ HG0.out (by rw [opC_len]; omega) (opC_set o _) (fun W2 h1 h2 => ?_); have HG2 := Lib.hid h1; have HZ2 : Hid (W2.heap[w.heap.size + 1]? = some (.cells zOp 35 (0, 0))) := (h2.block _ (lt_heap HG1.out) (by simp)).trans HG1.out; have HB2 := Lib.hid (HB1.out.trans (h2.below (B := w.heap.size) (fun k hk => by simp at hk; omega) HB1.out.size)); clear h1 h2))
  have HR := Lib.hid (range_whole (vs := opC (o.set (o.text.extract 0 m))) HG2.out)
  clear hct hm hmi
  generalize o.set (o.text.extract 0 m) = o' at *
  go_wp2_with (first
    | ((with_reducible refine gate_ld 35 _ rfl ?_); refine wl_ldr rfl _ _ rfl w.heap.size 0 (opC o') _ Try.underlying35 rfl (by rw [sizOp, opC_len]) rfl HR.out ?_)
    | ((with_reducible refine gate_st 35 _ _ rfl ?_); refine wl_strG rfl 35 _ _ rfl (w.heap.size + 1) (opC o').toArray zOp 35 (by rw [sizOp, List.size_toArray, opC_len]) (by rw [List.size_toArray, opC_len]; rfl) (by rw [← Array.all_toList]; exact opC_one o') rfl rfl HZ2.out (fun W3 h1 h2 => ?_); have HG3 := Lib.hid h1; have HB3 := Lib.hid (HB2.out.trans (h2.below (B := w.heap.size) (fun k hk => by simp at hk; omega) HB2.out.size)); clear h1 h2))
  refine bodyPost_ret (res_rowc (P := Try.prog) (T := 35) (T' := 35) rfl _ _ (w.heap.size + 1) (opC o').toArray (0, 0) rfl HG3.out Try.underlying35 rfl (by rw [sizOp, List.size_toArray, opC_len])) rfl ⟨by rw [HC.out], HB3.out⟩
set_option maxRecDepth 100000 in
set_option maxHeartbeats 8000000 in
theorem of25_any (o : OpD) (w : World) : Calls Try.prog 18 #[.agg (opC o).toArray] w fun e w' => e = .returned (.agg (opC o).toArray) ∧ Below w.heap.size w w' := by
  have HG0 : Hid (((w.alloc (.cells (opC o).toArray 35)).alloc (.cells zOp 46)).heap[w.heap.size]? = some (.cells (opC o).toArray 35 (0, 0))) := heap_alloc2_old _ _ _
  have HG1 : Hid (((w.alloc (.cells (opC o).toArray 35)).alloc (.cells zOp 46)).heap[w.heap.size + 1]? = some (.cells zOp 46 (0, 0))) := heap_alloc2_new _ _ _
  have HB1 : Hid (Below w.heap.size w ((w.alloc (.cells (opC o).toArray 35)).alloc (.cells zOp 46))) := below_alloc2 _ _ _
  have KT : Hid (∀ W, Calls Try.prog 30 #[.agg (bC o.tag)] W fun e w' => e = .returned (.agg (bC o.tag)) ∧ Below W.heap.size W w') := fun W => tag19_any o.tag o.lt W
  go_enter Try.func18, Try.ntmps18
  go_upto_region 1 with fail
  rw [show (Obj.cells #[Value.int IntKind.i64 0, Value.int IntKind.i64 0, Value.int IntKind.i64 0, Value.int IntKind.i64 0, Value.int IntKind.i64 0, Value.int IntKind.i64 0, Value.int IntKind.i64 0, Value.int IntKind.u8 0, Value.int IntKind.u8 0, Value.int IntKind.u8 0, Value.int IntKind.u8 0, Value.int IntKind.u8 0, Value.int IntKind.u8 0, Value.int IntKind.u8 0, Value.int IntKind.u8 0, Value.int IntKind.u8 0, Value.int IntKind.u8 0, Value.int IntKind.u8 0, Value.int IntKind.u8 0, Value.int IntKind.u8 0, Value.int IntKind.u8 0, Value.int IntKind.u8 0, Value.int IntKind.u8 0, Value.int IntKind.u8 0, Value.int IntKind.u8 0, Value.int IntKind.u8 0, Value.int IntKind.u8 0, Value.int IntKind.u8 0, Value.int IntKind.u8 0, Value.string ⟨#[]⟩] 46) = Obj.cells zOp 46 from rfl]
  generalize (w.alloc (.cells (opC o).toArray 35)).alloc (.cells zOp 46) = W1 at *
  have hlt := lt_heap HG0.out
  have c0 : W1.cell? ⟨w.heap.size, 0, none⟩ = some (.int .i64 o.n0) := by rw [cell_blk HG0.out]; rfl
  have c1 : W1.cell? ⟨w.heap.size, 1, none⟩ = some (.int .i64 o.n1) := by rw [cell_blk HG0.out]; rfl
  have c2 : W1.cell? ⟨w.heap.size, 2, none⟩ = some (.int .i64 o.n2) := by rw [cell_blk HG0.out]; rfl
  have c3 : W1.cell? ⟨w.heap.size, 3, none⟩ = some (.int .i64 o.n3) := by rw [cell_blk HG0.out]; rfl
  have c4 : W1.cell? ⟨w.heap.size, 4, none⟩ = some (.int .i64 o.n4) := by rw [cell_blk HG0.out]; rfl
  have c5 : W1.cell? ⟨w.heap.size, 5, none⟩ = some (.int .i64 o.n5) := by rw [cell_blk HG0.out]; rfl
  have c6 : W1.cell? ⟨w.heap.size, 6, none⟩ = some (.int .i64 o.n6) := by rw [cell_blk HG0.out]; rfl
  have c29 : W1.cell? ⟨w.heap.size, 29, none⟩ = some (.string o.text) := by rw [cell_blk HG0.out, List.getElem?_toArray]; exact opC_text o
  have HRn : Hid (W1.rangeAt w.heap.size 7 (bC o.name).toList) := by have := op_name (range_whole HG0.out); rwa [Nat.zero_add] at this
  have HRt : Hid (W1.rangeAt w.heap.size 19 (bC o.tag).toList) := by have := op_tag (range_whole HG0.out); rwa [Nat.zero_add] at this
  refine wp_region_below_tail 22 (by kernel_rfl) (by kernel_rfl) ?_
  simp only [List.take_succ_cons, List.take_zero, List.drop_succ_cons, List.drop_zero]
  repeat (first
    | (refine wq_ldr rfl 29 (.tmp 17) rfl w.heap.size 7 (bC o.name).toList _ Try.underlying29 rfl (by rw [info23]; simp [bC, o.ln]) rfl HRn.out hlt ?_; simp only [Act.put, List.setIfInBounds_toArray, List.set_cons_zero, List.set_cons_succ])
    | (refine wq_ldr rfl 33 (.tmp 19) rfl w.heap.size 19 (bC o.tag).toList _ Try.underlying33 rfl (by rw [sizTag]; simp [bC, o.lt]) rfl HRt.out hlt ?_; simp only [Act.put, List.setIfInBounds_toArray, List.set_cons_zero, List.set_cons_succ])
    | (refine wq_one rfl 3 (.tmp 3) rfl w.heap.size 0 (.int .i64 o.n0) ag3 rfl c0 hlt ?_; simp only [Act.put, List.setIfInBounds_toArray, List.set_cons_zero, List.set_cons_succ])
    | (refine wq_one rfl 3 (.tmp 5) rfl w.heap.size 1 (.int .i64 o.n1) ag3 rfl c1 hlt ?_; simp only [Act.put, List.setIfInBounds_toArray, List.set_cons_zero, List.set_cons_succ])
    | (refine wq_one rfl 3 (.tmp 7) rfl w.heap.size 2 (.int .i64 o.n2) ag3 rfl c2 hlt ?_; simp only [Act.put, List.setIfInBounds_toArray, List.set_cons_zero, List.set_cons_succ])
    | (refine wq_one rfl 3 (.tmp 9) rfl w.heap.size 3 (.int .i64 o.n3) ag3 rfl c3 hlt ?_; simp only [Act.put, List.setIfInBounds_toArray, List.set_cons_zero, List.set_cons_succ])
    | (refine wq_one rfl 3 (.tmp 11) rfl w.heap.size 4 (.int .i64 o.n4) ag3 rfl c4 hlt ?_; simp only [Act.put, List.setIfInBounds_toArray, List.set_cons_zero, List.set_cons_succ])
    | (refine wq_one rfl 3 (.tmp 13) rfl w.heap.size 5 (.int .i64 o.n5) ag3 rfl c5 hlt ?_; simp only [Act.put, List.setIfInBounds_toArray, List.set_cons_zero, List.set_cons_succ])
    | (refine wq_one rfl 3 (.tmp 15) rfl w.heap.size 6 (.int .i64 o.n6) ag3 rfl c6 hlt ?_; simp only [Act.put, List.setIfInBounds_toArray, List.set_cons_zero, List.set_cons_succ])
    | (refine wq_one rfl 9 (.tmp 22) rfl w.heap.size 29 (.string o.text) ag9 rfl c29 hlt ?_; simp only [Act.put, List.setIfInBounds_toArray, List.set_cons_zero, List.set_cons_succ])
    | (refine wq_bd _ rfl 46 [(0, .tmp 4), (1, .tmp 6), (2, .tmp 8), (3, .tmp 10), (4, .tmp 12), (5, .tmp 14), (6, .tmp 16), (7, .tmp 18), (8, .tmp 21), (9, .tmp 23)] rfl [(0, .int .i64 o.n0), (1, .int .i64 o.n1), (2, .int .i64 o.n2), (3, .int .i64 o.n3), (4, .int .i64 o.n4), (5, .int .i64 o.n5), (6, .int .i64 o.n6), (7, .agg (bC o.name)), (8, .agg (bC o.tag)), (9, .string o.text)] rfl (opC o).toArray (built_rOp o) ?_; simp only [Act.put, List.setIfInBounds_toArray, List.set_cons_zero, List.set_cons_succ])
    | go_big_quiet_step (with_reducible exact rg_call KT.out _ _))
  refine wpQuiet_nil ?_
  rintro _ ⟨⟨dq, osq⟩, rfl⟩
  have hbr := below_regrown W1 dq osq
  have HG2 := Lib.hid ((hbr.block _ (lt_heap HG1.out)).trans HG1.out)
  have HB2 := Lib.hid (HB1.out.trans (hbr.mono HB1.out.size))
  clear hbr c0 c1 c2 c3 c4 c5 c6 c29
  generalize Sort.grow (redrawn W1 dq) osq = W2 at *
  go_wp2_with (first
    | ((with_reducible refine gate_st 46 _ _ rfl ?_); refine wl_strG rfl 46 _ _ rfl (w.heap.size + 1) (opC o).toArray zOp 46 (by rw [sizROp, List.size_toArray, opC_len]) (by rw [List.size_toArray, opC_len]; rfl) (by rw [← Array.all_toList]; exact opC_one o) rfl rfl HG2.out (fun W3 h1 h2 => ?_); have HG3 := Lib.hid h1; have HB3 := Lib.hid (HB2.out.trans (h2.below (B := w.heap.size) (fun k hk => by simp at hk; omega) HB2.out.size)); clear h1 h2))
  refine bodyPost_ret (res_rowc (P := Try.prog) (T := 46) (T' := 46) rfl _ _ (w.heap.size + 1) (opC o).toArray (0, 0) rfl HG3.out Try.underlying46 rfl (by rw [sizROp, List.size_toArray, opC_len])) rfl ⟨rfl, HB3.out⟩
end Go.Proofs.Ythimpgnagjgmdaa
