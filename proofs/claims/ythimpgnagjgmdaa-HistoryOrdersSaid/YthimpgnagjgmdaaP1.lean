/- The law's Tag of chapter 19: a tag's ten bytes; small laws for regions that keep the text's order. -/
import Derived.Test.YthimpgnagjgmdaaO6
import Derived.Test.YthimpgnagjgmdaaGC
import Derived.Test.YthimpgnagjgmdaaG3
namespace Go.Proofs.Ythimpgnagjgmdaa
open Go.RowKit

section
variable {ops : Array Oper} {rest : List Oper} {o : Oper} {a : Act} {w : World} {Q : Exit → Act → World → Prop}
/-- One value, the world left as it is. -/
theorem wl_val (hw : Region.wanted o (yielded ops a.tmps) = true) (v : Value) (hr : (execOp a.eval o).run Try.prog w = .ok (.value v) w) (h : wpList Try.prog ops Q rest (a.put o.dst v) w) : wpList Try.prog ops Q (o :: rest) a w :=
  wpList_step fun _ hK => by
    rw [if_pos hw]
    unfold Oper.wp
    rw [hr]
    exact hK _ _ h
theorem gate_val (f : Oper → Bool) (_ : f o = true) (h : wpList Try.prog ops Q (o :: rest) a w) : wpList Try.prog ops Q (o :: rest) a w := h
/-- A store of a row into a block that is known; what it leaves is named anew. -/
theorem wl_strG {P : Program} {ops : Array Oper} {rest : List Oper} {o : Oper} {a : Act} {w : World} {Q : Exit → Act → World → Prop} (hgd : o.guard = none) (T : TypeId) (x y : Operand) (ho : o.op = .store T x y) (g : Nat) (cs old : Array Value) (T' : TypeId)
    (hi : (P.info? T).map (·.size) = some cs.size) (hs : cs.size = old.size) (h1 : cs.all (·.oneCell') = true) (hx : a.eval x = .pointer (some ⟨g, 0, none⟩)) (hy : a.eval y = .agg cs) (hg : w.heap[g]? = some (.cells old T' (0, 0)))
    (h : ∀ w', w'.heap[g]? = some (.cells cs T' (0, 0)) → Turn [g] w w' → wpList P ops Q rest (a.put o.dst undef) w') : wpList P ops Q (o :: rest) a w :=
  wpList_store_row hgd T x y ho g cs hx hy T' old hg hi hs.symm h1 (h _ (setRow_at hg) ⟨rfl, rfl, rfl, by simp, fun b _ hr => setRow_other _ _ _ _ (by simpa using hr)⟩)
end
section
variable {W : World} {P : Program} {ops : Array Oper} {Q : Act → Prop} {a : Act} {o : Oper} {rest : List Oper}
theorem wq_cell (hw : Region.wanted o (yielded ops a.tmps) = true) (T : TypeId) (x : Operand) (ho : o.op = .load T x) (b i : Nat) (v : Value) (kd : IntKind) (hu : P.underlying T = some (.int kd))
    (hx : a.eval x = .pointer (some ⟨b, i, none⟩)) (hc : W.rangeAt b i [v]) (hb : b < W.heap.size)
    (h : wpQuiet P ops (fun w' => ∃ p : Regrown, w' = Sort.grow (redrawn W p.d) p.os) Q rest (a.put o.dst v)) : wpQuiet P ops (fun w' => ∃ p : Regrown, w' = Sort.grow (redrawn W p.d) p.os) Q (o :: rest) a := by
  refine wq_valC v hw (fun w hC => ?_) h
  obtain ⟨⟨dq, osq⟩, rfl⟩ := hC
  have hc' := range_of_block hc ((below_regrown W dq osq).block b hb)
  have hq : (Sort.grow (redrawn W dq) osq).cell? ⟨b, i, none⟩ = some v := by simpa using hc' 0 v rfl
  unfold execOp
  simp only [ho, hx, Sem.run_bind]
  have hag : (isAgg T).run P (Sort.grow (redrawn W dq) osq) = .ok false (Sort.grow (redrawn W dq) osq) := by simp [isAgg, run_underlying hu]
  simp [go_sem, hag, hq]
theorem wq_bd (C : World → Prop) (hw : Region.wanted o (yielded ops a.tmps) = true) (t : TypeId) (parts : List (Nat × Operand)) (ho : o.op = .build t parts.toArray)
    (vs : List (Nat × Value)) (hv : parts.map (fun p => (p.1, a.eval p.2)) = vs) (cells : Array Value) (hf : P.built t vs = some cells)
    (h : wpQuiet P ops C Q rest (a.put o.dst (.agg cells))) : wpQuiet P ops C Q (o :: rest) a := by
  refine wq_val (.agg cells) hw (fun w => ?_) h
  have e : (parts.toArray.map fun (i, x) => (i, a.eval x)).toList = vs := by rw [← hv]; simp
  unfold execOp
  simp only [ho, Sem.run_bind]
  rw [run_build w t _ cells (by rw [e]; exact hf)]
  rfl
theorem wq_one (hw : Region.wanted o (yielded ops a.tmps) = true) (T : TypeId) (x : Operand) (ho : o.op = .load T x) (b i : Nat) (v : Value) (hag : ∀ w, (isAgg T).run P w = .ok false w)
    (hx : a.eval x = .pointer (some ⟨b, i, none⟩)) (hc : W.cell? ⟨b, i, none⟩ = some v) (hb : b < W.heap.size)
    (h : wpQuiet P ops (fun w' => ∃ p : Regrown, w' = Sort.grow (redrawn W p.d) p.os) Q rest (a.put o.dst v)) : wpQuiet P ops (fun w' => ∃ p : Regrown, w' = Sort.grow (redrawn W p.d) p.os) Q (o :: rest) a := by
  refine wq_valC v hw (fun w hC => ?_) h
  obtain ⟨⟨dq, osq⟩, rfl⟩ := hC
  have hq : (Sort.grow (redrawn W dq) osq).cell? ⟨b, i, none⟩ = some v := (cell_of ((below_regrown W dq osq).block b hb) i).trans hc
  unfold execOp
  simp only [ho, hx, Sem.run_bind]
  simp [go_sem, hag, hq]
end
def k0T (t : List UInt8) : K5 := ⟨0, 0, 0, z12, t⟩
theorem k0T_ok {t : List UInt8} (h : t.length = 10) : (k0T t).ok := ⟨rfl, h⟩
theorem ten (l : List UInt8) (h : l.length = 10) : ∃ a b c d e f g i j k, l = [a, b, c, d, e, f, g, i, j, k] := by
  match l, h with
  | [a, b, c, d, e, f, g, i, j, k], _ => exact ⟨a, b, c, d, e, f, g, i, j, k, rfl⟩
theorem built_kT (t : List UInt8) (h : t.length = 10) : Try.prog.built 73 [(4, .agg (bC t))] = some (kC (k0T t)) := by
  obtain ⟨a, b, c, d, e, f, g, i, j, k, rfl⟩ := ten t h
  kernel_rfl
theorem run_fT (t : List UInt8) (h : t.length = 10) (w : World) : (Instr.field 66 (.agg (rK (k0T t) 10)) 4).run Try.prog w = .ok (.agg (bC t)) w := by
  obtain ⟨a, b, c, d, e, f, g, i, j, k, rfl⟩ := ten t h
  kernel_rfl
theorem exec_fT {o : Oper} {a : Act} {w : World} (x : Operand) (ho : o.op = .field 66 x 4) (t : List UInt8) (h : t.length = 10) (hx : a.eval x = .agg (rK (k0T t) 10)) : (execOp a.eval o).run Try.prog w = .ok (.value (.agg (bC t))) w := by
  unfold execOp
  simp only [ho, hx, Sem.run_bind, run_fT t h, Result.andThen_ok, Sem.run_pure]
def isF (T : TypeId) (n : Nat) (o : Oper) : Bool := match o.op with | .field t _ m => t == T && m == n | _ => false
theorem sizTag : (Try.prog.info? 33).map (·.size) = some 10 := by kernel_rfl
theorem sizT10 : (Try.prog.info? 44).map (·.size) = some 10 := by kernel_rfl
def z10c : Array Value := #[.int .u8 0, .int .u8 0, .int .u8 0, .int .u8 0, .int .u8 0, .int .u8 0, .int .u8 0, .int .u8 0, .int .u8 0, .int .u8 0]
set_option maxRecDepth 100000 in
set_option maxHeartbeats 2000000 in
theorem tag19_any (t : List UInt8) (ht : t.length = 10) (w : World) : Calls Try.prog 30 #[.agg (bC t)] w fun e w' => e = .returned (.agg (bC t)) ∧ Below w.heap.size w w' := by
  have HG0 : Hid (((w.alloc (.cells (bC t) 33)).alloc (.cells z10c 44)).heap[w.heap.size]? = some (.cells (bC t) 33 (0, 0))) := heap_alloc2_old _ _ _
  have HG1 : Hid (((w.alloc (.cells (bC t) 33)).alloc (.cells z10c 44)).heap[w.heap.size + 1]? = some (.cells z10c 44 (0, 0))) := heap_alloc2_new _ _ _
  have HB1 : Hid (Below w.heap.size w ((w.alloc (.cells (bC t) 33)).alloc (.cells z10c 44))) := below_alloc2 _ _ _
  have HTl := Lib.hid ht
  clear ht
  go_enter Try.func30, Try.ntmps30
  go_upto_region 1 with fail
  rw [show (Obj.cells #[.int .u8 0, .int .u8 0, .int .u8 0, .int .u8 0, .int .u8 0, .int .u8 0, .int .u8 0, .int .u8 0, .int .u8 0, .int .u8 0] 44) = Obj.cells z10c 44 from rfl]
  generalize (w.alloc (.cells (bC t) 33)).alloc (.cells z10c 44) = W1 at *
  have HR := Lib.hid (range_whole (vs := (bC t).toList) HG0.out)
  have KO := Lib.hid (of06_any (k0T t) W1 (k0T_ok HTl.out))
  go_wp2_with (first
    | ((with_reducible refine gate_ld 33 _ rfl ?_); refine wl_ldr rfl _ _ rfl w.heap.size 0 (bC t).toList _ Try.underlying33 rfl (by rw [sizTag]; simp [bC, HTl.out]) rfl HR.out ?_)
    | ((with_reducible refine gate_bd 73 _ rfl ?_); refine wl_bd rfl _ [(4, .tmp 3)] rfl [(4, .agg (bC t))] rfl (kC (k0T t)) (built_kT t HTl.out) ?_)
    | (go_at_call 31; (refine KO.out.mono ?_); rintro e W2 ⟨rfl, hb2⟩; have HB2 := Lib.hid (HB1.out.trans (hb2.mono HB1.out.size)); have HG2 := Lib.hid ((hb2.block _ (lt_heap HG1.out)).trans HG1.out); clear hb2)
    | ((with_reducible refine gate_val (isF 66 4) rfl ?_); refine wl_val rfl (.agg (bC t)) (exec_fT _ rfl t HTl.out rfl) ?_)
    | ((with_reducible refine gate_st 44 _ _ rfl ?_); refine wl_strG rfl 44 _ _ rfl (w.heap.size + 1) (bC t) z10c 44 (by rw [sizT10, bC_size, HTl.out]) (by rw [bC_size, HTl.out]; rfl) (bC_one t) rfl rfl HG2.out (fun W3 h1 h2 => ?_); have HG3 := Lib.hid h1; have HB3 := Lib.hid (HB2.out.trans (h2.below (B := w.heap.size) (fun k hk => by simp at hk; omega) HB2.out.size)); clear h1 h2))
  refine bodyPost_ret (res_rowc (P := Try.prog) (T := 44) (T' := 44) rfl _ _ (w.heap.size + 1) (bC t) (0, 0) rfl HG3.out Try.underlying44 rfl (by rw [sizT10, bC_size, HTl.out])) rfl ⟨rfl, HB3.out⟩
end Go.Proofs.Ythimpgnagjgmdaa
