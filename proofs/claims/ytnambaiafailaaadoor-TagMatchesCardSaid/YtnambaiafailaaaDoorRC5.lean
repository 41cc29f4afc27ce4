/- The document's Chain. -/
import Derived.Test.YtnambaiafailaaaDoorTP5
namespace Go.Proofs.YtnambaiafailaaaDoor
open Go.RowKit

def e3 (t : T3) : List Value := (tC t).toList
theorem e3_len (t : T3) : (e3 t).length = 3 := rfl
theorem e3_one (t : T3) : ∀ u ∈ e3 t, u.oneCell' = true := by simp [e3, tC, Value.oneCell']
theorem infoT3 : (Tryd.prog.info? 23).map (fun i => (i.zero, i.size, i.bytes)) = some (some (.agg (tC t30)), 3, 48) := by kernel_rfl
section
variable {ops : Array Oper} {rest : List Oper} {o : Oper} {a : Act} {w : World} {Q : Exit → Act → World → Prop}
theorem ld_s3 (hw : Region.wanted o (yielded ops a.tmps) = true) (x : Operand) (ho : o.op = .load 9 x) (g i : Nat) (u : T3) (s : ByteArray) (hx : a.eval x = .pointer (some ⟨g, i, none⟩)) (hg : w.heap[g]? = some (.cells (tC u) 23 (0, 0))) (hs : (tC u)[i]? = some (.string s))
    (h : wpList Tryd.prog ops Q rest (a.put o.dst (.string s)) w) : wpList Tryd.prog ops Q (o :: rest) a w :=
  wpList_step fun _ hK => by
    rw [if_pos hw]
    have hc : w.cell? ⟨g, i, none⟩ = some (.string s) := by rw [cell_blk hg]; exact hs
    unfold Oper.wp
    have : (execOp a.eval o).run Tryd.prog w = .ok (.value (.string s)) w := by
      unfold execOp
      simp only [ho, hx]
      go_simp
    rw [this]
    exact hK _ _ h
theorem st_s3 (hgd : o.guard = none) (x y : Operand) (ho : o.op = .store 9 x y) (g i : Nat) (u u' : T3) (s : ByteArray) (hx : a.eval x = .pointer (some ⟨g, i, none⟩)) (hy : a.eval y = .string s) (hg : w.heap[g]? = some (.cells (tC u) 23 (0, 0))) (hi : i < 3)
    (he : ((tC u).toList.take i ++ [Value.string s] ++ (tC u).toList.drop (i + 1)).toArray = tC u')
    (h : wpList Tryd.prog ops Q rest (a.put o.dst undef) (w.setRow g (tC u'))) : wpList Tryd.prog ops Q (o :: rest) a w := by
  refine wpList_plain hgd fun K hK => ?_
  have hst := run_storeCells_at Tryd.prog g i 23 [Value.string s] 0 (tC u) w hg (by simp [tC]; omega) (fun v hv => by simp at hv; subst hv; rfl)
  simp only [Nat.add_zero, List.length_cons, List.length_nil, Nat.zero_add] at hst
  rw [he] at hst
  unfold Oper.wp execOp
  have hq : (Tryd.prog.info? 9).map (·.size) = some 1 := by kernel_rfl
  cases hq1 : Tryd.prog.info? 9 with
  | none => simp [hq1] at hq
  | some j =>
    have hs : j.size = 1 := by simpa [hq1] using hq
    have hrun : (storeVar 9 ⟨g, i, none⟩ (.string s)).run Tryd.prog w = .ok () (w.setRow g (tC u')) := by
      simp [storeVar, sizeOf, typeInfo, hq1, Value.cells, hs, hst]
    simp only [ho, hx, hy, Instr.storeAt, Instr.sureAddr, Sem.run_bind, Sem.run_pure, Result.andThen_ok, hrun]
    exact hK _ _ h
end
structure Ch (w W : World) (u : T3) (v : Value) (xs : List T3) : Prop where
  bel : Below w.heap.size w W
  box : W.heap[w.heap.size]? = some (.cells (tC u) 23 (0, 0))
  own : OwnE e3 23 3 W (w.heap.size + 1) v xs
theorem Ch.store {w W : World} {u : T3} {v : Value} {xs : List T3} (u' : T3) (h : Ch w W u v xs) : Ch w (W.setRow w.heap.size (tC u')) u' v xs :=
  ⟨setRow_below h.bel (Nat.le_refl _) _, setRow_at h.box, h.own.block fun g hg => setRow_other _ _ _ _ (by have := (h.own.lt g hg).1; omega)⟩
theorem Ch.alloc {w W : World} {u : T3} {v : Value} {xs : List T3} (o : Obj) (h : Ch w W u v xs) : Ch w (W.alloc o) u v xs :=
  ⟨h.bel.alloc h.bel.size _, by rw [heap_alloc_old _ _ (lt_heap h.box)]; exact h.box, h.own.below (below_alloc1 _ _)⟩
theorem Ch.app {w W W' : World} {u : T3} {v v' : Value} {xs ys : List T3} (h : Ch w W u v xs) (ho : OwnE e3 23 3 W' (w.heap.size + 1) v' ys) (hg : W.grownBy W' v.ownBlock) : Ch w W' u v' ys :=
  ⟨h.bel.trans (grown_below hg (fun g hg => by have := (h.own.lt g hg).1; omega) h.bel.size), (hg.block _ (lt_heap h.box) (fun e => by have := (h.own.lt _ e.symm).1; omega)).trans h.box, ho⟩
theorem Ch.first {w W : World} (t : T3) (hb : Below w.heap.size w W) (hx : W.heap[w.heap.size]? = some (.cells (tC t) 23 (0, 0))) : Ch w (W.alloc (.cells (e3 t).toArray 23)) t (.slice (some ⟨W.heap.size, 0, none⟩) 1 1) [t] :=
  ⟨hb.alloc hb.size _, by rw [heap_alloc_old _ _ (lt_heap hx)]; exact hx, ⟨rfl, .inr ⟨W.heap.size, 1, (e3 t).toArray, rfl, lt_heap hx, heap_alloc_new _ _, Nat.le_refl _, by unfold maxLen; omega, rfl, rfl⟩⟩⟩
def chR (t : T3) : List T3 := [t] ++ (if t.region.isEmpty then [] else [⟨t.lang, t.script, []⟩]) ++ (if t.script.isEmpty then [] else [⟨t.lang, [], []⟩]) ++ (if t.lang.isEmpty then [] else [t30])
theorem neE (l : List UInt8) (W : World) : (binOp .neq 9 (.string ⟨l.toArray⟩) (.string ⟨#[]⟩)).run Tryd.prog W = .ok (.bool (!l.isEmpty)) W := by
  have := emp5 l
  go_simp
set_option maxRecDepth 100000 in
set_option maxHeartbeats 8000000 in
theorem refChain_any (t : T3) (w : World) :
    Calls Tryd.prog 24 #[.agg (tC t)] w fun e W' => ∃ v, e = .returned v ∧ OwnE e3 23 3 W' w.heap.size v (chR t) ∧ Below w.heap.size w W' := by
  obtain ⟨L, S, R⟩ := t
  have HB1 : Hid (Below w.heap.size w (w.alloc (.cells (tC ⟨L, S, R⟩) 23))) := below_alloc1 _ _
  have HG1 : Hid ((w.alloc (.cells (tC ⟨L, S, R⟩) 23)).heap[w.heap.size]? = some (.cells (tC ⟨L, S, R⟩) 23 (0, 0))) := heap_alloc_new _ _
  have HC : Hid (chR ⟨L, S, R⟩ = [⟨L, S, R⟩] ++ (if R.isEmpty then [] else [⟨L, S, []⟩]) ++ (if S.isEmpty then [] else [⟨L, [], []⟩]) ++ (if L.isEmpty then [] else [t30])) := rfl
  go_enter Tryd.func24, Tryd.ntmps24
  go_upto_region 1 with fail
  generalize (w.alloc (.cells (tC ⟨L, S, R⟩) 23)) = W1 at *
  go_upto_region 2 with (first
    | (with_reducible refine ld_R3 rfl _ rfl w.heap.size ⟨L, S, R⟩ rfl HG1.out ?_)
    | (refine wl_bs1 (enc := e3) (k := 3) 48 23 48 (.agg (tC t30)) Tryd.underlying48 infoT3 rfl (by omega) (by omega) e3_len rfl _ rfl ⟨L, S, R⟩ rfl ?_))
  have HS := Lib.hid (Ch.first ⟨L, S, R⟩ HB1.out HG1.out)
  generalize (W1.alloc (.cells (e3 ⟨L, S, R⟩).toArray 23)) = W2 at *
  generalize W1.heap.size = q at *
  go_wp2_with (first
    | (with_reducible refine ld_R3 rfl _ rfl w.heap.size _ rfl HS.out.box ?_)
    | ((with_reducible refine gate_ld 9 _ rfl ?_); first | (refine ld_s3 rfl _ rfl w.heap.size 2 _ _ rfl HS.out.box rfl ?_) | (refine ld_s3 rfl _ rfl w.heap.size 1 _ _ rfl HS.out.box rfl ?_) | (refine ld_s3 rfl _ rfl w.heap.size 0 _ _ rfl HS.out.box rfl ?_))
    | ((with_reducible refine gate_st 9 _ _ rfl ?_); first | (refine st_s3 rfl _ _ rfl w.heap.size 2 _ ⟨L, S, []⟩ ⟨#[]⟩ rfl rfl HS.out.box (by omega) rfl ?_; have HS := Lib.hid (HS.out.store ⟨L, S, []⟩)) | (refine st_s3 rfl _ _ rfl w.heap.size 1 _ ⟨L, [], []⟩ ⟨#[]⟩ rfl rfl HS.out.box (by omega) rfl ?_; have HS := Lib.hid (HS.out.store ⟨L, [], []⟩)) | (refine st_s3 rfl _ _ rfl w.heap.size 1 _ ⟨L, [], R⟩ ⟨#[]⟩ rfl rfl HS.out.box (by omega) rfl ?_; have HS := Lib.hid (HS.out.store ⟨L, [], R⟩)))
    | (first | (refine wl_bs1 (enc := e3) (k := 3) 48 23 48 (.agg (tC t30)) Tryd.underlying48 infoT3 rfl (by omega) (by omega) e3_len rfl _ rfl ⟨L, S, []⟩ rfl ?_; have HS := Lib.hid (HS.out.alloc (.cells (e3 ⟨L, S, []⟩).toArray 23))) | (refine wl_bs1 (enc := e3) (k := 3) 48 23 48 (.agg (tC t30)) Tryd.underlying48 infoT3 rfl (by omega) (by omega) e3_len rfl _ rfl ⟨L, [], []⟩ rfl ?_; have HS := Lib.hid (HS.out.alloc (.cells (e3 ⟨L, [], []⟩).toArray 23))) | (refine wl_bs1 (enc := e3) (k := 3) 48 23 48 (.agg (tC t30)) Tryd.underlying48 infoT3 rfl (by omega) (by omega) e3_len rfl _ rfl ⟨L, [], R⟩ rfl ?_; have HS := Lib.hid (HS.out.alloc (.cells (e3 ⟨L, [], R⟩).toArray 23))) | (refine wl_bs1 (enc := e3) (k := 3) 48 23 48 (.agg (tC t30)) Tryd.underlying48 infoT3 rfl (by omega) (by omega) e3_len rfl _ rfl t30 rfl ?_; have HS := Lib.hid (HS.out.alloc (.cells (e3 t30).toArray 23))))
    | (first | (refine wl_app1 (enc := e3) (k := 3) 48 23 48 (.agg (tC t30)) Tryd.underlying48 infoT3 rfl (by omega) e3_len e3_one rfl _ _ rfl (w.heap.size + 1) _ _ rfl HS.out.own _ _ ⟨L, S, []⟩ rfl (fun j u hu => by rw [Nat.zero_add, cell_blk (heap_alloc_new _ _)]; simpa using hu) (by simp) (by simp [maxLen]) (by have := lt_heap HS.out.box; omega) (fun v' w1 ho1 hg1 => ?_); have HS := Lib.hid (HS.out.app ho1 hg1); clear ho1 hg1) | (refine wl_app1 (enc := e3) (k := 3) 48 23 48 (.agg (tC t30)) Tryd.underlying48 infoT3 rfl (by omega) e3_len e3_one rfl _ _ rfl (w.heap.size + 1) _ _ rfl HS.out.own _ _ ⟨L, [], []⟩ rfl (fun j u hu => by rw [Nat.zero_add, cell_blk (heap_alloc_new _ _)]; simpa using hu) (by simp) (by simp [maxLen]) (by have := lt_heap HS.out.box; omega) (fun v' w1 ho1 hg1 => ?_); have HS := Lib.hid (HS.out.app ho1 hg1); clear ho1 hg1) | (refine wl_app1 (enc := e3) (k := 3) 48 23 48 (.agg (tC t30)) Tryd.underlying48 infoT3 rfl (by omega) e3_len e3_one rfl _ _ rfl (w.heap.size + 1) _ _ rfl HS.out.own _ _ ⟨L, [], R⟩ rfl (fun j u hu => by rw [Nat.zero_add, cell_blk (heap_alloc_new _ _)]; simpa using hu) (by simp) (by simp [maxLen]) (by have := lt_heap HS.out.box; omega) (fun v' w1 ho1 hg1 => ?_); have HS := Lib.hid (HS.out.app ho1 hg1); clear ho1 hg1) | (refine wl_app1 (enc := e3) (k := 3) 48 23 48 (.agg (tC t30)) Tryd.underlying48 infoT3 rfl (by omega) e3_len e3_one rfl _ _ rfl (w.heap.size + 1) _ _ rfl HS.out.own _ _ t30 rfl (fun j u hu => by rw [Nat.zero_add, cell_blk (heap_alloc_new _ _)]; simpa using hu) (by simp) (by simp [maxLen]) (by have := lt_heap HS.out.box; omega) (fun v' w1 ho1 hg1 => ?_); have HS := Lib.hid (HS.out.app ho1 hg1); clear ho1 hg1)))
  all_goals
    first | (have hR : R.isEmpty = false := by simpa using (by assumption : (!R.isEmpty) = true)) | (have hR : R.isEmpty = true := by simpa using (by assumption : ¬ (!R.isEmpty) = true)) | (have hR : R.isEmpty = true := by simpa using (by assumption : (!R.isEmpty) = false))
    first | (have hS : S.isEmpty = false := by simpa using (by assumption : (!S.isEmpty) = true)) | (have hS : S.isEmpty = true := by simpa using (by assumption : ¬ (!S.isEmpty) = true)) | (have hS : S.isEmpty = true := by simpa using (by assumption : (!S.isEmpty) = false))
    first | (have hL : L.isEmpty = false := by simpa using (by assumption : (!L.isEmpty) = true)) | (have hL : L.isEmpty = true := by simpa using (by assumption : ¬ (!L.isEmpty) = true)) | (have hL : L.isEmpty = true := by simpa using (by assumption : (!L.isEmpty) = false))
    have hbl := HS.out.bel
    have ho := HS.out.own.base (Nat.le_succ w.heap.size)
    have e := HC.out
    simp only [hR, hS, hL, if_true, if_false, Bool.false_eq_true, List.append_nil] at e
    go_ret
    refine ⟨_, rfl, ?_, hbl⟩
    rw [e]
    first
      | exact ho
      | (obtain rfl : R = [] := List.isEmpty_iff.1 hR
         exact ho)
end Go.Proofs.YtnambaiafailaaaDoor
