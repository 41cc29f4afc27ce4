/- An event handed to a watcher (the closure hand$1). -/
import Derived.Test.YtnafcbmpjjlhnaaK11
namespace Go.Proofs.Ytnafcbmpjjlhnaa
open Go.RowKit

theorem gq_ld {P : Program} {ops : Array Oper} {C : World → Prop} {Q : Act → Prop} {a : Act} {o : Oper} {rest : List Oper} (T : TypeId) (x : Operand) (_ : o.op = .load T x) (h : wpQuiet P ops C Q (o :: rest) a) : wpQuiet P ops C Q (o :: rest) a := h
section
variable {P : Program} {ops : Array Oper} {Q : Exit → Act → World → Prop} {o : Oper} {a : Act} {w : World}
theorem wpOp_wp {i : Nat} {K : Act → World → Prop} (hi : ops[i]? = some o) (hg : o.guard = none) (h : o.wp P a w K Q) : wpOp P ops Q i K a w := by
  unfold wpOp
  simp only [hi]
  rw [if_pos (by unfold Region.wanted; rw [hg])]
  left
  exact h
theorem exec_nil (x : Operand) (ho : o.op = .nilCheck x) (ad : Addr) (hx : a.eval x = .pointer (some ad)) : (execOp a.eval o).run P w = .ok (.value (.pointer (some ad))) w := by
  unfold execOp
  simp only [ho, hx]
  simp [go_sem]
theorem exec_ld1 (T : TypeId) (hag : ∀ w, (isAgg T).run P w = .ok false w) (x : Operand) (ho : o.op = .load T x) (b i : Nat) (v : Value) (hx : a.eval x = .pointer (some ⟨b, i, none⟩)) (hc : w.cell? ⟨b, i, none⟩ = some v) : (execOp a.eval o).run P w = .ok (.value v) w := by
  unfold execOp
  simp only [ho, hx, Sem.run_bind]
  simp [go_sem, hag, hc]
theorem exec_st1 (T : TypeId) (hsz : (P.info? T).map (·.size) = some 1) (x y : Operand) (ho : o.op = .store T x y) (b i : Nat) (v : Value) (hx : a.eval x = .pointer (some ⟨b, i, none⟩)) (hy : a.eval y = v) (h1 : v.oneCell' = true) (cur : List Value) (T' : TypeId) (hg : w.heap[b]? = some (.cells cur.toArray T' (0, 0))) (hi : i + 1 ≤ cur.length) :
    (execOp a.eval o).run P w = .ok .skip (w.setRow b (cur.take i ++ [v] ++ cur.drop (i + 1)).toArray) := by
  have hst := run_storeCells_at P b i T' [v] 0 cur.toArray w hg (by simpa using hi) (fun x hx => by simp at hx; subst hx; exact h1)
  have hc : v.cells = #[v] := by cases v <;> first | rfl | cases h1
  have hrun : (storeVar T ⟨b, i, none⟩ v).run P w = .ok () (w.setRow b (cur.take i ++ [v] ++ cur.drop (i + 1)).toArray) := by
    cases hq : P.info? T with
    | none => simp [hq] at hsz
    | some inf =>
      have hs : inf.size = 1 := by simpa [hq] using hsz
      simp only [Nat.add_zero, List.length_singleton] at hst
      simp [storeVar, sizeOf, typeInfo, hq, hc, hs, hst]
  unfold execOp
  simp only [ho, hx, hy, Instr.storeAt, Instr.sureAddr, Sem.run_bind, Sem.run_pure, Result.andThen_ok, hrun]
end
theorem exec_fQ {o : Oper} {a : Act} {w : World} (x : Operand) (ho : o.op = .fieldAddr 67 x 2) (b : Nat) (hx : a.eval x = .pointer (some ⟨b, 0, none⟩)) : (execOp a.eval o).run Try.prog w = .ok (.value (.pointer (some ⟨b, 27, none⟩))) w := by
  unfold execOp
  simp only [ho, hx]
  simp [go_sem, Try.underlying67]
theorem wt_put {k : List UInt8} (hk : k.length = 25) (d s : Int) (qv v : Value) (st : Bool) : (wtC k d s qv st).take 27 ++ [v] ++ (wtC k d s qv st).drop (27 + 1) = wtC k d s v st := by
  have h : (pC k d).length = 26 := pC_len hk d
  unfold wtC
  rw [List.take_append, List.drop_append, h, List.take_of_length_le (by omega), List.drop_eq_nil_of_le (by omega)]
  simp
theorem wt_stop {k : List UInt8} (hk : k.length = 25) (d s : Int) (qv : Value) (st : Bool) : (wtC k d s qv st).take 28 ++ [Value.bool true] ++ (wtC k d s qv st).drop (28 + 1) = wtC k d s qv true := by
  have h : (pC k d).length = 26 := pC_len hk d
  unfold wtC
  rw [List.take_append, List.drop_append, h, List.take_of_length_le (by omega), List.drop_eq_nil_of_le (by omega)]
  simp
theorem siz47 : (Try.prog.info? 47).map (·.size) = some 1 := by kernel_rfl
theorem siz4b : (Try.prog.info? 4).map (·.size) = some 1 := by kernel_rfl
theorem own_ne {w : World} {B g : Nat} {v : Value} {xs : List Ev} {cs : Array Value} {T : TypeId} {fr : Nat × Nat} (h : OwnE evC 52 28 w B v xs) (hg : w.heap[g]? = some (.cells cs T fr)) (hT : T ≠ 52) : v.ownBlock ≠ some g := by
  intro e
  obtain ⟨_, ⟨rfl, _⟩ | ⟨g', cap, cur, rfl, _, hh, _⟩⟩ := h
  · cases e
  · simp only [Value.ownBlock, Option.some.injEq] at e
    rw [e, hg] at hh
    simp only [Option.some.injEq, Obj.cells.injEq] at hh
    exact hT hh.2.1
def A1 (W : World) (e : Ev) : World := ({ W with drawn := W.drawn + 1 }).alloc (.cells (evC e).toArray 52)
/-- Where hand$1's last region stands behind k of its turning operations. -/
def HC (B p bx eb : Nat) (W : World) (x : Wt) (QV : Value) (e : Ev) (k : Nat) (gv : Value) (v : World) : Prop :=
  (k ≤ 2 → v.heap[bx]? = W.heap[bx]? ∧ v.heap[p]? = W.heap[p]? ∧ v.heap[eb]? = W.heap[eb]?) ∧
  match k with
  | 0 => v = { W with drawn := W.drawn + 1 }
  | 1 => v = A1 W e
  | 2 => OwnE evC 52 28 v B gv (x.queue ++ [e]) ∧ (A1 W e).grownBy v QV.ownBlock ∧ (gv.ownBlock = QV.ownBlock ∨ gv.ownBlock = some (W.heap.size + 1))
  | _ => WtAt B v p { x with queue := x.queue ++ [e] } gv ∧ Turn (p :: QV.ownBlock.toList) W v ∧ (gv.ownBlock = QV.ownBlock ∨ ∃ g, gv.ownBlock = some g ∧ W.heap.size ≤ g)
theorem A1_old {W : World} {e : Ev} {b : Nat} (h : b < W.heap.size) : (A1 W e).heap[b]? = W.heap[b]? := heap_alloc_old _ _ h
theorem A1_below (W : World) (e : Ev) : Below W.heap.size W (A1 W e) := (Below.refl _ W).drew.alloc (Nat.le_refl _) _
theorem hc_one {B p bx eb : Nat} {W : World} {x : Wt} {QV : Value} {e : Ev} {gv : Value} (hb : bx < W.heap.size) (hp : p < W.heap.size) (he : eb < W.heap.size) : HC B p bx eb W x QV e 1 gv (A1 W e) :=
  ⟨fun _ => ⟨A1_old hb, A1_old hp, A1_old he⟩, rfl⟩
theorem hc_two {B p bx eb : Nat} {W : World} {x : Wt} {QV : Value} {e : Ev} {gv : Value} {v : World} (hb : bx < W.heap.size) (hp : p < W.heap.size) (he : eb < W.heap.size)
    (nb : QV.ownBlock ≠ some bx) (np : QV.ownBlock ≠ some p) (ne : QV.ownBlock ≠ some eb) (ho : OwnE evC 52 28 v B gv (x.queue ++ [e])) (hg : (A1 W e).grownBy v QV.ownBlock) (hv : gv.ownBlock = QV.ownBlock ∨ gv.ownBlock = some (A1 W e).heap.size) : HC B p bx eb W x QV e 2 gv v := by
  have hz : (A1 W e).heap.size = W.heap.size + 1 := by simp [A1]
  have hk : ∀ b, b < W.heap.size → QV.ownBlock ≠ some b → v.heap[b]? = W.heap[b]? := fun b h h2 => (hg.block b (by omega) (by first | exact h2 | exact Ne.symm h2)).trans (A1_old h)
  exact ⟨fun _ => ⟨hk _ hb nb, hk _ hp np, hk _ he ne⟩, ho, hg, by rw [← hz]; exact hv⟩
theorem hc_three {B p bx eb : Nat} {W : World} {x : Wt} {QV : Value} {e : Ev} {gv : Value} {v : World} (hB : B ≤ W.heap.size) (hx : WtAt B W p x QV) (np : gv.ownBlock ≠ some p) (h : HC B p bx eb W x QV e 2 gv v) :
    HC B p bx eb W x QV e 3 gv (v.setRow p (wtC x.key x.depth x.since gv x.stop).toArray) := by
  obtain ⟨h1, h2, h3, h4⟩ := h
  have hpv := (h1 (Nat.le_refl 2)).2.1.trans hx.blk
  refine ⟨fun h => by omega, ⟨setRow_at hpv, ?_, hx.low⟩, ?_, ?_⟩
  · exact h2.block fun g hg => setRow_other _ _ _ _ (fun e => np (e ▸ hg))
  · have t1 : Turn QV.ownBlock.toList W v := by
      have := A1_below W e
      refine ⟨h3.os.trans this.os, h3.tape.trans this.tape, h3.output.trans this.output, Nat.le_trans this.size h3.size, fun k hk hm => ?_⟩
      exact (h3.block k (Nat.lt_of_lt_of_le hk this.size) (by cases hq : QV.ownBlock with
        | none => simp
        | some g => simp only [hq, Option.toList_some, List.mem_singleton] at hm; simp; omega)).trans (this.block k hk)
    refine (t1.mono fun k _ hk => List.mem_cons_of_mem _ hk).trans ⟨rfl, rfl, rfl, by simp, fun k hk hm => setRow_other _ _ _ _ (fun e => hm (by rw [e]; exact List.mem_cons_self))⟩
  · rcases h4 with h4 | h4
    · exact Or.inl h4
    · exact Or.inr ⟨_, h4, Nat.le_succ _⟩
theorem slat_ev {w : World} {b : Nat} {y : Ev} (h : w.heap[b]? = some (.cells (evC y).toArray 52 (0, 0))) : SlAt evC 28 w (some ⟨b, 0, none⟩) [y] := fun i hi => by
  obtain rfl : i = 0 := by simpa using hi
  exact ⟨b, 0, rfl, lt_heap h, by simpa using range_whole h⟩
theorem own_one {B : Nat} {w : World} {v : Value} {xs : List Ev} (h : OwnE evC 52 28 w B v xs) : v.oneCell' = true := by
  obtain ⟨p, cap, rfl⟩ := h.slice
  rfl
theorem wl_st1 {P : Program} {ops : Array Oper} {rest : List Oper} {o : Oper} {a : Act} {w : World} {Q : Exit → Act → World → Prop} (hgd : o.guard = none) (T : TypeId) (hsz : (P.info? T).map (·.size) = some 1) (x y : Operand) (ho : o.op = .store T x y) (b i : Nat) (v : Value) (hx : a.eval x = .pointer (some ⟨b, i, none⟩)) (hy : a.eval y = v) (h1 : v.oneCell' = true) (cur : List Value) (T' : TypeId) (hg : w.heap[b]? = some (.cells cur.toArray T' (0, 0))) (hi : i + 1 ≤ cur.length)
    (h : wpList P ops Q rest (a.put o.dst undef) (w.setRow b (cur.take i ++ [v] ++ cur.drop (i + 1)).toArray)) : wpList P ops Q (o :: rest) a w := by
  refine wpList_plain hgd fun K hK => ?_
  have := exec_st1 (P := P) (a := a) (w := w) T hsz x y ho b i v hx hy h1 cur T' hg hi
  unfold Oper.wp
  rw [this]
  exact hK _ _ h
theorem builtMark (t : Int) : Try.prog.built 52 [(0, .int .u64 t), (3, .bool true)] = some (evC (markE t)).toArray := by kernel_rfl
theorem ty_ne {w : World} {b c : Nat} {cs ds : Array Value} {S T : TypeId} {f f' : Nat × Nat} (h : w.heap[b]? = some (.cells cs S f)) (h' : w.heap[c]? = some (.cells ds T f')) (hT : S ≠ T) : b ≠ c := fun e => by
  subst e
  rw [h] at h'
  simp only [Option.some.injEq, Obj.cells.injEq] at h'
  exact hT h'.2.1
/-- Does a watcher take an event? -/
def accW (x : Wt) (e : Ev) : Bool := !x.stop && !decide (e.at_ ≤ x.since) && hasP x.key x.depth e.key
set_option maxRecDepth 100000 in
set_option maxHeartbeats 8000000 in
theorem handed_any (B p bx : Nat) (x : Wt) (qv : Value) (e : Ev) (w : World) (hB : B ≤ w.heap.size) (hx : WtAt B w p x qv) (hbk : w.heap[bx]? = some (.cells #[.pointer (some ⟨p, 0, none⟩)] 34 (0, 0))) (hql : x.queue.length ≤ 1000) :
    Calls Try.prog 26 #[.agg (evC e).toArray, .pointer (some ⟨bx, 0, none⟩)] w fun en w' => en = .returned (.bool (accW x e)) ∧ ∃ qv', WtAt B w' p (handW x e) qv' ∧ Turn (p :: qv.ownBlock.toList) w w' ∧ (qv'.ownBlock = qv.ownBlock ∨ ∃ g, qv'.ownBlock = some g ∧ w.heap.size ≤ g) := by
  have HX := Lib.hid (hx.below (below_alloc1 w (.cells (evC e).toArray 52)))
  have HB := Lib.hid (below_alloc1 w (.cells (evC e).toArray 52))
  have HEB : Hid ((w.alloc (.cells (evC e).toArray 52)).heap[w.heap.size]? = some (.cells (evC e).toArray 52 (0, 0))) := heap_alloc_new _ _
  have HBK : Hid ((w.alloc (.cells (evC e).toArray 52)).heap[bx]? = some (.cells #[.pointer (some ⟨p, 0, none⟩)] 34 (0, 0))) := (heap_alloc_old _ _ (lt_heap hbk)).trans hbk
  have HPR := Lib.hid HX.out.cells.1
  have HSI := Lib.hid HX.out.cells.2.1
  have HST := Lib.hid HX.out.cells.2.2.2
  have HLp := Lib.hid (lt_heap HX.out.blk)
  have HLb := Lib.hid (lt_heap HBK.out)
  have HLe := Lib.hid (lt_heap HEB.out)
  have HBX : Hid ((w.alloc (.cells (evC e).toArray 52)).cell? ⟨bx, 0, none⟩ = some (.pointer (some ⟨p, 0, none⟩))) := by show _ = _; rw [cell_blk HBK.out]; rfl
  have HEA : Hid ((w.alloc (.cells (evC e).toArray 52)).cell? ⟨w.heap.size, 0, none⟩ = some (.int .u64 e.at_)) := by show _ = _; rw [cell_blk HEB.out]; rfl
  have HEK : Hid ((w.alloc (.cells (evC e).toArray 52)).rangeAt w.heap.size 1 (bC e.key).toList) := by
    have h := range_app_right (xs := [.int .u64 e.at_]) (ys := (bC e.key).toList ++ [.bool e.dead, .bool e.mark]) (range_whole HEB.out) 1 rfl
    exact range_app_left (by simpa using h)
  have KH : Hid (∀ W, Calls Try.prog 27 #[.agg (pC x.key x.depth).toArray, .agg (bC e.key)] W fun en w' => en = .returned (.bool (hasP x.key x.depth e.key)) ∧ Below W.heap.size W w') := fun W => has_any _ _ _ W x.lkey e.lkey
  have HLQ := Lib.hid hql
  have HBz := Lib.hid hB
  have HX0 := Lib.hid hx
  clear hx hbk hB hql
  by_cases hs : x.stop = true
  · have HR : Hid (handW x e = x) := by show _ = _; rw [handW, if_pos hs]
    have HA : Hid (accW x e = false) := by show _ = _; simp [accW, hs]
    rw [hs] at HST
    go_enter Try.func26, Try.ntmps26
    go_upto_region 1 with fail
    generalize (w.alloc (.cells (evC e).toArray 52)) = W1 at *
    refine wp_region_quiet_below (by kernel_rfl) (by kernel_rfl) ?_
    repeat (first
      | go_big_quiet_skip
      | ((with_reducible refine gq_ld 34 (.tmp 1) rfl ?_); refine wq_one rfl 34 (.tmp 1) rfl bx 0 (.pointer (some ⟨p, 0, none⟩)) ag34 rfl HBX.out HLb.out ?_; simp only [Act.put, List.setIfInBounds_toArray, List.set_cons_zero, List.set_cons_succ])
      | ((with_reducible refine gq_ld 4 (.tmp 7) rfl ?_); refine wq_one rfl 4 (.tmp 7) rfl p 28 (.bool true) ag4 rfl HST.out HLp.out ?_; simp only [Act.put, List.setIfInBounds_toArray, List.set_cons_zero, List.set_cons_succ])
      | ((with_reducible refine gq_ld 33 (.tmp 12) rfl ?_); refine wq_one rfl 33 (.tmp 12) rfl p 26 (.int .u64 x.since) ag33 rfl HSI.out HLp.out ?_; simp only [Act.put, List.setIfInBounds_toArray, List.set_cons_zero, List.set_cons_succ])
      | ((with_reducible refine gq_ld 33 (.tmp 14) rfl ?_); refine wq_one rfl 33 (.tmp 14) rfl w.heap.size 0 (.int .u64 e.at_) ag33 rfl HEA.out HLe.out ?_; simp only [Act.put, List.setIfInBounds_toArray, List.set_cons_zero, List.set_cons_succ])
      | ((with_reducible refine gq_ld 32 (.tmp 21) rfl ?_); refine wq_ldr rfl 32 (.tmp 21) rfl p 0 (pC x.key x.depth) _ Try.underlying32 rfl (by rw [sizPre, pC_len x.lkey]) rfl HPR.out HLp.out ?_; simp only [Act.put, List.setIfInBounds_toArray, List.set_cons_zero, List.set_cons_succ])
      | ((with_reducible refine gq_ld 30 (.tmp 23) rfl ?_); refine wq_ldr rfl 30 (.tmp 23) rfl w.heap.size 1 (bC e.key).toList _ Try.underlying30 rfl (by rw [sizKey]; simp [bC_size, e.lkey]) rfl HEK.out HLe.out ?_; simp only [Act.put, List.setIfInBounds_toArray, List.set_cons_zero, List.set_cons_succ])
      | go_big_quiet_step (first | (with_reducible exact rg_call KH.out _ _)))
    refine wpQuiet_nil ?_
    rintro _ ⟨⟨dq, osq⟩, rfl⟩
    have hbel := below_regrown W1 dq osq
    have HX := Lib.hid (HX.out.below hbel)
    have HB := bt HB hbel
    have HEB : Hid ((Sort.grow (redrawn W1 dq) osq).heap[w.heap.size]? = some (.cells (evC e).toArray 52 (0, 0))) := (hbel.block _ HLe.out).trans HEB.out
    have HBK : Hid ((Sort.grow (redrawn W1 dq) osq).heap[bx]? = some (.cells #[.pointer (some ⟨p, 0, none⟩)] 34 (0, 0))) := (hbel.block _ HLb.out).trans HBK.out
    clear hbel HBX HST HSI HEA HEK HPR HLp HLb HLe KH
    generalize Sort.grow (redrawn W1 dq) osq = W2 at *
    go_wp2_with fail
    go_ret
    exact ⟨by rw [HA.out]; rfl, qv, by rw [HR.out]; exact HX.out, Turn.of_below HB.out, Or.inl rfl⟩
  · have hsf : x.stop = false := by simpa using hs
    rw [hsf] at HST
    by_cases ht : e.at_ ≤ x.since
    · have HR : Hid (handW x e = x) := by show _ = _; rw [handW, if_neg hs, if_pos ht]
      have HA : Hid (accW x e = false) := by show _ = _; simp [accW, ht]
      have htd : decide (e.at_ ≤ x.since) = true := decide_eq_true ht
      clear hs
      go_enter Try.func26, Try.ntmps26
      go_upto_region 1 with fail
      generalize (w.alloc (.cells (evC e).toArray 52)) = W1 at *
      refine wp_region_quiet_below (by kernel_rfl) (by kernel_rfl) ?_
      repeat (first
        | go_big_quiet_skip
        | ((with_reducible refine gq_ld 34 (.tmp 1) rfl ?_); refine wq_one rfl 34 (.tmp 1) rfl bx 0 (.pointer (some ⟨p, 0, none⟩)) ag34 rfl HBX.out HLb.out ?_; simp only [Act.put, List.setIfInBounds_toArray, List.set_cons_zero, List.set_cons_succ])
        | ((with_reducible refine gq_ld 4 (.tmp 7) rfl ?_); refine wq_one rfl 4 (.tmp 7) rfl p 28 (.bool false) ag4 rfl HST.out HLp.out ?_; simp only [Act.put, List.setIfInBounds_toArray, List.set_cons_zero, List.set_cons_succ])
        | ((with_reducible refine gq_ld 33 (.tmp 12) rfl ?_); refine wq_one rfl 33 (.tmp 12) rfl p 26 (.int .u64 x.since) ag33 rfl HSI.out HLp.out ?_; simp only [Act.put, List.setIfInBounds_toArray, List.set_cons_zero, List.set_cons_succ])
        | ((with_reducible refine gq_ld 33 (.tmp 14) rfl ?_); refine wq_one rfl 33 (.tmp 14) rfl w.heap.size 0 (.int .u64 e.at_) ag33 rfl HEA.out HLe.out ?_; simp only [Act.put, List.setIfInBounds_toArray, List.set_cons_zero, List.set_cons_succ])
        | ((with_reducible refine gq_ld 32 (.tmp 21) rfl ?_); refine wq_ldr rfl 32 (.tmp 21) rfl p 0 (pC x.key x.depth) _ Try.underlying32 rfl (by rw [sizPre, pC_len x.lkey]) rfl HPR.out HLp.out ?_; simp only [Act.put, List.setIfInBounds_toArray, List.set_cons_zero, List.set_cons_succ])
        | ((with_reducible refine gq_ld 30 (.tmp 23) rfl ?_); refine wq_ldr rfl 30 (.tmp 23) rfl w.heap.size 1 (bC e.key).toList _ Try.underlying30 rfl (by rw [sizKey]; simp [bC_size, e.lkey]) rfl HEK.out HLe.out ?_; simp only [Act.put, List.setIfInBounds_toArray, List.set_cons_zero, List.set_cons_succ])
        | go_big_quiet_step (first | (with_reducible exact rg_call KH.out _ _)))
      refine wpQuiet_nil ?_
      rintro _ ⟨⟨dq, osq⟩, rfl⟩
      have hbel := below_regrown W1 dq osq
      have HX := Lib.hid (HX.out.below hbel)
      have HB := bt HB hbel
      have HEB : Hid ((Sort.grow (redrawn W1 dq) osq).heap[w.heap.size]? = some (.cells (evC e).toArray 52 (0, 0))) := (hbel.block _ HLe.out).trans HEB.out
      have HBK : Hid ((Sort.grow (redrawn W1 dq) osq).heap[bx]? = some (.cells #[.pointer (some ⟨p, 0, none⟩)] 34 (0, 0))) := (hbel.block _ HLb.out).trans HBK.out
      clear hbel HBX HST HSI HEA HEK HPR HLp HLb HLe KH
      generalize Sort.grow (redrawn W1 dq) osq = W2 at *
      go_wp2_with fail
      go_ret
      exact ⟨by rw [HA.out]; rfl, qv, by rw [HR.out]; exact HX.out, Turn.of_below HB.out, Or.inl rfl⟩
    · have htd : decide (e.at_ ≤ x.since) = false := decide_eq_false ht
      cases hh : hasP x.key x.depth e.key <;> rw [hh] at KH
      · have HR : Hid (handW x e = x) := by show _ = _; rw [handW, if_neg hs, if_neg ht, if_pos hh]
        have HA : Hid (accW x e = false) := by show _ = _; simp [accW, hh]
        clear hs
        go_enter Try.func26, Try.ntmps26
        go_upto_region 1 with fail
        generalize (w.alloc (.cells (evC e).toArray 52)) = W1 at *
        refine wp_region_quiet_below (by kernel_rfl) (by kernel_rfl) ?_
        repeat (first
          | go_big_quiet_skip
          | ((with_reducible refine gq_ld 34 (.tmp 1) rfl ?_); refine wq_one rfl 34 (.tmp 1) rfl bx 0 (.pointer (some ⟨p, 0, none⟩)) ag34 rfl HBX.out HLb.out ?_; simp only [Act.put, List.setIfInBounds_toArray, List.set_cons_zero, List.set_cons_succ])
          | ((with_reducible refine gq_ld 4 (.tmp 7) rfl ?_); refine wq_one rfl 4 (.tmp 7) rfl p 28 (.bool false) ag4 rfl HST.out HLp.out ?_; simp only [Act.put, List.setIfInBounds_toArray, List.set_cons_zero, List.set_cons_succ])
          | ((with_reducible refine gq_ld 33 (.tmp 12) rfl ?_); refine wq_one rfl 33 (.tmp 12) rfl p 26 (.int .u64 x.since) ag33 rfl HSI.out HLp.out ?_; simp only [Act.put, List.setIfInBounds_toArray, List.set_cons_zero, List.set_cons_succ])
          | ((with_reducible refine gq_ld 33 (.tmp 14) rfl ?_); refine wq_one rfl 33 (.tmp 14) rfl w.heap.size 0 (.int .u64 e.at_) ag33 rfl HEA.out HLe.out ?_; simp only [Act.put, List.setIfInBounds_toArray, List.set_cons_zero, List.set_cons_succ])
          | ((with_reducible refine gq_ld 32 (.tmp 21) rfl ?_); refine wq_ldr rfl 32 (.tmp 21) rfl p 0 (pC x.key x.depth) _ Try.underlying32 rfl (by rw [sizPre, pC_len x.lkey]) rfl HPR.out HLp.out ?_; simp only [Act.put, List.setIfInBounds_toArray, List.set_cons_zero, List.set_cons_succ])
          | ((with_reducible refine gq_ld 30 (.tmp 23) rfl ?_); refine wq_ldr rfl 30 (.tmp 23) rfl w.heap.size 1 (bC e.key).toList _ Try.underlying30 rfl (by rw [sizKey]; simp [bC_size, e.lkey]) rfl HEK.out HLe.out ?_; simp only [Act.put, List.setIfInBounds_toArray, List.set_cons_zero, List.set_cons_succ])
          | go_big_quiet_step (first | (with_reducible exact rg_call KH.out _ _)))
        refine wpQuiet_nil ?_
        rintro _ ⟨⟨dq, osq⟩, rfl⟩
        have hbel := below_regrown W1 dq osq
        have HX := Lib.hid (HX.out.below hbel)
        have HB := bt HB hbel
        have HEB : Hid ((Sort.grow (redrawn W1 dq) osq).heap[w.heap.size]? = some (.cells (evC e).toArray 52 (0, 0))) := (hbel.block _ HLe.out).trans HEB.out
        have HBK : Hid ((Sort.grow (redrawn W1 dq) osq).heap[bx]? = some (.cells #[.pointer (some ⟨p, 0, none⟩)] 34 (0, 0))) := (hbel.block _ HLb.out).trans HBK.out
        clear hbel HBX HST HSI HEA HEK HPR HLp HLb HLe KH
        generalize Sort.grow (redrawn W1 dq) osq = W2 at *
        go_wp2_with fail
        go_ret
        exact ⟨by rw [HA.out]; rfl, qv, by rw [HR.out]; exact HX.out, Turn.of_below HB.out, Or.inl rfl⟩
      · have HR0 : Hid (handW x e = if 12 ≤ x.queue.length then { x with stop := true, queue := x.queue ++ [markE e.at_] } else { x with queue := x.queue ++ [e] }) := by show _ = _; rw [handW, if_neg hs, if_neg ht, if_neg (by simp [hh])]
        have HA : Hid (accW x e = true) := by show _ = _; simp [accW, hh, hsf, ht]
        clear hs
        go_enter Try.func26, Try.ntmps26
        go_upto_region 1 with fail
        generalize (w.alloc (.cells (evC e).toArray 52)) = W1 at *
        refine wp_region_quiet_below (by kernel_rfl) (by kernel_rfl) ?_
        repeat (first
          | go_big_quiet_skip
          | ((with_reducible refine gq_ld 34 (.tmp 1) rfl ?_); refine wq_one rfl 34 (.tmp 1) rfl bx 0 (.pointer (some ⟨p, 0, none⟩)) ag34 rfl HBX.out HLb.out ?_; simp only [Act.put, List.setIfInBounds_toArray, List.set_cons_zero, List.set_cons_succ])
          | ((with_reducible refine gq_ld 4 (.tmp 7) rfl ?_); refine wq_one rfl 4 (.tmp 7) rfl p 28 (.bool false) ag4 rfl HST.out HLp.out ?_; simp only [Act.put, List.setIfInBounds_toArray, List.set_cons_zero, List.set_cons_succ])
          | ((with_reducible refine gq_ld 33 (.tmp 12) rfl ?_); refine wq_one rfl 33 (.tmp 12) rfl p 26 (.int .u64 x.since) ag33 rfl HSI.out HLp.out ?_; simp only [Act.put, List.setIfInBounds_toArray, List.set_cons_zero, List.set_cons_succ])
          | ((with_reducible refine gq_ld 33 (.tmp 14) rfl ?_); refine wq_one rfl 33 (.tmp 14) rfl w.heap.size 0 (.int .u64 e.at_) ag33 rfl HEA.out HLe.out ?_; simp only [Act.put, List.setIfInBounds_toArray, List.set_cons_zero, List.set_cons_succ])
          | ((with_reducible refine gq_ld 32 (.tmp 21) rfl ?_); refine wq_ldr rfl 32 (.tmp 21) rfl p 0 (pC x.key x.depth) _ Try.underlying32 rfl (by rw [sizPre, pC_len x.lkey]) rfl HPR.out HLp.out ?_; simp only [Act.put, List.setIfInBounds_toArray, List.set_cons_zero, List.set_cons_succ])
          | ((with_reducible refine gq_ld 30 (.tmp 23) rfl ?_); refine wq_ldr rfl 30 (.tmp 23) rfl w.heap.size 1 (bC e.key).toList _ Try.underlying30 rfl (by rw [sizKey]; simp [bC_size, e.lkey]) rfl HEK.out HLe.out ?_; simp only [Act.put, List.setIfInBounds_toArray, List.set_cons_zero, List.set_cons_succ])
          | go_big_quiet_step (first | (with_reducible exact rg_call KH.out _ _)))
        refine wpQuiet_nil ?_
        rintro _ ⟨⟨dq, osq⟩, rfl⟩
        have hbel := below_regrown W1 dq osq
        have HX := Lib.hid (HX.out.below hbel)
        have HB := bt HB hbel
        have HEB : Hid ((Sort.grow (redrawn W1 dq) osq).heap[w.heap.size]? = some (.cells (evC e).toArray 52 (0, 0))) := (hbel.block _ HLe.out).trans HEB.out
        have HBK : Hid ((Sort.grow (redrawn W1 dq) osq).heap[bx]? = some (.cells #[.pointer (some ⟨p, 0, none⟩)] 34 (0, 0))) := (hbel.block _ HLb.out).trans HBK.out
        clear hbel HBX HST HSI HEA HEK HPR HLp HLb HLe KH
        generalize Sort.grow (redrawn W1 dq) osq = W2 at *
        obtain ⟨q, cap, hqv⟩ := HX.out.own.slice
        subst hqv
        have hc1 : W2.cell? ⟨bx, 0, none⟩ = some (.pointer (some ⟨p, 0, none⟩)) := by rw [cell_blk HBK.out]; rfl
        have hc2 : W2.cell? ⟨p, 27, none⟩ = some (.slice q x.queue.length cap) := HX.out.cells.2.2.1
        by_cases hf : 12 ≤ x.queue.length
        · have HR : Hid (handW x e = ⟨x.key, x.depth, x.since, x.queue ++ [markE e.at_], true, x.lkey⟩) := by show _ = _; rw [HR0.out, if_pos hf]
          have hfi : (12 : Int) ≤ (x.queue.length : Nat) := by omega
          have hbp := ty_ne HBK.out HX.out.blk (by decide)
          have hep := ty_ne HEB.out HX.out.blk (by decide)
          have hbe := ty_ne HBK.out HEB.out (by decide)
          have nq := own_ne HX.out.own HX.out.blk (by decide)
          obtain ⟨x1, hx1⟩ : ∃ x1 : Wt, x1 = ⟨x.key, x.depth, x.since, x.queue, true, x.lkey⟩ := ⟨_, rfl⟩
          go_upto_region 5 with (first | ((with_reducible refine gate_st 4 (.tmp 37) _ rfl ?_); refine wl_st1 rfl 4 siz4b _ _ rfl p 28 (.bool true) rfl rfl rfl _ _ HX.out.blk (by rw [wtC_len x.lkey]; omega) ?_; rw [wt_stop x.lkey]))
          have HX3 : Hid (WtAt B (W2.setRow p (wtC x.key x.depth x.since (.slice q x.queue.length cap) true).toArray) p x1 (.slice q x1.queue.length cap)) := by subst hx1; exact ⟨setRow_at HX.out.blk, HX.out.own.block fun g hg => setRow_other _ _ _ _ (fun h => nq (h ▸ hg)), HX.out.low⟩
          have HEB3 : Hid ((W2.setRow p (wtC x.key x.depth x.since (.slice q x.queue.length cap) true).toArray).heap[w.heap.size]? = some (.cells (evC e).toArray 52 (0, 0))) := (setRow_other _ _ _ _ hep).trans HEB.out
          have HBK3 : Hid ((W2.setRow p (wtC x.key x.depth x.since (.slice q x.queue.length cap) true).toArray).heap[bx]? = some (.cells #[.pointer (some ⟨p, 0, none⟩)] 34 (0, 0))) := (setRow_other _ _ _ _ hbp).trans HBK.out
          have HT3 : Hid (Turn (p :: (Value.slice q x1.queue.length cap).ownBlock.toList) w (W2.setRow p (wtC x.key x.depth x.since (.slice q x.queue.length cap) true).toArray)) := (Turn.of_below HB.out).trans ⟨rfl, rfl, rfl, by simp, fun k hk hm => setRow_other _ _ _ _ (fun e => hm (by rw [e]; exact List.mem_cons_self))⟩
          clear hc1 hc2 HB HX HEB HBK
          generalize W2.setRow p (wtC x.key x.depth x.since (.slice q x.queue.length cap) true).toArray = W3 at *
          have hc3 : W3.cell? ⟨w.heap.size, 0, none⟩ = some (.int .u64 e.at_) := by rw [cell_blk HEB3.out]; rfl
          go_upto_region 6 with (first
            | ((with_reducible refine gate_bd 52 _ rfl ?_); refine wl_bd rfl _ [(0, .tmp 39), (3, .const (.bool true))] rfl [(0, .int .u64 e.at_), (3, .bool true)] rfl (evC (markE e.at_)).toArray (builtMark _) ?_)
            | ((with_reducible refine gate_st 52 (.tmp 2) _ rfl ?_); refine wl_str rfl 52 _ _ rfl w.heap.size (evC (markE e.at_)).toArray (evC e).toArray 52 (by rw [sizEv]; simp [evC_len]) (by simp [evC_len]) (by rw [← Array.all_toList]; exact evC_one _) rfl rfl HEB3.out ?_))
          simp only [Act.put, List.setIfInBounds_toArray, List.set_cons_zero, List.set_cons_succ]
          have neb : (Value.slice q x1.queue.length cap).ownBlock ≠ some w.heap.size := fun h => by subst hx1; have := (HX0.out.own.lt _ h).2; omega
          have HX4 : Hid (WtAt B (W3.setRow w.heap.size (evC (markE e.at_)).toArray) p x1 (.slice q x1.queue.length cap)) := HX3.out.keep (setRow_other _ _ _ _ (Ne.symm hep)) fun g hg => setRow_other _ _ _ _ (fun h => neb (h ▸ hg))
          have HEB4 : Hid ((W3.setRow w.heap.size (evC (markE e.at_)).toArray).heap[w.heap.size]? = some (.cells (evC (markE e.at_)).toArray 52 (0, 0))) := setRow_at HEB3.out
          have HBK4 : Hid ((W3.setRow w.heap.size (evC (markE e.at_)).toArray).heap[bx]? = some (.cells #[.pointer (some ⟨p, 0, none⟩)] 34 (0, 0))) := (setRow_other _ _ _ _ hbe).trans HBK3.out
          have HT4 : Hid (Turn (p :: (Value.slice q x1.queue.length cap).ownBlock.toList) w (W3.setRow w.heap.size (evC (markE e.at_)).toArray)) := ⟨HT3.out.os, HT3.out.tape, HT3.out.output, by simpa using HT3.out.size, fun k hk hm => (setRow_other _ _ _ _ (by omega)).trans (HT3.out.block k hk hm)⟩
          have HLQ : Hid (x1.queue.length ≤ 1000) := by subst hx1; exact HLQ.out
          have HR1 : Hid (handW x e = { x1 with queue := x1.queue ++ [markE e.at_] }) := by subst hx1; exact HR.out
          have HXL : Hid (x.queue.length = x1.queue.length) := by subst hx1; rfl
          clear hc3 HX3 HEB3 HBK3 HT3
          generalize W3.setRow w.heap.size (evC (markE e.at_)).toArray = W4 at *
          have hbx := lt_heap HBK4.out
          have hp := lt_heap HX4.out.blk
          have heb := lt_heap HEB4.out
          have nb := own_ne HX4.out.own HBK4.out (by decide)
          have np := own_ne HX4.out.own HX4.out.blk (by decide)
          have ne : (Value.slice q x1.queue.length cap).ownBlock ≠ some w.heap.size := neb
          refine wp_region_chainV (HC B p bx w.heap.size W4 x1 (.slice q x1.queue.length cap) (markE e.at_)) (fun gv => [some (41, .pointer (some ⟨p, 0, none⟩)), some (42, .pointer (some ⟨p, 0, none⟩)), some (43, .pointer (some ⟨p, 0, none⟩)), some (44, .pointer (some ⟨p, 27, none⟩)), some (45, .slice q x1.queue.length cap), some (46, .agg (evC (markE e.at_)).toArray), some (47, .slice (some ⟨W4.heap.size, 0, none⟩) 1 1), some (48, gv), some (49, .pointer (some ⟨p, 0, none⟩)), some (50, .pointer (some ⟨p, 27, none⟩)), none]) [6, 7, 10] 7 undef
            (by kernel_rfl) (by kernel_rfl) (fun _ => rfl) (fun v v' i hi => by
              by_cases h : i < 11
              · have h2 : i = 0 ∨ i = 1 ∨ i = 2 ∨ i = 3 ∨ i = 4 ∨ i = 5 ∨ i = 6 ∨ i = 7 ∨ i = 8 ∨ i = 9 ∨ i = 10 := by omega
                rcases h2 with rfl | rfl | rfl | rfl | rfl | rfl | rfl | rfl | rfl | rfl | rfl <;> first | rfl | exact absurd rfl hi
              · rw [List.getElem?_eq_none (by simp; omega), List.getElem?_eq_none (by simp; omega)])
            (fun _ _ => rfl) (by simp) (by simp) (by decide) (by decide) (fun r hr => by have h2 : r + 1 < 3 := hr; obtain rfl | rfl : r = 0 ∨ r = 1 := (by omega) <;> (show _ = true; kernel_rfl)) ⟨fun _ => ⟨rfl, rfl, rfl⟩, rfl⟩ ?_ ?_ ?_
          · intro i hi hE gv a v k hfr hdep hC hkk K hK
            have hi11 : i < 11 := hi
            obtain rfl | rfl | rfl | rfl | rfl | rfl | rfl | rfl | rfl | rfl | rfl : i = 0 ∨ i = 1 ∨ i = 2 ∨ i = 3 ∨ i = 4 ∨ i = 5 ∨ i = 6 ∨ i = 7 ∨ i = 8 ∨ i = 9 ∨ i = 10 := by omega
            · have hk2 : k ≤ 2 := by
                rcases Nat.lt_or_ge 2 k with h | h
                · exact absurd (hkk 2 (by simp) h) (by decide +kernel)
                · exact h
              exact wpOp_val rfl rfl (exec_ld1 34 ag34 (.tmp 1) rfl bx 0 (.pointer (some ⟨p, 0, none⟩)) (hfr.off 1 (by simp)) (by rw [cell_of (hC.1 hk2).1, cell_blk HBK4.out]; rfl)) hK
            · have hk2 : k ≤ 2 := by
                rcases Nat.lt_or_ge 2 k with h | h
                · exact absurd (hkk 2 (by simp) h) (by decide +kernel)
                · exact h
              exact wpOp_val rfl rfl (exec_ld1 34 ag34 (.tmp 1) rfl bx 0 (.pointer (some ⟨p, 0, none⟩)) (hfr.off 1 (by simp)) (by rw [cell_of (hC.1 hk2).1, cell_blk HBK4.out]; rfl)) hK
            · exact wpOp_val rfl rfl (exec_nil (.tmp 42) rfl ⟨p, 0, none⟩ (hdep 1 (by kernel_rfl) 42 _ rfl)) hK
            · exact wpOp_val rfl rfl (exec_fQ (.tmp 43) rfl p (hdep 2 (by kernel_rfl) 43 _ rfl)) hK
            · have hk2 : k ≤ 2 := by
                rcases Nat.lt_or_ge 2 k with h | h
                · exact absurd (hkk 2 (by simp) h) (by decide +kernel)
                · exact h
              exact wpOp_val rfl rfl (exec_ld1 47 ag47 (.tmp 44) rfl p 27 (.slice q x1.queue.length cap) (hdep 3 (by kernel_rfl) 44 _ rfl) (by rw [cell_of (hC.1 hk2).2.1]; exact HX4.out.cells.2.2.1)) hK
            · have hk2 : k ≤ 2 := by
                rcases Nat.lt_or_ge 2 k with h | h
                · exact absurd (hkk 2 (by simp) h) (by decide +kernel)
                · exact h
              exact wpOp_ldr rfl rfl 52 (.tmp 2) rfl w.heap.size 0 (evC (markE e.at_)) _ Try.underlying52 rfl (by rw [sizEv, evC_len]) (hfr.off 2 (by simp)) (range_of_block (range_whole HEB4.out) (hC.1 hk2).2.2) hK
            · exact absurd (by simp) hE
            · exact absurd (by simp) hE
            · exact wpOp_val rfl rfl (exec_nil (.tmp 41) rfl ⟨p, 0, none⟩ (hdep 0 (by kernel_rfl) 41 _ rfl)) hK
            · exact wpOp_val rfl rfl (exec_fQ (.tmp 49) rfl p (hdep 8 (by kernel_rfl) 49 _ rfl)) hK
            · exact absurd (by simp) hE
          · intro r hr gv a v hfr hdep hC K hK
            have hr3 : r < 3 := hr
            obtain rfl | rfl | rfl : r = 0 ∨ r = 1 ∨ r = 2 := by omega
            · obtain rfl : v = { W4 with drawn := W4.drawn + 1 } := hC.2
              exact wpOp_wp rfl rfl (op_bs1 47 52 40 (.agg (evC default).toArray) Try.underlying47 infoEv ev0_sz (by omega) (by omega) evC_len (.tmp 46) rfl (markE e.at_) (hdep 5 (by kernel_rfl) 46 _ rfl) (hK gv _ (fun _ => rfl) (hc_one hbx hp heb)))
            · obtain rfl : v = A1 W4 (markE e.at_) := hC.2
              exact wpOp_wp rfl rfl (op_app 47 52 40 (.agg (evC default).toArray) Try.underlying47 infoEv ev0_sz (by omega) evC_len evC_one' (.tmp 45) (.tmp 47) rfl B (.slice q x1.queue.length cap) x1.queue (hdep 4 (by kernel_rfl) 45 _ rfl) (HX4.out.own.below (A1_below _ _)) (some ⟨W4.heap.size, 0, none⟩) 1 1 [(markE e.at_)] (hdep 6 (by kernel_rfl) 47 _ rfl) rfl (slat_ev (heap_alloc_new _ _)) (fun h => by cases h) (by have := HLQ.out; omega) (by have := HLQ.out; unfold maxLen; omega) (by have := HBz.out; have := HT4.out.size; have := (A1_below W4 (markE e.at_)).size; omega) (fun v' w' g1 g2 g3 => hK v' w' (fun h => absurd rfl h) (hc_two hbx hp heb nb np ne g1 g2 g3)))
            · have h2 := hC.2
              have npg : gv.ownBlock ≠ some p := by
                rcases h2.2.2 with h | h
                · rw [h]; exact np
                · rw [h]; intro h; simp only [Option.some.injEq] at h; omega
              refine wpOp_skip rfl rfl (exec_st1 47 siz47 (.tmp 50) (.tmp 48) rfl p 27 gv (hdep 9 (by kernel_rfl) 50 _ rfl) (hdep 7 (by kernel_rfl) 48 _ rfl) (own_one h2.1) _ _ ((hC.1 (Nat.le_refl 2)).2.1.trans HX4.out.blk) (by rw [wtC_len x1.lkey]; omega)) (hK gv _ (fun _ => rfl) ?_)
              rw [wt_put x1.lkey]
              exact hc_three (by have := HBz.out; have := HT4.out.size; omega) HX4.out npg hC
          · intro gv v hC
            have HF := Lib.hid hC.2
            clear hC
            simp only [puts, List.filterMap_cons, List.filterMap_nil, _root_.id, List.setIfInBounds_toArray, List.set_cons_zero, List.set_cons_succ]
            go_wp2_with fail
            go_ret
            rw [HXL.out]
            exact ⟨by rw [HA.out]; rfl, gv, by rw [HR1.out]; exact HF.out.1, HT4.out.trans HF.out.2.1, HF.out.2.2.imp (fun h => h) (fun ⟨g, h1, h2⟩ => ⟨g, h1, Nat.le_trans HT4.out.size h2⟩)⟩
        · have HR : Hid (handW x e = { x with queue := x.queue ++ [e] }) := by show _ = _; rw [HR0.out, if_neg hf]
          have hfi : ¬ (12 : Int) ≤ (x.queue.length : Nat) := by omega
          have hbx := lt_heap HBK.out
          have hp := lt_heap HX.out.blk
          have heb := lt_heap HEB.out
          have nb := own_ne HX.out.own HBK.out (by decide)
          have np := own_ne HX.out.own HX.out.blk (by decide)
          have ne : (Value.slice q x.queue.length cap).ownBlock ≠ some w.heap.size := fun h => by have := (HX0.out.own.lt _ h).2; omega
          go_upto_region 6 with fail
          refine wp_region_chainV (HC B p bx w.heap.size W2 x (.slice q x.queue.length cap) e) (fun gv => [some (41, .pointer (some ⟨p, 0, none⟩)), some (42, .pointer (some ⟨p, 0, none⟩)), some (43, .pointer (some ⟨p, 0, none⟩)), some (44, .pointer (some ⟨p, 27, none⟩)), some (45, .slice q x.queue.length cap), some (46, .agg (evC e).toArray), some (47, .slice (some ⟨W2.heap.size, 0, none⟩) 1 1), some (48, gv), some (49, .pointer (some ⟨p, 0, none⟩)), some (50, .pointer (some ⟨p, 27, none⟩)), none]) [6, 7, 10] 7 undef
            (by kernel_rfl) (by kernel_rfl) (fun _ => rfl) (fun v v' i hi => by
              by_cases h : i < 11
              · have h2 : i = 0 ∨ i = 1 ∨ i = 2 ∨ i = 3 ∨ i = 4 ∨ i = 5 ∨ i = 6 ∨ i = 7 ∨ i = 8 ∨ i = 9 ∨ i = 10 := by omega
                rcases h2 with rfl | rfl | rfl | rfl | rfl | rfl | rfl | rfl | rfl | rfl | rfl <;> first | rfl | exact absurd rfl hi
              · rw [List.getElem?_eq_none (by simp; omega), List.getElem?_eq_none (by simp; omega)])
            (fun _ _ => rfl) (by simp) (by simp) (by decide) (by decide) (fun r hr => by have h2 : r + 1 < 3 := hr; obtain rfl | rfl : r = 0 ∨ r = 1 := (by omega) <;> (show _ = true; kernel_rfl)) ⟨fun _ => ⟨rfl, rfl, rfl⟩, rfl⟩ ?_ ?_ ?_
          · intro i hi hE gv a v k hfr hdep hC hkk K hK
            have hi11 : i < 11 := hi
            obtain rfl | rfl | rfl | rfl | rfl | rfl | rfl | rfl | rfl | rfl | rfl : i = 0 ∨ i = 1 ∨ i = 2 ∨ i = 3 ∨ i = 4 ∨ i = 5 ∨ i = 6 ∨ i = 7 ∨ i = 8 ∨ i = 9 ∨ i = 10 := by omega
            · have hk2 : k ≤ 2 := by
                rcases Nat.lt_or_ge 2 k with h | h
                · exact absurd (hkk 2 (by simp) h) (by decide +kernel)
                · exact h
              exact wpOp_val rfl rfl (exec_ld1 34 ag34 (.tmp 1) rfl bx 0 (.pointer (some ⟨p, 0, none⟩)) (hfr.off 1 (by simp)) (by rw [cell_of (hC.1 hk2).1, cell_blk HBK.out]; rfl)) hK
            · have hk2 : k ≤ 2 := by
                rcases Nat.lt_or_ge 2 k with h | h
                · exact absurd (hkk 2 (by simp) h) (by decide +kernel)
                · exact h
              exact wpOp_val rfl rfl (exec_ld1 34 ag34 (.tmp 1) rfl bx 0 (.pointer (some ⟨p, 0, none⟩)) (hfr.off 1 (by simp)) (by rw [cell_of (hC.1 hk2).1, cell_blk HBK.out]; rfl)) hK
            · exact wpOp_val rfl rfl (exec_nil (.tmp 42) rfl ⟨p, 0, none⟩ (hdep 1 (by kernel_rfl) 42 _ rfl)) hK
            · exact wpOp_val rfl rfl (exec_fQ (.tmp 43) rfl p (hdep 2 (by kernel_rfl) 43 _ rfl)) hK
            · have hk2 : k ≤ 2 := by
                rcases Nat.lt_or_ge 2 k with h | h
                · exact absurd (hkk 2 (by simp) h) (by decide +kernel)
                · exact h
              exact wpOp_val rfl rfl (exec_ld1 47 ag47 (.tmp 44) rfl p 27 (.slice q x.queue.length cap) (hdep 3 (by kernel_rfl) 44 _ rfl) (by rw [cell_of (hC.1 hk2).2.1]; exact HX.out.cells.2.2.1)) hK
            · have hk2 : k ≤ 2 := by
                rcases Nat.lt_or_ge 2 k with h | h
                · exact absurd (hkk 2 (by simp) h) (by decide +kernel)
                · exact h
              exact wpOp_ldr rfl rfl 52 (.tmp 2) rfl w.heap.size 0 (evC e) _ Try.underlying52 rfl (by rw [sizEv, evC_len]) (hfr.off 2 (by simp)) (range_of_block (range_whole HEB.out) (hC.1 hk2).2.2) hK
            · exact absurd (by simp) hE
            · exact absurd (by simp) hE
            · exact wpOp_val rfl rfl (exec_nil (.tmp 41) rfl ⟨p, 0, none⟩ (hdep 0 (by kernel_rfl) 41 _ rfl)) hK
            · exact wpOp_val rfl rfl (exec_fQ (.tmp 49) rfl p (hdep 8 (by kernel_rfl) 49 _ rfl)) hK
            · exact absurd (by simp) hE
          · intro r hr gv a v hfr hdep hC K hK
            have hr3 : r < 3 := hr
            obtain rfl | rfl | rfl : r = 0 ∨ r = 1 ∨ r = 2 := by omega
            · obtain rfl : v = { W2 with drawn := W2.drawn + 1 } := hC.2
              exact wpOp_wp rfl rfl (op_bs1 47 52 40 (.agg (evC default).toArray) Try.underlying47 infoEv ev0_sz (by omega) (by omega) evC_len (.tmp 46) rfl e (hdep 5 (by kernel_rfl) 46 _ rfl) (hK gv _ (fun _ => rfl) (hc_one hbx hp heb)))
            · obtain rfl : v = A1 W2 e := hC.2
              exact wpOp_wp rfl rfl (op_app 47 52 40 (.agg (evC default).toArray) Try.underlying47 infoEv ev0_sz (by omega) evC_len evC_one' (.tmp 45) (.tmp 47) rfl B (.slice q x.queue.length cap) x.queue (hdep 4 (by kernel_rfl) 45 _ rfl) (HX.out.own.below (A1_below _ _)) (some ⟨W2.heap.size, 0, none⟩) 1 1 [e] (hdep 6 (by kernel_rfl) 47 _ rfl) rfl (slat_ev (heap_alloc_new _ _)) (fun h => by cases h) (by have := HLQ.out; omega) (by have := HLQ.out; unfold maxLen; omega) (by have := HBz.out; have := HB.out.size; have := (A1_below W2 e).size; omega) (fun v' w' g1 g2 g3 => hK v' w' (fun h => absurd rfl h) (hc_two hbx hp heb nb np ne g1 g2 g3)))
            · have h2 := hC.2
              have npg : gv.ownBlock ≠ some p := by
                rcases h2.2.2 with h | h
                · rw [h]; exact np
                · rw [h]; intro h; simp only [Option.some.injEq] at h; omega
              refine wpOp_skip rfl rfl (exec_st1 47 siz47 (.tmp 50) (.tmp 48) rfl p 27 gv (hdep 9 (by kernel_rfl) 50 _ rfl) (hdep 7 (by kernel_rfl) 48 _ rfl) (own_one h2.1) _ _ ((hC.1 (Nat.le_refl 2)).2.1.trans HX.out.blk) (by rw [wtC_len x.lkey]; omega)) (hK gv _ (fun _ => rfl) ?_)
              rw [wt_put x.lkey]
              exact hc_three (by have := HBz.out; have := HB.out.size; omega) HX.out npg hC
          · intro gv v hC
            have HF := Lib.hid hC.2
            clear hC
            simp only [puts, List.filterMap_cons, List.filterMap_nil, _root_.id, List.setIfInBounds_toArray, List.set_cons_zero, List.set_cons_succ]
            go_wp2_with fail
            go_ret
            exact ⟨by rw [HA.out]; rfl, gv, by rw [HR.out]; exact HF.out.1, (Turn.of_below HB.out).trans HF.out.2.1, HF.out.2.2.imp (fun h => h) (fun ⟨g, h1, h2⟩ => ⟨g, h1, Nat.le_trans HB.out.size h2⟩)⟩
end Go.Proofs.Ytnafcbmpjjlhnaa
