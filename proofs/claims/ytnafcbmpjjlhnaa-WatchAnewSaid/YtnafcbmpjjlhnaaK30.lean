/- WatchAnew: operations of its regions; the state that Resync and Watch leave. -/
import Derived.Test.YtnafcbmpjjlhnaaK29
namespace Go.Proofs.Ytnafcbmpjjlhnaa
open Go.RowKit

section
variable {P : Program} {Q : Exit → Act → World → Prop}
theorem wpOp_call {ops : Array Oper} {i : Nat} {o : Oper} {a : Act} {w : World} {f : FuncId} {args : Array Value} {R : Ending → World → Prop} {K : Act → World → Prop} (hi : ops[i]? = some o) (hg : o.guard = none) (hr : (execOp a.eval o).run P w = .ok (.enter f args) w)
    (hc : Calls P f args w R) (h : ∀ e w', R e w' → ∃ v, e = .returned v ∧ K (a.put o.dst v) w') : wpOp P ops Q i K a w := by
  unfold wpOp
  simp only [hi]
  rw [if_pos (by unfold Region.wanted; rw [hg])]
  left
  unfold Oper.wp
  rw [hr, Oper.upon_enter]
  refine hc.mono ?_
  intro e w' hR
  obtain ⟨v, rfl, hk⟩ := h e w' hR
  exact hk
theorem exec_calls {o : Oper} {a : Act} {f : FuncId} {xs : Array Operand} {ts : Array TypeId} {vs : Array Value} (ho : o.op = .call { callee := .value (.func f), args := xs, argTypes := ts }) (hf : ∀ args w, (callFunc f args).run P w = .ok (.enter f args) w) (hx : xs.map a.eval = vs) (w : World) :
    (execOp a.eval o).run P w = .ok (.enter f vs) w := by
  unfold execOp
  simp [ho, resolve, invoke, hx, hf, Deferred.ofValue, show a.eval (.func f) = .func (.func f) #[] #[] from rfl]
theorem wpOp_as {ops : Array Oper} {i : Nat} {o : Oper} {a : Act} {w : World} {K : Act → World → Prop} (hi : ops[i]? = some o) (hg : o.guard = none) (x : Operand) (ho : o.op = .assign x) (v : Value) (hx : a.eval x = v) (h : K (a.put o.dst v) w) : wpOp P ops Q i K a w := by
  refine wpOp_val hi hg ?_ h
  unfold execOp
  simp only [ho, hx, Sem.run_pure]
end
theorem exec_fA4 {o : Oper} {a : Act} {w : World} (x : Operand) (ho : o.op = .fieldAddr 44 x 4) (b f : Nat) (hx : a.eval x = .pointer (some ⟨b, f, none⟩)) : (execOp a.eval o).run Try.prog w = .ok (.value (.pointer (some ⟨b, f + 29, none⟩))) w := by
  unfold execOp
  simp only [ho, hx]
  simp [go_sem]
theorem exec_fA5 {o : Oper} {a : Act} {w : World} (x : Operand) (ho : o.op = .fieldAddr 44 x 5) (b f : Nat) (hx : a.eval x = .pointer (some ⟨b, f, none⟩)) : (execOp a.eval o).run Try.prog w = .ok (.value (.pointer (some ⟨b, f + 30, none⟩))) w := by
  unfold execOp
  simp only [ho, hx]
  simp [go_sem]
theorem exec_neqI {o : Oper} {a : Act} {w : World} (x y : Operand) (ho : o.op = .binOp .neq 3 x y 3) (n : Int) (hx : a.eval x = .int .i64 n) (hy : a.eval y = .int .i64 n) : (execOp a.eval o).run Try.prog w = .ok (.value (.bool false)) w := by
  unfold execOp
  simp only [ho, hx, hy]
  simp [go_sem]
theorem ag42 (w : World) : (isAgg 42).run Try.prog w = .ok false w := by simp [isAgg, run_underlying Try.underlying42]
theorem sizAc : (Try.prog.info? 44).map (·.size) = some 31 := by kernel_rfl
/-- An act in memory: its time, its writes. -/
theorem ac_cells {w : World} {q : Option Addr} {xs : List Ac} (h : SlAt acC 31 w q xs) (i : Nat) (hi : i < xs.length) : ∃ b o, q = some ⟨b, o, none⟩ ∧ b < w.heap.size ∧ w.cell? ⟨b, o + i * 31 + 29, none⟩ = some (.int .u64 xs[i].t) ∧ w.cell? ⟨b, o + i * 31 + 30, none⟩ = some (.slice xs[i].q xs[i].ws.length xs[i].c) := by
  obtain ⟨b, o, h1, h2, h3⟩ := h i hi
  have hl := xs[i].lhead
  refine ⟨b, o, h1, h2, h3 29 _ ?_, h3 30 _ ?_⟩
  · rw [acC, List.getElem?_append_right (by omega), hl]; rfl
  · rw [acC, List.getElem?_append_right (by omega), hl]; rfl
def nilV : Value := .slice none 0 0
def fresh (k : List UInt8) (d t : Int) (hk : k.length = 25) : Wt := ⟨k, d, t, [], false, hk⟩
theorem fresh_QB (k : List UInt8) (d t : Int) (hk : k.length = 25) : QB (fresh k d t hk) := ⟨by simp [fresh], fun _ => by simp [fresh]⟩
theorem fresh_at {B p : Nat} {w : World} {k : List UInt8} {d t : Int} (hk : k.length = 25) (h : w.heap[p]? = some (.cells (wtC k d t (.slice none 0 0) false).toArray 67 (0, 0))) (hp : B ≤ p) : WtAt B w p (fresh k d t hk) nilV := ⟨h, OwnE.nil _ _, hp⟩
/-- What Resync leaves. -/
theorem resync_one (B g1 g2 bp p : Nat) (k : List UInt8) (d t : Int) (hk : k.length = 25) (x : Wt) (q : Value) (w : World) (h : One B w g1 g2 bp p k d x q) (hne : g1 ≠ g2) (hg : B ≤ g1) :
    Calls Try.prog 9 #[.pointer (some ⟨g1, 0, none⟩), .int .i64 0, .int .u64 t] w fun e w' => e = .returned (.int .i64 0) ∧ One B w' g1 g2 bp w.heap.size k d (fresh k d t hk) nilV ∧ Below B w w' :=
  (resync_any g1 0 p (by omega) x.key x.lkey x.depth x.since t q x.stop w h.r1 h.a1.blk).mono fun e w' ⟨he, h1, h2, h3⟩ => by
    rw [h.xk, h.xd] at h1
    have hb : bp ≠ g1 := ty_ne h.bx h.r1 (by decide)
    exact ⟨he, ⟨h2, (h3.block _ (lt_heap h.r2) (by simp; omega)).trans h.r2, (h3.block _ (lt_heap h.bx) (by simp; omega)).trans h.bx, fresh_at hk h1 h.sz, fresh_QB _ _ _ _, rfl, rfl, Nat.le_trans h.sz h3.size⟩, h3.below (fun j hj => by simp at hj; omega) h.sz⟩
/-- What Watch leaves behind it. -/
theorem watch_two (B g1 g2 bp p : Nat) (k : List UInt8) (d t : Int) (hk : k.length = 25) (hd : depOk d = true) (x : Wt) (q : Value) (w : World) (h : One B w g1 g2 bp p k d x q) (hg : B ≤ g2) :
    Calls Try.prog 5 #[.pointer (some ⟨g2, 0, none⟩), .int .i64 0, .agg (pC k d).toArray, .int .u64 t] w fun e w' => e = .returned (.int .i64 0) ∧ Two B w' g1 g2 p (w.heap.size + 1) x (fresh k d t hk) q nilV ∧ Below B w w' :=
  (watch_any g2 0 (by omega) k hk d t w h.r2 hd).mono fun e w' ⟨he, h1, h2, h3⟩ => by
    have hpl := lt_heap h.a1.blk
    have hpg : p ≠ g2 := ty_ne h.a1.blk h.r2 (by decide)
    have hgg : g1 ≠ g2 := fun e => by
      have h5 := h.r1
      rw [e, h.r2] at h5
      simp only [Option.some.injEq, Obj.cells.injEq] at h5
      exact absurd h5.1 (by simp [rg0, rgC, List.replicate])
    refine ⟨he, ⟨(h3.block _ (lt_heap h.r1) (by simp; omega)).trans h.r1, h2, h.a1.keep (h3.block _ hpl (by simp; omega)) fun b hb => h3.block _ (h.a1.own.lt b hb).2 fun hm => ?_, fresh_at hk h1 (by have := h.sz; omega), h.qb, fresh_QB _ _ _ _, by omega, (fun g _ h2 => by cases h2), Nat.le_trans h.sz h3.size⟩, h3.below (fun j hj => by simp at hj; omega) h.sz⟩
    simp at hm
    subst hm
    exact own_ne h.a1.own h.r2 (by decide) hb
/-- Drain at the first of two. -/
theorem drain_two (B g1 g2 p1 p2 : Nat) (x y : Wt) (qa qb : Value) (w : World) (h : Two B w g1 g2 p1 p2 x y qa qb) :
    Calls Try.prog 10 #[.pointer (some ⟨g1, 0, none⟩), .int .i64 0, .int .i64 100] w fun e w' => ∃ q c, e = .returned (.tuple #[.slice q x.queue.length c, .bool false]) ∧ SlAt evC 28 w' q x.queue ∧ (∀ b o, q = some ⟨b, o, none⟩ → b ≠ p2) ∧
      WtAt B w' p2 y qb ∧ w'.cell? ⟨g1, 0, none⟩ = some (.pointer (some ⟨p1, 0, none⟩)) ∧ w'.cell? ⟨g2, 0, none⟩ = some (.pointer (some ⟨p2, 0, none⟩)) ∧ w'.cell? ⟨p1, 28, none⟩ = some (.bool x.stop) ∧ g1 ≠ p2 ∧ g2 ≠ p2 ∧ p1 ≠ p2 ∧ p1 < w'.heap.size ∧ g1 < w'.heap.size ∧ g2 < w'.heap.size ∧ Below B w w' :=
  (drain_any B g1 0 p1 (by omega) x qa w (by rw [cell_blk h.r1]; exact rgC_get (by omega) _) h.a1 100 (by decide) (by have := h.qb.1; omega)).mono fun e w' ⟨q, c, he, ⟨c', hq⟩, hs, ht, u, hu⟩ => by
    have n1 : g1 ≠ p1 := ty_ne h.r1 h.a1.blk (by decide)
    have n2 : g2 ≠ p1 := ty_ne h.r2 h.a1.blk (by decide)
    have m1 : g1 ≠ p2 := ty_ne h.r1 h.a2.blk (by decide)
    have m2 : g2 ≠ p2 := ty_ne h.r2 h.a2.blk (by decide)
    have hp := h.pne
    have l1 := ht.block _ (lt_heap h.r1) (by simpa using n1)
    have l2 := ht.block _ (lt_heap h.r2) (by simpa using n2)
    refine ⟨q, c, he, hs, fun b o hb e => own_ne h.a1.own h.a2.blk (by decide) ?_, h.a2.keep (ht.block _ (lt_heap h.a2.blk) (by simp; omega)) fun g hg => ht.block _ (h.a2.own.lt g hg).2 (fun hm => by simp at hm; subst hm; exact own_ne h.a2.own h.a1.blk (by decide) hg), by rw [cell_blk (l1.trans h.r1)]; exact rgC_get (by omega) _, by rw [cell_blk (l2.trans h.r2)]; exact rgC_get (by omega) _, by rw [cell_blk hu]; exact (wt_cell x.lkey _ _ _ _).2.2, m1, m2, hp, lt_heap hu, lt_heap (l1.trans h.r1), lt_heap (l2.trans h.r2), ht.below (fun k hk => by simp at hk; rw [hk]; exact h.a1.low) h.sz⟩
    rw [hq, hb, ← e]; rfl
/-- And then at the second. -/
theorem drain_last (B g p : Nat) (y : Wt) (qb : Value) (w : World) (hc : w.cell? ⟨g, 0, none⟩ = some (.pointer (some ⟨p, 0, none⟩))) (h : WtAt B w p y qb) (hq : QB y) (hB : B ≤ w.heap.size) :
    Calls Try.prog 10 #[.pointer (some ⟨g, 0, none⟩), .int .i64 0, .int .i64 100] w fun e w' => ∃ q c, e = .returned (.tuple #[.slice q y.queue.length c, .bool false]) ∧ SlAt evC 28 w' q y.queue ∧ w'.cell? ⟨p, 28, none⟩ = some (.bool y.stop) ∧ Turn [p] w w' ∧ Below B w w' :=
  (drain_any B g 0 p (by omega) y qb w hc h 100 (by decide) (by have := hq.1; omega)).mono fun e w' ⟨q, c, he, _, hs, ht, u, hu⟩ =>
    ⟨q, c, he, hs, by rw [cell_blk hu]; exact (wt_cell y.lkey _ _ _ _).2.2, ht, ht.below (fun k hk => by simp at hk; rw [hk]; exact h.low) hB⟩
theorem slat_turn {w w' : World} {p : Nat} {q : Option Addr} {xs : List Ev} (h : SlAt evC 28 w q xs) (ht : Turn [p] w w') (hq : ∀ b o, q = some ⟨b, o, none⟩ → b ≠ p) : SlAt evC 28 w' q xs := fun i hi => by
  obtain ⟨b, o, h1, h2, h3⟩ := h i hi
  exact ⟨b, o, h1, Nat.lt_of_lt_of_le h2 ht.size, range_of_block h3 (ht.block b h2 (by simpa using hq b o h1))⟩
end Go.Proofs.Ytnafcbmpjjlhnaa
