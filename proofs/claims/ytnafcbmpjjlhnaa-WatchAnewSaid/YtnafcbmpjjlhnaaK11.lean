/- A watcher: what it keeps, what a write handed to it makes of it. -/
import Derived.Test.YtnafcbmpjjlhnaaK10
namespace Go.Proofs.Ytnafcbmpjjlhnaa
open Go.RowKit

/-- What a watcher keeps. -/
structure Wt where
  key : List UInt8
  depth : Int
  since : Int
  queue : List Ev
  stop : Bool
  lkey : key.length = 25
def wtC (k : List UInt8) (d s : Int) (qv : Value) (st : Bool) : List Value := pC k d ++ [.int .u64 s, qv, .bool st]
theorem wtC_len {k : List UInt8} (hk : k.length = 25) (d s : Int) (qv : Value) (st : Bool) : (wtC k d s qv st).length = 29 := by simp [wtC, pC_len hk]
def keyZ : List UInt8 := List.replicate 25 0
def markE (t : Int) : Ev := ⟨t, keyZ, false, true, rfl⟩
/-- One event handed to a watcher. -/
def handW (x : Wt) (e : Ev) : Wt :=
  if x.stop = true then x else if e.at_ ≤ x.since then x else if hasP x.key x.depth e.key = false then x
  else if 12 ≤ x.queue.length then { x with stop := true, queue := x.queue ++ [markE e.at_] } else { x with queue := x.queue ++ [e] }
/-- A watcher in memory: its block, its queue. -/
structure WtAt (B : Nat) (w : World) (p : Nat) (x : Wt) (qv : Value) : Prop where
  blk : w.heap[p]? = some (.cells (wtC x.key x.depth x.since qv x.stop).toArray 67 (0, 0))
  own : OwnE evC 52 28 w B qv x.queue
  low : B ≤ p
theorem sizWt : (Try.prog.info? 67).map (·.size) = some 29 := by kernel_rfl
theorem wt_cell {k : List UInt8} (hk : k.length = 25) (d s : Int) (qv : Value) (st : Bool) : (wtC k d s qv st).toArray[26]? = some (.int .u64 s) ∧ (wtC k d s qv st).toArray[27]? = some qv ∧ (wtC k d s qv st).toArray[28]? = some (.bool st) := by
  have h : (pC k d).length = 26 := pC_len hk d
  refine ⟨?_, ?_, ?_⟩ <;> simp [wtC, h]
theorem WtAt.cells {B : Nat} {w : World} {p : Nat} {x : Wt} {qv : Value} (h : WtAt B w p x qv) : w.rangeAt p 0 (pC x.key x.depth) ∧ w.cell? ⟨p, 26, none⟩ = some (.int .u64 x.since) ∧ w.cell? ⟨p, 27, none⟩ = some qv ∧ w.cell? ⟨p, 28, none⟩ = some (.bool x.stop) := by
  have hc := wt_cell x.lkey x.depth x.since qv x.stop
  exact ⟨range_app_left (range_whole h.blk), by rw [cell_blk h.blk]; exact hc.1, by rw [cell_blk h.blk]; exact hc.2.1, by rw [cell_blk h.blk]; exact hc.2.2⟩
theorem WtAt.keep {B : Nat} {w w' : World} {p : Nat} {x : Wt} {qv : Value} (h : WtAt B w p x qv) (hp : w'.heap[p]? = w.heap[p]?) (hq : ∀ g, qv.ownBlock = some g → w'.heap[g]? = w.heap[g]?) : WtAt B w' p x qv :=
  ⟨hp.trans h.blk, h.own.block hq, h.low⟩
theorem WtAt.below {B : Nat} {w w' : World} {p : Nat} {x : Wt} {qv : Value} (h : WtAt B w p x qv) (hb : Below w.heap.size w w') : WtAt B w' p x qv :=
  h.keep (hb.block _ (lt_heap h.blk)) fun g hg => hb.block _ (h.own.lt g hg).2
section
variable {W : World} {P : Program} {ops : Array Oper} {Q : Act → Prop} {a : Act} {o : Oper} {rest : List Oper}
theorem wq_one (hw : Region.wanted o (yielded ops a.tmps) = true) (T : TypeId) (x : Operand) (ho : o.op = .load T x) (b i : Nat) (v : Value) (hag : ∀ w, (isAgg T).run P w = .ok false w)
    (hx : a.eval x = .pointer (some ⟨b, i, none⟩)) (hc : W.cell? ⟨b, i, none⟩ = some v) (hb : b < W.heap.size)
    (h : wpQuiet P ops (fun w' => ∃ p : Regrown, w' = Sort.grow (redrawn W p.d) p.os) Q rest (a.put o.dst v)) : wpQuiet P ops (fun w' => ∃ p : Regrown, w' = Sort.grow (redrawn W p.d) p.os) Q (o :: rest) a := by
  refine wq_valC v hw (fun w hC => ?_) h
  obtain ⟨⟨dq, osq⟩, rfl⟩ := hC
  have hq : (Sort.grow (redrawn W dq) osq).cell? ⟨b, i, none⟩ = some v := (cell_of ((below_regrown W dq osq).block b hb) i).trans hc
  unfold execOp
  simp only [ho, hx, Sem.run_bind]
  simp [go_sem, hag, hq]
end
theorem ag34 (w : World) : (isAgg 34).run Try.prog w = .ok false w := by simp [isAgg, run_underlying Try.underlying34]
theorem ag4 (w : World) : (isAgg 4).run Try.prog w = .ok false w := by simp [isAgg, run_underlying Try.underlying4]
theorem ag33 (w : World) : (isAgg 33).run Try.prog w = .ok false w := by simp [isAgg, run_underlying Try.underlying33]
theorem ag47 (w : World) : (isAgg 47).run Try.prog w = .ok false w := by simp [isAgg, run_underlying Try.underlying47]
end Go.Proofs.Ytnafcbmpjjlhnaa
