/- A region, whether it draws its order or not, whose operations read and whose callees lay blocks alone: walked once, in the order of the text, at the class of all worlds that are as W below W's end. -/
import Derived.Test.YtpnmficlebnajaaT2
import Derived.Deep.Quiet
import Derived.Deep.Cut
import Derived.Deep.WholeRow
namespace Go.Proofs.Ytpnmficlebnajaa
open Go.RowKit

/-- A store of a whole row into the block that was laid last. -/
theorem st23n {ops : Array Oper} {rest : List Oper} {o : Oper} {a : Act} {w : World} {Q : Exit → Act → World → Prop} (hgd : o.guard = none) (x y : Operand) (ho : o.op = .store 40 x y)
    (l : List UInt8) (hx : a.eval x = .pointer (some ⟨w.heap.size, 0, none⟩)) (hy : a.eval y = .agg (bC l)) (hl : l.length = 12)
    (h : wpList Try.prog ops Q rest (a.put o.dst undef) (w.alloc (.cells (bC l) 40))) : wpList Try.prog ops Q (o :: rest) a (w.alloc (.cells (bC z12) 40)) :=
  st23 hgd x y ho w.heap.size l hx hy hl z12 (heap_alloc_new _ _) rfl (by rw [World.setRow_alloc_new]; exact h)


section
variable {ops : Array Oper} {Q : Act → Prop} {a : Act} {o : Oper} {rest : List Oper}
theorem wq_load {W : World} (T : TypeId) (x : Operand) (g : Nat) (cs : Array Value) (t : TypeId) (fr : Nat × Nat) (d : TypeDesc) (hd : (match d with | .struct _ | .array _ _ => true | _ => false) = true) (hw : Region.wanted o (yielded ops a.tmps) = true) (ho : o.op = .load T x)
    (hx : a.eval x = .pointer (some ⟨g, 0, none⟩)) (hg : W.heap[g]? = some (.cells cs t fr))
    (hu : Try.prog.underlying T = some d) (hi : (Try.prog.info? T).map (·.size) = some cs.size)
    (h : wpQuiet Try.prog ops (fun w' => ∃ p : Regrown, w' = Sort.grow (redrawn W p.d) p.os) Q rest (a.put o.dst (.agg cs))) : wpQuiet Try.prog ops (fun w' => ∃ p : Regrown, w' = Sort.grow (redrawn W p.d) p.os) Q (o :: rest) a := by
  refine wq_valC (.agg cs) hw (fun w hC => ?_) h
  obtain ⟨⟨dq, osq⟩, rfl⟩ := hC
  have hg' := rg_block hg dq osq
  have hload : (loadVar T ⟨g, 0, none⟩).run Try.prog (Sort.grow (redrawn W dq) osq) = .ok (.agg cs) (Sort.grow (redrawn W dq) osq) := by
    refine run_loadVar_row _ g t T cs fr d hg' hu ?_ hi
    revert hd
    cases d <;> intro hd <;> first | rfl | exact hd
  unfold execOp
  simp only [ho, hx, Instr.loadAt, Instr.sureAddr, Sem.run_bind, Sem.run_pure, Result.andThen_ok, hload]
theorem wq_load23 {W : World} (x : Operand) (g : Nat) (l : List UInt8) (fr : Nat × Nat) (hw : Region.wanted o (yielded ops a.tmps) = true) (ho : o.op = .load 40 x)
    (hx : a.eval x = .pointer (some ⟨g, 0, none⟩)) (hg : W.heap[g]? = some (.cells (bC l) 40 fr)) (hl : l.length = 12)
    (h : wpQuiet Try.prog ops (fun w' => ∃ p : Regrown, w' = Sort.grow (redrawn W p.d) p.os) Q rest (a.put o.dst (.agg (bC l)))) : wpQuiet Try.prog ops (fun w' => ∃ p : Regrown, w' = Sort.grow (redrawn W p.d) p.os) Q (o :: rest) a :=
  wq_load 40 x g (bC l) 40 fr _ rfl hw ho hx hg Try.underlying40 (by rw [info23, bC_size, hl]) h
theorem wq_load22 {W : World} (x : Operand) (g : Nat) (l : List UInt8) (fr : Nat × Nat) (hw : Region.wanted o (yielded ops a.tmps) = true) (ho : o.op = .load 39 x)
    (hx : a.eval x = .pointer (some ⟨g, 0, none⟩)) (hg : W.heap[g]? = some (.cells (bC l) 39 fr)) (hl : l.length = 12)
    (h : wpQuiet Try.prog ops (fun w' => ∃ p : Regrown, w' = Sort.grow (redrawn W p.d) p.os) Q rest (a.put o.dst (.agg (bC l)))) : wpQuiet Try.prog ops (fun w' => ∃ p : Regrown, w' = Sort.grow (redrawn W p.d) p.os) Q (o :: rest) a :=
  wq_load 39 x g (bC l) 39 fr _ rfl hw ho hx hg Try.underlying39 (by rw [info22, bC_size, hl]) h
end

end Go.Proofs.Ytpnmficlebnajaa
