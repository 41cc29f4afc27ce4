/- A region, whether it draws its order or not, whose operations read and whose callees lay blocks alone: walked once, in the order of the text, at the class of all worlds that are as W below W's end. -/
import Derived.Test.YtbflliiaigkmgaaT2
import Derived.Deep.Quiet
import Derived.Deep.Cut
import Derived.Deep.WholeRow
namespace Go.Proofs.Ytbflliiaigkmgaa
open Go.RowKit

section
variable {P : Program} {ops : Array Oper} {C : World → Prop} {Q : Act → Prop} {a : Act} {o : Oper} {rest : List Oper}

theorem wq_skip (hw : Region.wanted o (yielded ops a.tmps) = false) (h : wpQuiet P ops C Q rest (a.put o.dst undef)) : wpQuiet P ops C Q (o :: rest) a := by
  unfold wpQuiet; rw [if_neg (by rw [hw]; exact Bool.false_ne_true)]; exact h
theorem wq_val (v : Value) (hw : Region.wanted o (yielded ops a.tmps) = true) (hv : ∀ w, (execOp a.eval o).run P w = .ok (.value v) w) (h : wpQuiet P ops C Q rest (a.put o.dst v)) : wpQuiet P ops C Q (o :: rest) a := by
  unfold wpQuiet; rw [if_pos hw]
  exact ⟨v, fun w _ => by unfold Oper.quietAt; rw [hv w]; exact ⟨rfl, rfl⟩, h⟩
theorem wq_valC (v : Value) (hw : Region.wanted o (yielded ops a.tmps) = true) (hv : ∀ w, C w → (execOp a.eval o).run P w = .ok (.value v) w) (h : wpQuiet P ops C Q rest (a.put o.dst v)) : wpQuiet P ops C Q (o :: rest) a := by
  unfold wpQuiet; rw [if_pos hw]
  exact ⟨v, fun w hC => by unfold Oper.quietAt; rw [hv w hC]; exact ⟨rfl, rfl⟩, h⟩
theorem wq_call (f : FuncId) (args : Array Value) (v : Value) (hw : Region.wanted o (yielded ops a.tmps) = true) (hv : ∀ w, (execOp a.eval o).run P w = .ok (.enter f args) w)
    (hc : ∀ w, C w → Calls P f args w fun e w' => e = .returned v ∧ C w') (h : wpQuiet P ops C Q rest (a.put o.dst v)) : wpQuiet P ops C Q (o :: rest) a := by
  unfold wpQuiet; rw [if_pos hw]
  exact ⟨v, fun w hC => by unfold Oper.quietAt; rw [hv w]; exact ⟨rfl, hc w hC⟩, h⟩

theorem wpList_of_quiet {K : Exit → Act → World → Prop} : ∀ (l : List Oper) (a : Act) (w : World), C w → wpQuiet P ops C (fun a' => ∀ w', C w' → K .normal a' w') l a → wpList P ops K l a w
  | [], a, w, hw, h => h w hw
  | o :: l, a, w, hw, h => by
    unfold wpQuiet at h
    unfold wpList
    split
    · rename_i hwa
      rw [if_pos hwa] at h
      exact .inl (Oper.wp_of_quiet hw (fun a' w' hw' hk => wpList_of_quiet l a' w' hw' hk) h)
    · rename_i hwa
      rw [if_neg hwa] at h
      exact wpList_of_quiet l _ w hw h
/-- A region that keeps the text's order. -/
theorem wp_region_lexC {id : Nat} {K : Exit → Act → World → Prop} {w : World} {l : List Oper} (hC : C w) (h : wpQuiet P l.toArray C (fun a' => ∀ w', C w' → K .normal a' w') l a) : (Code.region id l.toArray false).wp P K a w :=
  wp_region_lit (wpList_of_quiet l a w hC h)
/-- A region that draws its order. -/
theorem wp_region_drawC {id : Nat} {K : Exit → Act → World → Prop} {w : World} {l : List Oper} (hm : P.follows .mixedOrders = true) (hB : Region.lexB .any l.toArray = true) (hC : C { w with drawn := w.drawn + 1 })
    (h : wpQuiet P l.toArray C (fun a' => ∀ w', C w' → K .normal a' w') l a) : (Code.region id l.toArray true).wp P K a w :=
  wp_region_quiet hm hB hC (by simpa using h)
end

theorem wp_region_lex_below {P : Program} {id : Nat} {K : Exit → Act → World → Prop} {a : Act} {w : World} {l : List Oper}
    (h : wpQuiet P l.toArray (fun w' => ∃ p : Regrown, w' = Sort.grow (redrawn w p.d) p.os) (fun a' => ∀ w', (∃ p : Regrown, w' = Sort.grow (redrawn w p.d) p.os) → K .normal a' w') l a) : (Code.region id l.toArray false).wp P K a w :=
  wp_region_lexC (C := fun w' => ∃ p : Regrown, w' = Sort.grow (redrawn w p.d) p.os) ⟨⟨w.drawn, #[]⟩, by rw [Sort.grow_empty]; rfl⟩ h

/-- A store of a whole row into the block that was laid last. -/
theorem st23n {ops : Array Oper} {rest : List Oper} {o : Oper} {a : Act} {w : World} {Q : Exit → Act → World → Prop} (hgd : o.guard = none) (x y : Operand) (ho : o.op = .store 23 x y)
    (l : List UInt8) (hx : a.eval x = .pointer (some ⟨w.heap.size, 0, none⟩)) (hy : a.eval y = .agg (bC l)) (hl : l.length = 12)
    (h : wpList Try.prog ops Q rest (a.put o.dst undef) (w.alloc (.cells (bC l) 23))) : wpList Try.prog ops Q (o :: rest) a (w.alloc (.cells (bC z12) 23)) :=
  st23 hgd x y ho w.heap.size l hx hy hl z12 (heap_alloc_new _ _) rfl (by rw [World.setRow_alloc_new]; exact h)

/-- A contract that lays blocks alone, at a world of the class. -/
theorem rg_call {W : World} {P : Program} {f : FuncId} {args : Array Value} {v : Value} (h : ∀ w, Calls P f args w fun e w' => e = .returned v ∧ Below w.heap.size w w') (d : Nat) (os : Array Obj) :
    Calls P f args (Sort.grow (redrawn W d) os) fun e w'' => e = .returned v ∧ ∃ p : Regrown, w'' = Sort.grow (redrawn W p.d) p.os := Calls.regrown_of (h _)
theorem rg_call0 {W : World} {P : Program} {f : FuncId} {args : Array Value} {v : Value} (h : ∀ w, Calls P f args w fun e w' => e = .returned v ∧ w = w') (d : Nat) (os : Array Obj) :
    Calls P f args (Sort.grow (redrawn W d) os) fun e w'' => e = .returned v ∧ ∃ p : Regrown, w'' = Sort.grow (redrawn W p.d) p.os :=
  Calls.regrown_of ((h _).mono fun _ _ ⟨he, hw⟩ => ⟨he, hw ▸ Below.refl _ _⟩)
theorem rg_block {W : World} {g : Nat} {o : Obj} (h : W.heap[g]? = some o) (d : Nat) (os : Array Obj) : (Sort.grow (redrawn W d) os).heap[g]? = some o := by
  rw [(below_regrown W d os).block g (by
      rcases Nat.lt_or_ge g W.heap.size with h' | h'
      · exact h'
      · simp [Array.getElem?_eq_none h'] at h)]
  exact h

section
variable {ops : Array Oper} {Q : Act → Prop} {a : Act} {o : Oper} {rest : List Oper}
theorem wq_load {W : World} (T : TypeId) (x : Operand) (g : Nat) (cs : Array Value) (t : TypeId) (fr : Nat × Nat) (d : TypeDesc) (hd : (match d with | .struct _ | .array _ _ => true | _ => false) = true) (hw : Region.wanted o (yielded ops a.tmps) = true) (ho : o.op = .load T x)
    (hx : a.eval x = .pointer (some ⟨g, 0, none⟩)) (hg : W.heap[g]? = some (.cells cs t fr))
    (hu : Try.prog.underlying T = some d) (hi : (Try.prog.info? T).map (·.size) = some cs.size)
    (h : wpQuiet Try.prog ops (fun w' => ∃ p : Regrown, w' = Sort.grow (redrawn W p.d) p.os) Q rest (a.put o.dst (.agg cs))) : wpQuiet Try.prog ops (fun w' => ∃ p : Regrown, w' = Sort.grow (redrawn W p.d) p.os) Q (o :: rest) a := by
  refine wq_valC (.agg cs) hw (fun w hC => ?_) h
  obtain ⟨⟨dq, osq⟩, rfl⟩ := hC
  have hg' := rg_block hg dq osq
  have hload : (loadVar T ⟨g, 0, none⟩).run Try.prog (Sort.grow (redrawn W dq) osq) = .ok (.agg cs) (Sort.grow (redrawn W dq) osq) := by
    refine run_loadVar_row _ g t T cs fr d hg' hu ?_ hi
    revert hd
    cases d <;> intro hd <;> first | rfl | exact hd
  unfold execOp
  simp only [ho, hx, Instr.loadAt, Instr.sureAddr, Sem.run_bind, Sem.run_pure, Result.andThen_ok, hload]
theorem wq_load23 {W : World} (x : Operand) (g : Nat) (l : List UInt8) (fr : Nat × Nat) (hw : Region.wanted o (yielded ops a.tmps) = true) (ho : o.op = .load 23 x)
    (hx : a.eval x = .pointer (some ⟨g, 0, none⟩)) (hg : W.heap[g]? = some (.cells (bC l) 23 fr)) (hl : l.length = 12)
    (h : wpQuiet Try.prog ops (fun w' => ∃ p : Regrown, w' = Sort.grow (redrawn W p.d) p.os) Q rest (a.put o.dst (.agg (bC l)))) : wpQuiet Try.prog ops (fun w' => ∃ p : Regrown, w' = Sort.grow (redrawn W p.d) p.os) Q (o :: rest) a :=
  wq_load 23 x g (bC l) 23 fr _ rfl hw ho hx hg Try.underlying23 (by rw [info23, bC_size, hl]) h
theorem wq_load22 {W : World} (x : Operand) (g : Nat) (l : List UInt8) (fr : Nat × Nat) (hw : Region.wanted o (yielded ops a.tmps) = true) (ho : o.op = .load 22 x)
    (hx : a.eval x = .pointer (some ⟨g, 0, none⟩)) (hg : W.heap[g]? = some (.cells (bC l) 22 fr)) (hl : l.length = 12)
    (h : wpQuiet Try.prog ops (fun w' => ∃ p : Regrown, w' = Sort.grow (redrawn W p.d) p.os) Q rest (a.put o.dst (.agg (bC l)))) : wpQuiet Try.prog ops (fun w' => ∃ p : Regrown, w' = Sort.grow (redrawn W p.d) p.os) Q (o :: rest) a :=
  wq_load 22 x g (bC l) 22 fr _ rfl hw ho hx hg Try.underlying22 (by rw [info22, bC_size, hl]) h
end

end Go.Proofs.Ytbflliiaigkmgaa
