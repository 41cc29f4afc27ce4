/- TagBytes: the walk. -/
import Derived.Test.YtnambaiafailaaaDoorPB5
namespace Go.Proofs.YtnambaiafailaaaDoor
open Go.RowKit

theorem kp {k : Nat} {X : Obj} {W W' : World} (h : Hid (W.heap[k]? = some X)) (hb : Below W.heap.size W W') : Hid (W'.heap[k]? = some X) := (hb.block k (lt_heap h.out)).trans h.out
theorem bt {w W W' : World} (h : Hid (Below w.heap.size w W)) (hb : Below W.heap.size W W') : Hid (Below w.heap.size w W') := h.out.trans (hb.mono h.out.size)
theorem bel_st (W : World) (o : Obj) (cs : Array Value) : Below W.heap.size W ((W.alloc o).setRow W.heap.size cs) := setRow_below (below_alloc1 _ _) (Nat.le_refl _) _
theorem ks {α : Type} {enc : α → List Value} {k : Nat} {q : Option Addr} {xs : List α} {W W' : World} (h : Hid (SlAt enc k W q xs)) (hb : Below W.heap.size W W') : Hid (SlAt enc k W' q xs) := h.out.below hb
theorem at2 {P : Program} {f : FuncId} {args : Array Value} {v : Value} {w W0 : World} (K : Hid (∀ W, Below w.heap.size w W → Calls P f args W fun e w' => e = .returned v ∧ Below W.heap.size W w')) (HB : Hid (Below w.heap.size w W0)) :
    ∀ W, Below W0.heap.size W0 W → Calls P f args W fun e w' => e = .returned v ∧ Below W.heap.size W w' := fun W hW => K.out W (HB.out.trans (hW.mono HB.out.size))
theorem neqSS (x : ByteArray) (W : World) : (binOp .neq 9 (.string x) (.string x)).run Tryd.prog W = .ok (.bool false) W := by
  have h : (x.toList == x.toList) = true := by simp
  go_simp
theorem infoA : (Tryd.prog.info? 39).map (·.size) = some 10 := by kernel_rfl
section
variable {ops : Array Oper} {rest : List Oper} {o : Oper} {a : Act} {w : World} {Q : Exit → Act → World → Prop}
theorem ld_A (hw : Region.wanted o (yielded ops a.tmps) = true) (x : Operand) (ho : o.op = .load 39 x) (g : Nat) (l : List UInt8) (hl : l.length = 10) (hx : a.eval x = .pointer (some ⟨g, 0, none⟩)) (hg : w.heap[g]? = some (.cells (bC l) 39 (0, 0)))
    (h : wpList Tryd.prog ops Q rest (a.put o.dst (.agg (bC l))) w) : wpList Tryd.prog ops Q (o :: rest) a w :=
  wl_ldr hw _ x ho g 0 (bC l).toList _ Tryd.underlying39 rfl (by rw [infoA]; simp [bC, hl]) hx (range_whole (by simpa using hg)) (by simpa using h)
end
section
variable {W : World} {ops : Array Oper} {Q : Act → Prop} {a : Act} {o : Oper} {rest : List Oper}
theorem wq_A (hw : Region.wanted o (yielded ops a.tmps) = true) (x : Operand) (ho : o.op = .load 39 x) (g : Nat) (l : List UInt8) (hl : l.length = 10)
    (hx : a.eval x = .pointer (some ⟨g, 0, none⟩)) (hg : W.heap[g]? = some (.cells (bC l) 39 (0, 0)))
    (h : wpQuiet Tryd.prog ops (fun w' => ∃ p : Regrown, w' = Sort.grow (redrawn W p.d) p.os) Q rest (a.put o.dst (.agg (bC l)))) : wpQuiet Tryd.prog ops (fun w' => ∃ p : Regrown, w' = Sort.grow (redrawn W p.d) p.os) Q (o :: rest) a :=
  wq_ldr hw _ x ho g 0 (bC l).toList _ Tryd.underlying39 rfl (by rw [infoA]; simp [bC, hl]) hx (range_whole (by simpa using hg)) (lt_heap hg) (by simpa using h)
/-- s[i], of rows: the element's address. -/
theorem wq_ix (C : World → Prop) (hw : Region.wanted o (yielded ops a.tmps) = true) (T E : TypeId) (x y : Operand) (ho : o.op = .indexAddr T x y) (hT : Tryd.prog.underlying T = some (.slice E)) (k : Nat) (hE : (Tryd.prog.info? E).map (·.size) = some k) (b f : Nat) (n c j : Nat) (hx : a.eval x = .slice (some ⟨b, f, none⟩) n c) (hy : a.eval y = .int .i64 (j : Int)) (hj : j < n)
    (h : wpQuiet Tryd.prog ops C Q rest (a.put o.dst (.pointer (some ⟨b, f + j * k, none⟩)))) : wpQuiet Tryd.prog ops C Q (o :: rest) a := by
  refine wq_val (.pointer (some ⟨b, f + j * k, none⟩)) hw (fun w => ?_) h
  cases hq : Tryd.prog.info? E with
  | none => simp [hq] at hE
  | some i =>
    have hs : i.size = k := by simpa [hq] using hE
    have h1 : ¬ ((j : Int) < 0) := by omega
    have h2 : ¬ ((n : Int) ≤ j) := by omega
    unfold execOp
    simp only [ho, hx, hy]
    simp [go_sem, hT, sizeOf, typeInfo, hq, hs, h1, h2, hj]
theorem wq_e3 (hw : Region.wanted o (yielded ops a.tmps) = true) (x : Operand) (ho : o.op = .load 23 x) (b f : Nat) (u : T3) (hx : a.eval x = .pointer (some ⟨b, f, none⟩)) (hc : W.rangeAt b f (e3 u)) (hb : b < W.heap.size)
    (h : wpQuiet Tryd.prog ops (fun w' => ∃ p : Regrown, w' = Sort.grow (redrawn W p.d) p.os) Q rest (a.put o.dst (.agg (tC u)))) : wpQuiet Tryd.prog ops (fun w' => ∃ p : Regrown, w' = Sort.grow (redrawn W p.d) p.os) Q (o :: rest) a :=
  wq_ldr hw _ x ho b f (e3 u) _ Tryd.underlying23 rfl (by rw [siz23]; rfl) hx hc hb (by simpa [e3] using h)
theorem wq_eB (hw : Region.wanted o (yielded ops a.tmps) = true) (x : Operand) (ho : o.op = .load 29 x) (b f : Nat) (y : B10) (l : List UInt8) (he : y.1 = l) (hx : a.eval x = .pointer (some ⟨b, f, none⟩)) (hc : W.rangeAt b f (encB y)) (hb : b < W.heap.size)
    (h : wpQuiet Tryd.prog ops (fun w' => ∃ p : Regrown, w' = Sort.grow (redrawn W p.d) p.os) Q rest (a.put o.dst (.agg (bC l)))) : wpQuiet Tryd.prog ops (fun w' => ∃ p : Regrown, w' = Sort.grow (redrawn W p.d) p.os) Q (o :: rest) a :=
  wq_ldr hw _ x ho b f (encB y) _ Tryd.underlying29 rfl (by rw [sizTag, encB_len]) hx hc hb (by subst he; simpa [encB] using h)
end
end Go.Proofs.YtnambaiafailaaaDoor
