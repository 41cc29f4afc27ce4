/- A region that draws, walked operation by operation. -/
import Derived.Test.YtmbbhnbfgcmkgaaDoorKN
import Derived.Deep.RegionHeld
namespace Go.Proofs.YtmbbhnbfgcmkgaaDoor
open Go.RowKit
theorem takeD {P : Program} {md : Region.Mode} {ops : Array Oper} {Q : Exit → Act → World → Prop} {S : World → Prop} {i : Nat} {oi : Oper} {v : Value} {fuel : Nat} {listed : Array Bool} {a : Act} {w : World} (d : Nat) (hi : ops[i]? = some oi) (hd : oi.dst = some d)
    (hs : Region.noSelect ops = true) (hf : Region.free md ops listed i = true) (hr : (Region.ready md ops listed).contains i = true)
    (hQ : ∀ c a w, Q (.panic c) (a.put (some d) v) w → Q (.panic c) a w) (hy : YieldsIf P ops S oi v a) (hS : S w)
    (h : wpAnyH P md ops Q S fuel (listed.setIfInBounds i true) (a.put (some d) v) w) : wpAnyH P md ops Q S (fuel + 1) listed a w :=
  wpAnyH_take hi hs hf hr (by rw [hd]; exact hQ) hy hS (by rw [hd]; exact h)
theorem stG {P : Program} {ops : Array Oper} {o : Oper} {a : Act} {w : World} {K : Act → World → Prop} {Q : Exit → Act → World → Prop} {E : Prop} (hg : Region.wanted o (yielded ops a.tmps) = true) (h : o.wp P a w K Q) : if Region.wanted o (yielded ops a.tmps) = true then o.wp P a w K Q else E := by
  rw [if_pos hg]; exact h
section
variable {o : Oper} {a : Act} {w : World}
theorem y_ix (T E : TypeId) (x y : Operand) (ho : o.op = .indexAddr T x y) (hT : Tryd.prog.underlying T = some (.slice E)) (k : Nat) (hE : (Tryd.prog.info? E).map (·.size) = some k) (b f : Nat) (n c j : Nat)
    (hx : a.eval x = .slice (some ⟨b, f, none⟩) n c) (hy : a.eval y = .int .i64 (j : Int)) (hj : j < n) : (execOp a.eval o).run Tryd.prog w = .ok (.value (.pointer (some ⟨b, f + j * k, none⟩))) w := by
  cases hq : Tryd.prog.info? E with
  | none => simp [hq] at hE
  | some i =>
    have hs : i.size = k := by simpa [hq] using hE
    unfold execOp
    simp only [ho, hx, hy]
    simp [go_sem, hT, sizeOf, typeInfo, hq, hs, hj]
theorem y_A4 (x : Operand) (ho : o.op = .load 36 x) (b f : Nat) (y : A4) (hx : a.eval x = .pointer (some ⟨b, f, none⟩)) (hc : w.rangeAt b f (a4C y)) : (execOp a.eval o).run Tryd.prog w = .ok (.value (.agg (a4C y).toArray)) w :=
  exec_ldr _ x ho b f (a4C y) _ Tryd.underlying36 rfl sizA4 hx hc
theorem y_fld (x : Operand) (ho : o.op = .fieldAddr 36 x 3) (b f : Nat) (hx : a.eval x = .pointer (some ⟨b, f, none⟩)) : (execOp a.eval o).run Tryd.prog w = .ok (.value (.pointer (some ⟨b, f + 3, none⟩))) w := by
  unfold execOp
  simp only [ho, hx]
  simp [go_sem]
theorem y_ldS (x : Operand) (ho : o.op = .load 34 x) (b f : Nat) (v : Value) (hx : a.eval x = .pointer (some ⟨b, f, none⟩)) (hc : w.cell? ⟨b, f, none⟩ = some v) : (execOp a.eval o).run Tryd.prog w = .ok (.value v) w := by
  unfold execOp
  simp only [ho, hx]
  simp [go_sem, hc]
theorem y_cv (x : Operand) (ho : o.op = .convert 34 9 x) (q : Option Addr) (cap : Nat) (l : List UInt8) (hx : a.eval x = .slice q l.length cap) (h : SlAt enc1 1 w q l) : (execOp a.eval o).run Tryd.prog w = .ok (.value (.string ⟨l.toArray⟩)) w := by
  have := conv_any w q cap l h
  unfold execOp
  simp only [ho, hx, Sem.run_bind, this, Result.andThen_ok, Sem.run_pure]
theorem y_neD (x y : Operand) (ho : o.op = .binOp .neq 32 x y 32) (t u : D4) (hx : a.eval x = .agg (d4C t).toArray) (hy : a.eval y = .agg (d4C u).toArray) : (execOp a.eval o).run Tryd.prog w = .ok (.value (.bool (!decide (t = u)))) w := by
  have := neqD w t u
  have hgd : (eqGuard .neq 32 x y (.agg (d4C t).toArray) (.agg (d4C u).toArray)).run Tryd.prog w = .ok () w := run_eqGuard_agg w .neq 32 x y _ _ (by kernel_rfl)
  unfold execOp
  simp [ho, hx, hy, this, hgd]
theorem y_neS (x y : Operand) (ho : o.op = .binOp .neq 9 x y 9) (t u : List UInt8) (hx : a.eval x = .string ⟨t.toArray⟩) (hy : a.eval y = .string ⟨u.toArray⟩) : (execOp a.eval o).run Tryd.prog w = .ok (.value (.bool (!decide (t = u)))) w := by
  have h : (t == u) = decide (t = u) := by rw [Bool.eq_iff_iff]; simp
  unfold execOp
  simp only [ho, hx, hy]
  simp [go_sem]
  exact h
theorem y_neDf (x y : Operand) (ho : o.op = .binOp .neq 32 x y 32) (t : D4) (hx : a.eval x = .agg (d4C t).toArray) (hy : a.eval y = .agg (d4C t).toArray) : (execOp a.eval o).run Tryd.prog w = .ok (.value (.bool false)) w := by
  have := y_neD (w := w) x y ho t t hx hy
  rwa [decide_eq_true (show t = t from rfl)] at this
theorem y_neSf (x y : Operand) (ho : o.op = .binOp .neq 9 x y 9) (t : List UInt8) (hx : a.eval x = .string ⟨t.toArray⟩) (hy : a.eval y = .string ⟨t.toArray⟩) : (execOp a.eval o).run Tryd.prog w = .ok (.value (.bool false)) w := by
  have := y_neS (w := w) x y ho t t hx hy
  rwa [decide_eq_true (show t = t from rfl)] at this
end
end Go.Proofs.YtmbbhnbfgcmkgaaDoor
