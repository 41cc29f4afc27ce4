/- TagChains: laws for its walk. -/
import Derived.Test.YtnambaiafailaaaDoorPC5
namespace Go.Proofs.YtnambaiafailaaaDoor
open Go.RowKit

section
variable {ops : Array Oper} {rest : List Oper} {o : Oper} {a : Act} {w : World} {Q : Exit → Act → World → Prop}
theorem wl_ix (hw : Region.wanted o (yielded ops a.tmps) = true) (T E : TypeId) (x y : Operand) (ho : o.op = .indexAddr T x y) (hT : Tryd.prog.underlying T = some (.slice E)) (k : Nat) (hE : (Tryd.prog.info? E).map (·.size) = some k) (b f : Nat) (n c j : Nat) (hx : a.eval x = .slice (some ⟨b, f, none⟩) n c) (hy : a.eval y = .int .i64 (j : Int)) (hj : j < n)
    (h : wpList Tryd.prog ops Q rest (a.put o.dst (.pointer (some ⟨b, f + j * k, none⟩))) w) : wpList Tryd.prog ops Q (o :: rest) a w :=
  wpList_step fun _ hK => by
    rw [if_pos hw]
    have : (execOp a.eval o).run Tryd.prog w = .ok (.value (.pointer (some ⟨b, f + j * k, none⟩))) w := by
      cases hq : Tryd.prog.info? E with
      | none => simp [hq] at hE
      | some i =>
        have hs : i.size = k := by simpa [hq] using hE
        have h1 : ¬ ((j : Int) < 0) := by omega
        have h2 : ¬ ((n : Int) ≤ j) := by omega
        unfold execOp
        simp only [ho, hx, hy]
        simp [go_sem, hT, sizeOf, typeInfo, hq, hs, h1, h2, hj]
    unfold Oper.wp
    rw [this]
    exact hK _ _ h
theorem wl_eB (hw : Region.wanted o (yielded ops a.tmps) = true) (x : Operand) (ho : o.op = .load 29 x) (b f : Nat) (y : B10) (hx : a.eval x = .pointer (some ⟨b, f, none⟩)) (hc : w.rangeAt b f (encB y))
    (h : wpList Tryd.prog ops Q rest (a.put o.dst (.agg (bC y.1))) w) : wpList Tryd.prog ops Q (o :: rest) a w :=
  wl_ldr hw _ x ho b f (encB y) _ Tryd.underlying29 rfl (by rw [sizTag, encB_len]) hx hc (by simpa [encB] using h)
end
/-- Cells that lie in a row. -/
structure InRow (W : World) (b f : Nat) (cs : List Value) : Prop where
  lt : b < W.heap.size
  row : W.rangeAt b f cs
theorem kr {b f : Nat} {cs : List Value} {W W' : World} (h : Hid (InRow W b f cs)) (hb : Below W.heap.size W W') : Hid (InRow W' b f cs) := ⟨Nat.lt_of_lt_of_le h.out.1 hb.size, range_of_block h.out.2 (hb.block b h.out.1)⟩
end Go.Proofs.YtnambaiafailaaaDoor
