/- Laws of rows of cells inside a fence (a loop over an iterator; a round of it). -/
import Derived.Test.YtagdedjclbmlkaaG1
import Derived.Test.YtagdedjclbmlkaaG4
import Derived.RangeFuncNested
import Derived.RangeFuncBound
import Derived.RangeFuncCalls
import Derived.RangeFuncLeaves
import Derived.RangeFuncWrites
import Derived.RangeFuncBox
import Derived.OwnWalkIn
import Derived.TacticsInMore
import Derived.LoopNIn
import Derived.LoopIn
import Derived.Maps.AppendAt
import Derived.Sort.LoopGhostIn
namespace Go.Proofs.Ytagdedjclbmlkaa
open Go.RowKit

section
variable {F : Fence} {n : Nat} {P : Program} {ops : Array Oper} {rest : List Oper} {o : Oper} {a : Act} {w : World} {Q : Exit → Act → World → Prop}
theorem in_val (hg : o.guard = none) (hnc : ∀ c, o.op ≠ .call c) (hnd : ∀ c, o.op ≠ .defer c) (v : Value) (w' : World) (hrun : (execOp a.eval o).run P w = .ok (.value v) w')
    (h : wpListIn F n P ops Q rest (a.put o.dst v) w') : wpListIn F n P ops Q (o :: rest) a w := by
  refine wpListIn_plain hg fun K hK => ?_
  unfold Oper.wpIn
  refine ⟨?_, ?_⟩
  · unfold Oper.about
    split
    · rename_i c hc; exact absurd hc (hnc c)
    · intro f hf; cases hf
  · rw [Oper.semAt_plain F _ _ hnd, hrun, Oper.uponIn_value]
    exact hK _ _ h
theorem in_skip (hg : o.guard = none) (hnc : ∀ c, o.op ≠ .call c) (hnd : ∀ c, o.op ≠ .defer c) (w' : World) (hrun : (execOp a.eval o).run P w = .ok .skip w')
    (h : wpListIn F n P ops Q rest (a.put o.dst undef) w') : wpListIn F n P ops Q (o :: rest) a w := by
  refine wpListIn_plain hg fun K hK => ?_
  unfold Oper.wpIn
  refine ⟨?_, ?_⟩
  · unfold Oper.about
    split
    · rename_i c hc; exact absurd hc (hnc c)
    · intro f hf; cases hf
  · rw [Oper.semAt_plain F _ _ hnd, hrun, Oper.uponIn_skip]
    exact hK _ _ h
/-- A load of a row. -/
theorem inl_ldr (hg : o.guard = none) (T : TypeId) (x : Operand) (ho : o.op = .load T x)
    (b i : Nat) (cs : List Value) (d : TypeDesc) (hu : P.underlying T = some d) (hd : d.isRow = true) (hi : (P.info? T).map (·.size) = some cs.length) (hx : a.eval x = .pointer (some ⟨b, i, none⟩)) (hc : w.rangeAt b i cs)
    (h : wpListIn F n P ops Q rest (a.put o.dst (.agg cs.toArray)) w) : wpListIn F n P ops Q (o :: rest) a w := by
  refine in_val hg (by rw [ho]; intro c hc; cases hc) (by rw [ho]; intro c hc; cases hc) (.agg cs.toArray) w ?_ h
  have := run_loadAt_mid (P := P) _ b i T cs d hc hu hd hi
  unfold execOp
  simp only [ho, hx, Sem.run_bind, this, Result.andThen_ok, Sem.run_pure]
/-- A store of a whole row. -/
theorem inl_str (hg : o.guard = none) (T : TypeId) (x y : Operand) (ho : o.op = .store T x y) (g : Nat) (cs old : Array Value) (T' : TypeId)
    (hi : (P.info? T).map (·.size) = some cs.size) (hs : cs.size = old.size) (h1 : cs.all (·.oneCell') = true) (hx : a.eval x = .pointer (some ⟨g, 0, none⟩)) (hy : a.eval y = .agg cs) (hgh : w.heap[g]? = some (.cells old T'))
    (h : wpListIn F n P ops Q rest (a.put o.dst undef) (w.setRow g cs)) : wpListIn F n P ops Q (o :: rest) a w := by
  refine in_skip hg (by rw [ho]; intro c hc; cases hc) (by rw [ho]; intro c hc; cases hc) (w.setRow g cs) ?_ h
  unfold execOp
  simp only [ho, hx, hy, Instr.storeAt, Instr.sureAddr, Sem.run_bind, Sem.run_pure, Result.andThen_ok, run_storeVar_row w g T' T old cs hgh hi hs.symm h1]
theorem inl_strn (hg : o.guard = none) (T : TypeId) (x y : Operand) (ho : o.op = .store T x y) (cs old : Array Value) (T' : TypeId)
    (hi : (P.info? T).map (·.size) = some cs.size) (hs : cs.size = old.size) (h1 : cs.all (·.oneCell') = true) (hx : a.eval x = .pointer (some ⟨w.heap.size, 0, none⟩)) (hy : a.eval y = .agg cs)
    (h : wpListIn F n P ops Q rest (a.put o.dst undef) (w.alloc (.cells cs T'))) : wpListIn F n P ops Q (o :: rest) a (w.alloc (.cells old T')) :=
  inl_str hg T x y ho w.heap.size cs old T' hi hs h1 hx hy (heap_alloc_new _ _) (by rw [World.setRow_alloc_new]; exact h)
/-- []E{y}, y a row of k cells. -/
theorem inl_bs1 {α : Type} {enc : α → List Value} {k : Nat} (T E : TypeId) (bytes : Nat) (z : Value) (hT : P.underlying T = some (.slice E)) (hinf : (P.info? E).map (fun i => (i.zero, i.size, i.bytes)) = some (some z, k, bytes)) (hk0 : 0 < k) (hk2 : k ≤ 1000000) (hk : ∀ x, (enc x).length = k)
    (hg : o.guard = none) (x : Operand) (ho : o.op = .buildSlice T 1 #[(0, x)]) (y : α) (hx : a.eval x = .agg (enc y).toArray)
    (h : wpListIn F n P ops Q rest (a.put o.dst (.slice (some ⟨w.heap.size, 0, none⟩) 1 1)) (w.alloc (.cells (enc y).toArray E))) : wpListIn F n P ops Q (o :: rest) a w := by
  refine in_val hg (by rw [ho]; intro c hc; cases hc) (by rw [ho]; intro c hc; cases hc) _ _ ?_ h
  obtain ⟨ie, hie, hz, hsz, hby⟩ := info_parts hinf
  have hb := run_buildSlice (P := P) w T E 1 #[(0, .agg (enc y).toArray)] (enc y).toArray ie z hT hie hz (by rw [hsz]; omega) (by rw [hsz]; omega) (by
    rw [hsz]
    have := Great.fill_whole (s := k) hk0 [.agg (enc y).toArray] ((Array.range (1 * k)).map (z.cells[· % z.cells.size]!)) (fun v hv => by
      simp at hv; subst hv
      show (enc y).toArray.size = k
      simp [hk]) (by simp)
    simp only [List.zipIdx_cons, List.zipIdx_nil, List.map_cons, List.map_nil] at this
    rw [this]
    simp [Value.cells])
  unfold execOp
  have hp : (#[(0, x)].map fun (p : Nat × Operand) => (p.1, a.eval p.2)) = #[(0, Value.agg (enc y).toArray)] := by simp [hx]
  simp only [ho, Sem.run_bind, hp, hb, Result.andThen_ok, Sem.run_pure]
/-- append(s, y): y in a row of its own. -/
theorem inl_app1 {α : Type} {enc : α → List Value} {k : Nat} (T E : TypeId) (bytes : Nat) (z : Value) (hT : P.underlying T = some (.slice E)) (hinf : (P.info? E).map (fun i => (i.zero, i.size, i.bytes)) = some (some z, k, bytes)) (hzk : z.cells.size = k) (hk0 : 0 < k) (hk : ∀ x, (enc x).length = k) (h1 : ∀ x, ∀ u ∈ enc x, u.oneCell' = true)
    (hgd : o.guard = none) (s x : Operand) (ho : o.op = .call { callee := .builtin .append, args := #[s, x], argTypes := #[T, T] })
    (base : Nat) (v : Value) (xs : List α) (hs : a.eval s = v) (hown : OwnE enc E k w base v xs) (b c : Nat) (y : α) (hx : a.eval x = .slice (some ⟨b, 0, none⟩) 1 c)
    (hr : w.rangeAt b 0 (enc y)) (hlen : (xs.length + 1) * bytes ≤ 140737488355328) (hm : xs.length + 1 ≤ maxLen) (hbase : base ≤ w.heap.size)
    (h : ∀ v' w', OwnE enc E k w' base v' (xs ++ [y]) → w.grownBy w' v.ownBlock → wpListIn F n P ops Q rest (a.put o.dst v') w') : wpListIn F n P ops Q (o :: rest) a w := by
  obtain ⟨i, hi, hz, hsz, hby⟩ := info_parts hinf
  refine wpListIn_append_own w hgd s x T ho base E i z k bytes hT hi hz hsz hby hzk hk0 v xs.length (xs.flatMap enc) hs hown ⟨b, 0, none⟩ 1 c (enc y) hx (by rw [hk, Nat.one_mul]) ?_ (h1 y) hm hlen hbase ?_
  · intro j u hu
    rw [Addr.add_mid]
    exact hr j u hu
  · intro v' w' h1 h2 _
    refine h v' w' ?_ h2
    have e : (xs ++ [y]).flatMap enc = xs.flatMap enc ++ enc y := by simp
    unfold OwnE
    rw [e, List.length_append]
    exact h1
end
theorem grown_of_below {w w' : World} (h : Below w.heap.size w w') : w.grownBy w' none := ⟨h.os, h.tape, h.output, h.size, fun k hk _ => h.block k hk⟩
end Go.Proofs.Ytagdedjclbmlkaa
