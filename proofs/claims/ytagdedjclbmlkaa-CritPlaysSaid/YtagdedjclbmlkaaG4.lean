/- Results that lie in memory: the first one a row of cells. -/
import Derived.Test.YtagdedjclbmlkaaG1
namespace Go.Proofs.Ytagdedjclbmlkaa
open Go.RowKit

theorem res_rowc_tmp {P : Program} {fn : Func} {p t : Tmp} {T T' : TypeId} {d : TypeDesc} (h : fn.results = #[.cell p T, .tmp t]) (tmps : Array Value) (w : World) (g : Nat) (cs : Array Value) (fr : Nat × Nat)
    (hp : tmps.getD p undef = .pointer (some ⟨g, 0, none⟩)) (hg : w.heap[g]? = some (.cells cs T' fr)) (hu : P.underlying T = some d) (hd : (match d with | .struct _ | .array _ _ => true | _ => false) = true) (hi : (P.info? T).map (·.size) = some cs.size) :
    (results fn tmps).run P w = .ok (.tuple #[.agg cs, tmps.getD t undef]) w := by
  have hp' : tmps[p]?.getD undef = .pointer (some ⟨g, 0, none⟩) := by simpa using hp
  have hload : (loadVar T ⟨g, 0, none⟩).run P w = .ok (.agg cs) w := by
    refine run_loadVar_row _ g T' T cs fr d hg hu ?_ hi
    revert hd
    cases d <;> intro hd <;> first | rfl | exact hd
  simp [results, h, hp', asAddr, hload]
theorem res_rowc {P : Program} {fn : Func} {p : Tmp} {T T' : TypeId} {d : TypeDesc} (h : fn.results = #[.cell p T]) (tmps : Array Value) (w : World) (g : Nat) (cs : Array Value) (fr : Nat × Nat)
    (hp : tmps.getD p undef = .pointer (some ⟨g, 0, none⟩)) (hg : w.heap[g]? = some (.cells cs T' fr)) (hu : P.underlying T = some d) (hd : (match d with | .struct _ | .array _ _ => true | _ => false) = true) (hi : (P.info? T).map (·.size) = some cs.size) :
    (results fn tmps).run P w = .ok (.agg cs) w := by
  have hp' : tmps[p]?.getD undef = .pointer (some ⟨g, 0, none⟩) := by simpa using hp
  have hload : (loadVar T ⟨g, 0, none⟩).run P w = .ok (.agg cs) w := by
    refine run_loadVar_row _ g T' T cs fr d hg hu ?_ hi
    revert hd
    cases d <;> intro hd <;> first | rfl | exact hd
  simp [results, h, hp', asAddr, hload]
/-- Gates: an arm behind one is tried at its own operation alone. -/
theorem gate_st {P : Program} {ops : Array Oper} {rest : List Oper} {o : Oper} {a : Act} {w : World} {Q : Exit → Act → World → Prop} (T : TypeId) (x y : Operand) (_ : o.op = .store T x y) (h : wpList P ops Q (o :: rest) a w) : wpList P ops Q (o :: rest) a w := h
theorem gate_ld {P : Program} {ops : Array Oper} {rest : List Oper} {o : Oper} {a : Act} {w : World} {Q : Exit → Act → World → Prop} (T : TypeId) (x : Operand) (_ : o.op = .load T x) (h : wpList P ops Q (o :: rest) a w) : wpList P ops Q (o :: rest) a w := h
theorem gate_bd {P : Program} {ops : Array Oper} {rest : List Oper} {o : Oper} {a : Act} {w : World} {Q : Exit → Act → World → Prop} (T : TypeId) (xs : Array (Nat × Operand)) (_ : o.op = .build T xs) (h : wpList P ops Q (o :: rest) a w) : wpList P ops Q (o :: rest) a w := h
/-- A struct out of its parts. -/
theorem wl_bd {P : Program} {ops : Array Oper} {rest : List Oper} {o : Oper} {a : Act} {w : World} {Q : Exit → Act → World → Prop} (hg : o.guard = none) (t : TypeId) (parts : List (Nat × Operand)) (ho : o.op = .build t parts.toArray)
    (vs : List (Nat × Value)) (hv : parts.map (fun p => (p.1, a.eval p.2)) = vs) (cells : Array Value) (hf : P.built t vs = some cells)
    (h : wpList P ops Q rest (a.put o.dst (.agg cells)) w) : wpList P ops Q (o :: rest) a w :=
  wpList_buildTo hg t parts.toArray ho o.dst rfl cells (by
    have e : (parts.toArray.map fun (i, x) => (i, a.eval x)).toList = vs := by rw [← hv]; simp
    rw [e]; exact hf) h
theorem setRow_at {w : World} {g : Nat} {old cs : Array Value} {T : TypeId} {fr : Nat × Nat} (hg : w.heap[g]? = some (.cells old T fr)) : (w.setRow g cs).heap[g]? = some (.cells cs T fr) := setRow_heap _ _ _ _ _ _ hg
theorem setRow_below {B : Nat} {a w : World} (h : Below B a w) {g : Nat} (hg : B ≤ g) (cs : Array Value) : Below B a (w.setRow g cs) :=
  h.trans ⟨rfl, rfl, rfl, by simp, fun k hk => setRow_other w g k cs (by omega)⟩
end Go.Proofs.Ytagdedjclbmlkaa
