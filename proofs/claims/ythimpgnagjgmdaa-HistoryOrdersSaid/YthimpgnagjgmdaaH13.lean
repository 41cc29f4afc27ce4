/- How calls and places come in; HistoryFits: the walk. -/
import Derived.Test.YthimpgnagjgmdaaH12
import Derived.Test.YthimpgnagjgmdaaP5
namespace Go.Proofs.Ythimpgnagjgmdaa
open Go.ChangeShapes Go.WideShapes Go.ChangeAt Go.RowKit Go.Deep

theorem dec_ca {H : Type} {ench : TypeId × Value → H} {w : World} {base : Nat} {held : Bool} {n : Nat} {cs : List Value} {y : DataW H × List MemPlace}
    (hl : cs.length = 51) (hy : DataW.trod ench Try.prog w base (fun _ => true) held n 42 cs = some y) : ∃ x : Ca, cs = caC x ∧ OkIn w x := by
  obtain ⟨xs, n', _, _, _, hxl, hfl⟩ := DataW.trod_struct Try.underlying42 hy
  have hx9 : xs.length = 9 := hxl
  have ci : Try.prog.cellsOf 3 = 1 := by kernel_rfl
  have co : Try.prog.cellsOf 35 = 30 := by kernel_rfl
  have cS : Try.prog.cellsOf 36 = 1 := by kernel_rfl
  have c64 : Try.prog.cellsOf 37 = 1 := by kernel_rfl
  have cb : Try.prog.cellsOf 4 = 1 := by kernel_rfl
  have cr : Try.prog.cellsOf 40 = 14 := by kernel_rfl
  have f0 : DataW.trod ench Try.prog w base (fun _ => true) held n' 3 ((cs.drop 0).take (Try.prog.cellsOf 3)) = xs[0]? := hfl 0 _ rfl
  have f1 : DataW.trod ench Try.prog w base (fun _ => true) held n' 3 ((cs.drop 1).take (Try.prog.cellsOf 3)) = xs[1]? := hfl 1 _ rfl
  have f2 : DataW.trod ench Try.prog w base (fun _ => true) held n' 3 ((cs.drop 2).take (Try.prog.cellsOf 3)) = xs[2]? := hfl 2 _ rfl
  have f3 : DataW.trod ench Try.prog w base (fun _ => true) held n' 3 ((cs.drop 3).take (Try.prog.cellsOf 3)) = xs[3]? := hfl 3 _ rfl
  have f4 : DataW.trod ench Try.prog w base (fun _ => true) held n' 35 ((cs.drop 4).take (Try.prog.cellsOf 35)) = xs[4]? := hfl 4 _ rfl
  have f5 : DataW.trod ench Try.prog w base (fun _ => true) held n' 36 ((cs.drop 34).take (Try.prog.cellsOf 36)) = xs[5]? := hfl 5 _ rfl
  have f6 : DataW.trod ench Try.prog w base (fun _ => true) held n' 37 ((cs.drop 35).take (Try.prog.cellsOf 37)) = xs[6]? := hfl 6 _ rfl
  have f7 : DataW.trod ench Try.prog w base (fun _ => true) held n' 4 ((cs.drop 36).take (Try.prog.cellsOf 4)) = xs[7]? := hfl 7 _ rfl
  have f8 : DataW.trod ench Try.prog w base (fun _ => true) held n' 40 ((cs.drop 37).take (Try.prog.cellsOf 40)) = xs[8]? := hfl 8 _ rfl
  rw [List.getElem?_eq_getElem (by omega)] at f0 f1 f2 f3 f4 f5 f6 f7 f8
  rw [ci] at f0 f1 f2 f3
  rw [co] at f4
  rw [cS] at f5
  rw [c64] at f6
  rw [cb] at f7
  rw [cr] at f8
  obtain ⟨x0, e0, _⟩ := DataW.trod_int Try.underlying3 f0
  obtain ⟨x1, e1, _⟩ := DataW.trod_int Try.underlying3 f1
  obtain ⟨x2, e2, _⟩ := DataW.trod_int Try.underlying3 f2
  obtain ⟨x3, e3, _⟩ := DataW.trod_int Try.underlying3 f3
  obtain ⟨op, e4⟩ := dec_op (by rw [List.length_take, List.length_drop]; omega) f4
  obtain ⟨q, ws, c, e5, _, _, h3, _, _⟩ := open_rowsC (E := 78) (enc := wrC) (k := 35) (φ := fun _ => True) Try.underlying36 (by kernel_rfl) (by omega) (fun n cs y hy hl => by obtain ⟨x, hx⟩ := dec_wr hl hy; exact ⟨x, hx, trivial⟩) f5
  obtain ⟨at_, e6, _⟩ := DataW.trod_int Try.underlying37 f6
  obtain ⟨pb, e7, _⟩ := DataW.trod_bool Try.underlying4 f7
  obtain ⟨rp, e8⟩ := dec_rp (by rw [List.length_take, List.length_drop]; omega) f8
  refine ⟨⟨x0, x1, x2, x3, op, q, ws.length, c, at_, pb, rp⟩, ?_, ws, rfl, h3⟩
  have st : ∀ (o k : Nat) (A B : List Value), (cs.drop o).take k = A → cs.drop (o + k) = B → cs.drop o = A ++ B := fun o k A B h1 h2 => by
    rw [← h1, ← h2, ← List.drop_drop, List.take_append_drop]
  have h51 : cs.drop 51 = [] := List.drop_eq_nil_of_le (by omega)
  have h := st 0 1 _ _ e0 (st 1 1 _ _ e1 (st 2 1 _ _ e2 (st 3 1 _ _ e3 (st 4 30 _ _ e4 (st 34 1 _ _ e5 (st 35 1 _ _ e6 (st 36 1 _ _ e7 (st 37 14 _ _ e8 h51))))))))
  rw [List.drop_zero] at h
  rw [h]
  simp [caC, caI, caE]
theorem open_calls {H : Type} {ench : TypeId × Value → H} {w : World} {base : Nat} {held : Bool} {v : Value} {d : DataW H} {p : List MemPlace} {r : Reach} {b0 : Nat}
    (hv : Value.okWide Try.prog w r b0 22 v) (h : DataW.Trod ench Try.prog w base (fun _ => true) held 22 v d p) :
    ∃ (q : Option Addr) (xs : List Ca) (cap : Nat), v = .slice q xs.length cap ∧ xs.length ≤ cap ∧ cap ≤ maxLen ∧ SlAt caC 51 w q xs ∧ ∀ x ∈ xs, OkIn w x :=
  open_rows (E := 42) (enc := caC) (k := 51) (φ := OkIn w) Try.underlying22 (by kernel_rfl) (by omega) (fun _ _ _ hy hl => dec_ca hl hy) hv h
theorem open_ints {H : Type} {ench : TypeId × Value → H} {w : World} {base : Nat} {held : Bool} {v : Value} {d : DataW H} {p : List MemPlace} {r : Reach} {b0 : Nat}
    (hv : Value.okWide Try.prog w r b0 26 v) (h : DataW.Trod ench Try.prog w base (fun _ => true) held 26 v d p) :
    ∃ (q : Option Addr) (xs : List Int) (cap : Nat), v = .slice q xs.length cap ∧ xs.length ≤ cap ∧ cap ≤ maxLen ∧ SlAt eI 1 w q xs ∧ ∀ x ∈ xs, True :=
  open_rows (E := 3) (enc := eI) (k := 1) (φ := fun _ : Int => True) Try.underlying26 (by kernel_rfl) (by omega) (fun n cs y hy hl => by
    match cs, hl with
    | [v0], _ =>
      obtain ⟨x0, e0, _⟩ := DataW.trod_int Try.underlying3 hy
      exact ⟨x0, e0, trivial⟩) hv h
/-- The first region of HistoryFits. -/
def CH (w : World) (r : Nat) (gv : Value) (v : World) : Prop :=
  Below w.heap.size w v ∧ (r = 1 → ∃ ys : List Ca, ys.length ≤ 30 ∧ OwnE caC 42 51 v w.heap.size gv ys ∧ ∀ y ∈ ys, OkOwn w.heap.size v y)
theorem exec_lenI {o : Oper} {a : Act} {w : World} (t : Tmp) (ho : o.op = .call { callee := .builtin .len, args := #[.tmp t], argTypes := #[26] }) (q : Option Addr) (n c : Nat) (hx : a.tmps.getD t undef = .slice q n c) : (execOp a.eval o).run Try.prog w = .ok (.value (.int .i64 (n : Int))) w := by
  have hx' : a.tmps[t]?.getD undef = .slice q n c := by simpa using hx
  unfold execOp
  simp only [ho]
  simp [go_sem, resolve, invoke, Act.eval, hx']
theorem exec_min30 {o : Oper} {a : Act} {w : World} (t : Tmp) (ho : o.op = .call { callee := .builtin .min, args := #[.tmp t, .const (.int .i64 30)], argTypes := #[3, 3] }) (n m : Int) (hm : min n 30 = m) (hx : a.tmps.getD t undef = .int .i64 n) : (execOp a.eval o).run Try.prog w = .ok (.value (.int .i64 m)) w := by
  subst hm
  have hx' : a.tmps[t]?.getD undef = .int .i64 n := by simpa using hx
  unfold execOp
  simp only [ho]
  simp [go_sem, resolve, invoke, Act.eval, hx']
theorem exec_sl30 {o : Oper} {a : Act} {w : World} (x y : Operand) (ho : o.op = .slice 26 x none (some y) none) (q : Option Addr) (n c m : Nat) (hm : m ≤ n) (hn : n ≤ c) (hx : a.eval x = .slice q n c) (hy : a.eval y = .int .i64 (m : Int)) : (execOp a.eval o).run Try.prog w = .ok (.value (.slice q m c)) w := by
  have h1 : (m : Int) ≤ c := by omega
  unfold execOp
  simp only [ho, Option.map_some, Option.map_none, hx, hy]
  cases q <;> simp [go_sem, h1]
end Go.Proofs.Ythimpgnagjgmdaa
