/- Calls in memory. -/
import Derived.Test.YthimpgnagjgmdaaP4
namespace Go.Proofs.Ythimpgnagjgmdaa
open Go.RowKit

/-- A call; its writes as a slice. -/
structure Ca where
  se : Int
  be : Int
  en : Int
  po : Int
  op : OpD
  q : Option Addr
  n : Nat
  c : Nat
  at_ : Int
  pub : Bool
  rep : RpD
def caI (x : Ca) : List Value := [.int .i64 x.se, .int .i64 x.be, .int .i64 x.en, .int .i64 x.po]
def caE (x : Ca) : List Value := [.int .u64 x.at_, .bool x.pub]
def caC (x : Ca) : List Value := caI x ++ (opC x.op ++ ([.slice x.q x.n x.c] ++ (caE x ++ rpC x.rep)))
theorem caC_len (x : Ca) : (caC x).length = 51 := by simp [caC, caI, caE, opC_len, rpC_len]
theorem caC_one (x : Ca) : (caC x).all (·.oneCell') = true := by
  simp only [caC, List.all_append, opC_one, rpC_one, Bool.true_and, Bool.and_true]
  rfl
theorem splice {α : Type} {A B C D : List α} {n m : Nat} (hA : A.length = n) (hB : n + B.length = m) : (A ++ (B ++ C)).take n ++ D ++ (A ++ (B ++ C)).drop m = A ++ (D ++ C) := by
  rw [List.take_left' hA, ← List.append_assoc A B C, List.drop_left' (by rw [List.length_append]; omega), List.append_assoc]
theorem caC_op (x : Ca) (o : OpD) : (caC x).take 4 ++ opC o ++ (caC x).drop (4 + (opC o).length) = caC { x with op := o } := by
  rw [opC_len]
  exact splice rfl (by rw [opC_len])
theorem caC_w (x : Ca) (q : Option Addr) (n c : Nat) : (caC x).take 34 ++ [.slice q n c] ++ (caC x).drop (34 + 1) = caC { x with q := q, n := n, c := c } := by
  have h := splice (A := caI x ++ opC x.op) (B := [.slice x.q x.n x.c]) (C := caE x ++ rpC x.rep) (D := [Value.slice q n c]) (n := 34) (m := 34 + 1) (by simp [caI, opC_len]) (by simp)
  simpa [caC, List.append_assoc, caI, caE] using h
def RpD.set (r : RpD) (s : ByteArray) : RpD := { r with text := s }
theorem caC_t (x : Ca) (s : ByteArray) : (caC x).take 38 ++ [.string s] ++ (caC x).drop (38 + 1) = caC { x with rep := x.rep.set s } := by
  have h := splice (A := caI x ++ (opC x.op ++ ([.slice x.q x.n x.c] ++ (caE x ++ [.int .i64 x.rep.err])))) (B := [.string x.rep.text]) (C := (bC x.rep.tag).toList ++ [.int .i64 x.rep.st, .int .i64 x.rep.n]) (D := [Value.string s]) (n := 38) (m := 38 + 1) (by simp [caI, caE, opC_len]) (by simp)
  simpa [caC, List.append_assoc, caI, caE, rpC, RpD.set] using h
theorem ca_cell (x : Ca) (i : Nat) (v : Value) (h : (caI x)[i]? = some v) : (caC x)[i]? = some v := by
  unfold caC
  rw [List.getElem?_append_left (List.getElem?_eq_some_iff.1 h).1]; exact h
theorem ca_w (x : Ca) : (caC x)[34]? = some (.slice x.q x.n x.c) := by
  unfold caC
  rw [List.getElem?_append_right (by simp [caI]), List.getElem?_append_right (by simp [caI, opC_len])]
  simp [caI, opC_len]
theorem ca_at (x : Ca) : (caC x)[35]? = some (.int .u64 x.at_) := by
  unfold caC
  rw [List.getElem?_append_right (by simp [caI]), List.getElem?_append_right (by simp [caI, opC_len])]
  simp [caI, opC_len, caE]
theorem ca_pub (x : Ca) : (caC x)[36]? = some (.bool x.pub) := by
  unfold caC
  rw [List.getElem?_append_right (by simp [caI]), List.getElem?_append_right (by simp [caI, opC_len])]
  simp [caI, opC_len, caE]
theorem ca_rep (x : Ca) (i : Nat) (v : Value) (h : (rpC x.rep)[i]? = some v) : (caC x)[37 + i]? = some v := by
  unfold caC
  rw [List.getElem?_append_right (by simp [caI]; omega), List.getElem?_append_right (by simp [caI, opC_len]; omega), List.getElem?_append_right (by simp [caI, opC_len]; omega), List.getElem?_append_right (by simp [caI, caE, opC_len]; omega)]
  simp only [caI, caE, opC_len, List.length_cons, List.length_nil, List.length_singleton]
  rw [show 37 + i - (0 + 1 + 1 + 1 + 1) - 30 - 1 - (0 + 1 + 1) = i by omega]
  exact h
theorem ca_op {w : World} {b o : Nat} {x : Ca} (h : w.rangeAt b o (caC x)) : w.rangeAt b (o + 4) (opC x.op) := range_app_left (range_app_right h 4 rfl)
theorem ca_rp {w : World} {b o : Nat} {x : Ca} (h : w.rangeAt b o (caC x)) : w.rangeAt b (o + 37) (rpC x.rep) := by
  have := range_app_right (range_app_right (range_app_right (range_app_right h 4 rfl) 30 (opC_len _)) 1 rfl) 2 rfl
  rwa [Nat.add_assoc, Nat.add_assoc, Nat.add_assoc] at this
theorem sizCa : (Try.prog.info? 42).map (·.size) = some 51 := by kernel_rfl
theorem sizRCa : (Try.prog.info? 51).map (·.size) = some 51 := by kernel_rfl
def op0 : OpD := ⟨0, 0, 0, 0, 0, 0, 0, z12, List.replicate 10 0, ⟨#[]⟩, rfl, rfl⟩
def rp0 : RpD := ⟨0, ⟨#[]⟩, List.replicate 10 0, 0, 0, rfl⟩
def ca0 : Ca := ⟨0, 0, 0, 0, op0, none, 0, 0, 0, false, rp0⟩
theorem infoCa : (Try.prog.info? 42).map (fun i => (i.zero, i.size, i.bytes)) = some (some (.agg (caC ca0).toArray), 51, 224) := by kernel_rfl
theorem ca0_sz : (Value.agg (caC ca0).toArray).cells.size = 51 := by show (caC ca0).toArray.size = 51; simp [caC_len]
theorem caC_one' (x : Ca) : ∀ u ∈ caC x, u.oneCell' = true := fun u hu => List.all_eq_true.1 (caC_one x) u hu
/-- A store of some cells in the midst of a block. -/
theorem exec_stN {P : Program} {o : Oper} {a : Act} {w : World} (T : TypeId) (cs : List Value) (hsz : (P.info? T).map (·.size) = some cs.length) (x y : Operand) (ho : o.op = .store T x y) (b i : Nat) (hx : a.eval x = .pointer (some ⟨b, i, none⟩)) (hy : a.eval y = .agg cs.toArray) (h1 : cs.all (·.oneCell') = true) (cur : List Value) (T' : TypeId) (hg : w.heap[b]? = some (.cells cur.toArray T' (0, 0))) (hi : i + cs.length ≤ cur.length) :
    (execOp a.eval o).run P w = .ok .skip (w.setRow b (cur.take i ++ cs ++ cur.drop (i + cs.length)).toArray) := by
  have hst := run_storeCells_at P b i T' cs 0 cur.toArray w hg (by simpa using hi) (fun x hx => List.all_eq_true.1 h1 x hx)
  have hrun : (storeVar T ⟨b, i, none⟩ (.agg cs.toArray)).run P w = .ok () (w.setRow b (cur.take i ++ cs ++ cur.drop (i + cs.length)).toArray) := by
    cases hq : P.info? T with
    | none => simp [hq] at hsz
    | some inf =>
      have hs : cs.length = inf.size := by simpa [hq] using hsz.symm
      have hs2 : cs.toArray.size = inf.size := by simp [hs]
      simp only [Nat.add_zero] at hst
      simp [storeVar, sizeOf, typeInfo, hq, Value.cells, hs2, hst]
  unfold execOp
  simp only [ho, hx, hy, Instr.storeAt, Instr.sureAddr, Sem.run_bind, Sem.run_pure, Result.andThen_ok, hrun]
end Go.Proofs.Ythimpgnagjgmdaa
