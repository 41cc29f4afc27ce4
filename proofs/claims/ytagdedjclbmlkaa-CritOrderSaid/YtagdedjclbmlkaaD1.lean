/- A key as the document's: 25 cells; how such keys are compared; the law's Of. -/
import Derived.Test.YtagdedjclbmlkaaO6
import Derived.Test.YtagdedjclbmlkaaKX
import Derived.Test.YtagdedjclbmlkaaCX
namespace Go.Proofs.Ytagdedjclbmlkaa
open Go.RowKit

def rkC (l : List UInt8) : List Value := [.int .i64 ((l.getD 0 0).toNat : Int), .int .i64 ((l.getD 1 0).toNat : Int), .int .i64 ((l.getD 2 0).toNat : Int)] ++ (bC (l.drop 3)).toList
theorem rkC_len {l : List UInt8} (h : l.length = 25) : (rkC l).length = 25 := by simp [rkC, bC, h]
theorem rkC_one (l : List UInt8) : ∀ u ∈ rkC l, u.oneCell' = true := by
  intro u hu
  simp only [rkC, List.mem_append, List.mem_cons, List.not_mem_nil, or_false] at hu
  rcases hu with (rfl | rfl | rfl) | hu
  · rfl
  · rfl
  · rfl
  · simp only [bC, List.mem_map] at hu
    obtain ⟨c, _, rfl⟩ := hu
    rfl
theorem partR0 (a0 a1 a2 a3 a4 a5 a6 a7 a8 a9 a10 a11 a12 a13 a14 a15 a16 a17 a18 a19 a20 a21 a22 a23 a24 : UInt8) (w : World) : (part 3 (rkC [a0, a1, a2, a3, a4, a5, a6, a7, a8, a9, a10, a11, a12, a13, a14, a15, a16, a17, a18, a19, a20, a21, a22, a23, a24]).toArray 0).run Try.prog w = .ok (.int .i64 (a0.toNat : Int)) w := by kernel_rfl
theorem partR1 (a0 a1 a2 a3 a4 a5 a6 a7 a8 a9 a10 a11 a12 a13 a14 a15 a16 a17 a18 a19 a20 a21 a22 a23 a24 : UInt8) (w : World) : (part 3 (rkC [a0, a1, a2, a3, a4, a5, a6, a7, a8, a9, a10, a11, a12, a13, a14, a15, a16, a17, a18, a19, a20, a21, a22, a23, a24]).toArray 1).run Try.prog w = .ok (.int .i64 (a1.toNat : Int)) w := by kernel_rfl
theorem partR2 (a0 a1 a2 a3 a4 a5 a6 a7 a8 a9 a10 a11 a12 a13 a14 a15 a16 a17 a18 a19 a20 a21 a22 a23 a24 : UInt8) (w : World) : (part 3 (rkC [a0, a1, a2, a3, a4, a5, a6, a7, a8, a9, a10, a11, a12, a13, a14, a15, a16, a17, a18, a19, a20, a21, a22, a23, a24]).toArray 2).run Try.prog w = .ok (.int .i64 (a2.toNat : Int)) w := by kernel_rfl
theorem partR3 (a0 a1 a2 a3 a4 a5 a6 a7 a8 a9 a10 a11 a12 a13 a14 a15 a16 a17 a18 a19 a20 a21 a22 a23 a24 : UInt8) (w : World) : (part 23 (rkC [a0, a1, a2, a3, a4, a5, a6, a7, a8, a9, a10, a11, a12, a13, a14, a15, a16, a17, a18, a19, a20, a21, a22, a23, a24]).toArray 3).run Try.prog w = .ok (.agg (bC [a3, a4, a5, a6, a7, a8, a9, a10, a11, a12, a13, a14])) w := by kernel_rfl
theorem partR4 (a0 a1 a2 a3 a4 a5 a6 a7 a8 a9 a10 a11 a12 a13 a14 a15 a16 a17 a18 a19 a20 a21 a22 a23 a24 : UInt8) (w : World) : (part 38 (rkC [a0, a1, a2, a3, a4, a5, a6, a7, a8, a9, a10, a11, a12, a13, a14, a15, a16, a17, a18, a19, a20, a21, a22, a23, a24]).toArray 15).run Try.prog w = .ok (.agg (bC [a15, a16, a17, a18, a19, a20, a21, a22, a23, a24])) w := by kernel_rfl
theorem eqInRK (w : World) (n : Nat) (xs ys : List UInt8) (hx : xs.length = 25) (hy : ys.length = 25) : (Op.equalIn (n + 4) 40 (.agg (rkC xs).toArray) (.agg (rkC ys).toArray)).run Try.prog w = .ok (xs == ys) w := by
  obtain ⟨a0, a1, a2, a3, a4, a5, a6, a7, a8, a9, a10, a11, a12, a13, a14, a15, a16, a17, a18, a19, a20, a21, a22, a23, a24, rfl⟩ := list25 xs hx
  obtain ⟨b0, b1, b2, b3, b4, b5, b6, b7, b8, b9, b10, b11, b12, b13, b14, b15, b16, b17, b18, b19, b20, b21, b22, b23, b24, rfl⟩ := list25 ys hy
  rw [run_equalIn_struct w (n + 3) 40 _ _ (by kernel_rfl) (by kernel_rfl)]
  have q0 := run_equalIn_int (P := Try.prog) w (n + 2) 3 .i64 .i64 (a0.toNat : Int) (b0.toNat : Int) Try.underlying3
  have q1 := run_equalIn_int (P := Try.prog) w (n + 2) 3 .i64 .i64 (a1.toNat : Int) (b1.toNat : Int) Try.underlying3
  have q2 := run_equalIn_int (P := Try.prog) w (n + 2) 3 .i64 .i64 (a2.toNat : Int) (b2.toNat : Int) Try.underlying3
  have q3 := run_eqIn w 23 12 (n + 1) Try.underlying23 [a3, a4, a5, a6, a7, a8, a9, a10, a11, a12, a13, a14] [b3, b4, b5, b6, b7, b8, b9, b10, b11, b12, b13, b14] rfl rfl
  have q4 := run_eqIn w 38 10 (n + 1) Try.underlying38 [a15, a16, a17, a18, a19, a20, a21, a22, a23, a24] [b15, b16, b17, b18, b19, b20, b21, b22, b23, b24] rfl rfl
  have hb : ([a0, a1, a2, a3, a4, a5, a6, a7, a8, a9, a10, a11, a12, a13, a14, a15, a16, a17, a18, a19, a20, a21, a22, a23, a24] == [b0, b1, b2, b3, b4, b5, b6, b7, b8, b9, b10, b11, b12, b13, b14, b15, b16, b17, b18, b19, b20, b21, b22, b23, b24]) = (((a0.toNat : Int) == (b0.toNat : Int)) && (((a1.toNat : Int) == (b1.toNat : Int)) && (((a2.toNat : Int) == (b2.toNat : Int)) && (([a3, a4, a5, a6, a7, a8, a9, a10, a11, a12, a13, a14] == [b3, b4, b5, b6, b7, b8, b9, b10, b11, b12, b13, b14]) && ([a15, a16, a17, a18, a19, a20, a21, a22, a23, a24] == [b15, b16, b17, b18, b19, b20, b21, b22, b23, b24]))))) := by
    rw [Bool.eq_iff_iff]
    simp only [beq_iff_eq, Bool.and_eq_true, List.cons.injEq, Int.ofNat_inj, UInt8.toNat_inj, and_assoc, and_true]
  rw [hb]
  generalize ((a0.toNat : Int) == (b0.toNat : Int)) = r0 at *
  generalize ((a1.toNat : Int) == (b1.toNat : Int)) = r1 at *
  generalize ((a2.toNat : Int) == (b2.toNat : Int)) = r2 at *
  generalize ([a3, a4, a5, a6, a7, a8, a9, a10, a11, a12, a13, a14] == [b3, b4, b5, b6, b7, b8, b9, b10, b11, b12, b13, b14]) = r3 at *
  generalize ([a15, a16, a17, a18, a19, a20, a21, a22, a23, a24] == [b15, b16, b17, b18, b19, b20, b21, b22, b23, b24]) = r4 at *
  simp only [Program.fieldsOf, Try.underlying40, Op.eqFields]
  simp [partR0, partR1, partR2, partR3, partR4, q0, q1, q2, q3, q4]
  cases r0 <;> cases r1 <;> cases r2 <;> cases r3 <;> cases r4 <;> simp
theorem eqlRK (w : World) (xs ys : List UInt8) (hx : xs.length = 25) (hy : ys.length = 25) : (binOp .eql 40 (.agg (rkC xs).toArray) (.agg (rkC ys).toArray)).run Try.prog w = .ok (.bool (xs == ys)) w := by
  rw [run_eql_struct, show (10000 : Nat) = 9996 + 4 from rfl, eqInRK w 9996 xs ys hx hy]; rfl
theorem exec_eqlRK {a : Act} {o : Oper} (w : World) (x y : Operand) (ho : o.op = .binOp .eql 40 x y 40) (xs ys : List UInt8) (hxs : xs.length = 25) (hys : ys.length = 25) (hx : a.eval x = .agg (rkC xs).toArray) (hy : a.eval y = .agg (rkC ys).toArray) : (execOp a.eval o).run Try.prog w = .ok (.value (.bool (xs == ys))) w := by
  have hgd : (eqGuard .eql 40 x y (.agg (rkC xs).toArray) (.agg (rkC ys).toArray)).run Try.prog w = .ok () w := run_eqGuard_agg w .eql 40 x y _ _ (by kernel_rfl)
  unfold execOp
  simp only [ho, hx, hy, Sem.run_bind, hgd, eqlRK w xs ys hxs hys, Result.andThen_ok, Sem.run_pure]
/-- The law's Of, of any key. -/
theorem of06_key (k : List UInt8) (w : World) (hk : k.length = 25) : Calls Try.prog 10 #[.agg (bC k)] w fun e w' => e = .returned (.agg (rkC k).toArray) ∧ Below w.heap.size w w' := by
  obtain ⟨a0, a1, a2, a3, a4, a5, a6, a7, a8, a9, a10, a11, a12, a13, a14, a15, a16, a17, a18, a19, a20, a21, a22, a23, a24, rfl⟩ := list25 k hk
  exact of06_any ⟨a0, a1, a2, [a3, a4, a5, a6, a7, a8, a9, a10, a11, a12, a13, a14], [a15, a16, a17, a18, a19, a20, a21, a22, a23, a24]⟩ w ⟨rfl, rfl⟩
/-- An entry: a key, a number. -/
structure RE where
  k : List UInt8
  v : Int
  hk : k.length = 25
def reC (x : RE) : List Value := rkC x.k ++ [.int .i64 x.v]
theorem reC_len (x : RE) : (reC x).length = 26 := by simp [reC, rkC_len x.hk]
theorem reC_one (x : RE) : ∀ u ∈ reC x, u.oneCell' = true := fun u hu => by
  simp only [reC, List.mem_append, List.mem_singleton] at hu
  rcases hu with hu | rfl
  · exact rkC_one _ u hu
  · rfl
def RE.p (x : RE) : List UInt8 × Int := (x.k, x.v)
end Go.Proofs.Ytagdedjclbmlkaa
