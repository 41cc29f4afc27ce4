/- Events and replies in memory: equality. -/
import Derived.Test.YtbfefdedjcppaaaGreatDoorKN6
import Derived.Laws.StructEq
namespace Go.Proofs.YtbfefdedjcppaaaGreatDoor.Kx
open Go.RowKit
theorem list25 (q : List UInt8) (hq : q.length = 25) : ∃ a0 a1 a2 a3 a4 a5 a6 a7 a8 a9 a10 a11 a12 a13 a14 a15 a16 a17 a18 a19 a20 a21 a22 a23 a24, q = [a0, a1, a2, a3, a4, a5, a6, a7, a8, a9, a10, a11, a12, a13, a14, a15, a16, a17, a18, a19, a20, a21, a22, a23, a24] := by
 match q, hq with
 | [a0, a1, a2, a3, a4, a5, a6, a7, a8, a9, a10, a11, a12, a13, a14, a15, a16, a17, a18, a19, a20, a21, a22, a23, a24], _ => exact ⟨a0, a1, a2, a3, a4, a5, a6, a7, a8, a9, a10, a11, a12, a13, a14, a15, a16, a17, a18, a19, a20, a21, a22, a23, a24, rfl⟩
theorem list10 (l : List UInt8) (h : l.length = 10) : ∃ a b c d e f g i j k, l = [a, b, c, d, e, f, g, i, j, k] := by
 match l, h with
 | [a, b, c, d, e, f, g, i, j, k], _ => exact ⟨a, b, c, d, e, f, g, i, j, k, rfl⟩
theorem run_eqIn (w : World) (t : TypeId) (n d : Nat) (ht : Tryz.prog.underlying t = some (.array n 5)) (xs ys : List UInt8) (hx : xs.length = n) (hy : ys.length = n) : (Op.equalIn (d + 2) t (.agg (bC xs)) (.agg (bC ys))).run Tryz.prog w = .ok (xs == ys) w :=
 run_equalIn_bytes w d t 5 n ht Tryz.underlying5 (fun _ => by kernel_rfl) xs ys hx hy
theorem eqInTag (w : World) (n : Nat) (xs ys : List UInt8) (hx : xs.length = 10) (hy : ys.length = 10) : (Op.equalIn (n + 3) 28 (.agg (bC xs)) (.agg (bC ys))).run Tryz.prog w = .ok (xs == ys) w := by
 obtain ⟨a, b, c, d, e, f, g, i, j, k, rfl⟩ := list10 xs hx
 obtain ⟨a', b', c', d', e', f', g', i', j', k', rfl⟩ := list10 ys hy
 rw [run_equalIn_struct w (n + 2) 28 _ _ (by kernel_rfl) (by kernel_rfl)]
 have p0 : ∀ (a b c d e f g i j k : UInt8) (w : World), (part 25 (bC [a, b, c, d, e, f, g, i, j, k]) 0).run Tryz.prog w = .ok (.agg (bC [a, b, c])) w := fun _ _ _ _ _ _ _ _ _ _ _ => by kernel_rfl
 have p1 : ∀ (a b c d e f g i j k : UInt8) (w : World), (part 26 (bC [a, b, c, d, e, f, g, i, j, k]) 3).run Tryz.prog w = .ok (.agg (bC [d, e, f, g])) w := fun _ _ _ _ _ _ _ _ _ _ _ => by kernel_rfl
 have p2 : ∀ (a b c d e f g i j k : UInt8) (w : World), (part 25 (bC [a, b, c, d, e, f, g, i, j, k]) 7).run Tryz.prog w = .ok (.agg (bC [i, j, k])) w := fun _ _ _ _ _ _ _ _ _ _ _ => by kernel_rfl
 have q0 := run_eqIn w 25 3 n Tryz.underlying25 [a, b, c] [a', b', c'] rfl rfl
 have q1 := run_eqIn w 26 4 n Tryz.underlying26 [d, e, f, g] [d', e', f', g'] rfl rfl
 have q2 := run_eqIn w 25 3 n Tryz.underlying25 [i, j, k] [i', j', k'] rfl rfl
 have hb : ([a, b, c, d, e, f, g, i, j, k] == [a', b', c', d', e', f', g', i', j', k']) = (([a, b, c] == [a', b', c']) && (([d, e, f, g] == [d', e', f', g']) && ([i, j, k] == [i', j', k']))) := by
   rw [Bool.eq_iff_iff]; simp; constructor
   · rintro ⟨h1, h2, h3, h4, h5, h6, h7, h8, h9, h10⟩; exact ⟨⟨h1, h2, h3⟩, ⟨h4, h5, h6, h7⟩, h8, h9, h10⟩
   · rintro ⟨⟨h1, h2, h3⟩, ⟨h4, h5, h6, h7⟩, h8, h9, h10⟩; exact ⟨h1, h2, h3, h4, h5, h6, h7, h8, h9, h10⟩
 rw [hb]
 generalize ([a, b, c] == [a', b', c']) = r0 at *
 generalize ([d, e, f, g] == [d', e', f', g']) = r1 at *
 generalize ([i, j, k] == [i', j', k']) = r2 at *
 simp only [Program.fieldsOf, Tryz.underlying28, Op.eqFields]
 simp [p0, p1, p2, q0, q1, q2]
 cases r0 <;> cases r1 <;> cases r2 <;> simp
theorem partK0 (a0 a1 a2 a3 a4 a5 a6 a7 a8 a9 a10 a11 a12 a13 a14 a15 a16 a17 a18 a19 a20 a21 a22 a23 a24 : UInt8) (w : World) : (part 5 (bC [a0, a1, a2, a3, a4, a5, a6, a7, a8, a9, a10, a11, a12, a13, a14, a15, a16, a17, a18, a19, a20, a21, a22, a23, a24]) 0).run Tryz.prog w = .ok (.int .u8 (a0.toNat : Int)) w := by kernel_rfl
theorem partK1 (a0 a1 a2 a3 a4 a5 a6 a7 a8 a9 a10 a11 a12 a13 a14 a15 a16 a17 a18 a19 a20 a21 a22 a23 a24 : UInt8) (w : World) : (part 5 (bC [a0, a1, a2, a3, a4, a5, a6, a7, a8, a9, a10, a11, a12, a13, a14, a15, a16, a17, a18, a19, a20, a21, a22, a23, a24]) 1).run Tryz.prog w = .ok (.int .u8 (a1.toNat : Int)) w := by kernel_rfl
theorem partK2 (a0 a1 a2 a3 a4 a5 a6 a7 a8 a9 a10 a11 a12 a13 a14 a15 a16 a17 a18 a19 a20 a21 a22 a23 a24 : UInt8) (w : World) : (part 5 (bC [a0, a1, a2, a3, a4, a5, a6, a7, a8, a9, a10, a11, a12, a13, a14, a15, a16, a17, a18, a19, a20, a21, a22, a23, a24]) 2).run Tryz.prog w = .ok (.int .u8 (a2.toNat : Int)) w := by kernel_rfl
theorem partK3 (a0 a1 a2 a3 a4 a5 a6 a7 a8 a9 a10 a11 a12 a13 a14 a15 a16 a17 a18 a19 a20 a21 a22 a23 a24 : UInt8) (w : World) : (part 24 (bC [a0, a1, a2, a3, a4, a5, a6, a7, a8, a9, a10, a11, a12, a13, a14, a15, a16, a17, a18, a19, a20, a21, a22, a23, a24]) 3).run Tryz.prog w = .ok (.agg (bC [a3, a4, a5, a6, a7, a8, a9, a10, a11, a12, a13, a14])) w := by kernel_rfl
theorem partK4 (a0 a1 a2 a3 a4 a5 a6 a7 a8 a9 a10 a11 a12 a13 a14 a15 a16 a17 a18 a19 a20 a21 a22 a23 a24 : UInt8) (w : World) : (part 28 (bC [a0, a1, a2, a3, a4, a5, a6, a7, a8, a9, a10, a11, a12, a13, a14, a15, a16, a17, a18, a19, a20, a21, a22, a23, a24]) 15).run Tryz.prog w = .ok (.agg (bC [a15, a16, a17, a18, a19, a20, a21, a22, a23, a24])) w := by kernel_rfl
theorem eqInKey (w : World) (n : Nat) (xs ys : List UInt8) (hx : xs.length = 25) (hy : ys.length = 25) : (Op.equalIn (n + 4) 32 (.agg (bC xs)) (.agg (bC ys))).run Tryz.prog w = .ok (xs == ys) w := by
 obtain ⟨a0, a1, a2, a3, a4, a5, a6, a7, a8, a9, a10, a11, a12, a13, a14, a15, a16, a17, a18, a19, a20, a21, a22, a23, a24, rfl⟩ := list25 xs hx
 obtain ⟨b0, b1, b2, b3, b4, b5, b6, b7, b8, b9, b10, b11, b12, b13, b14, b15, b16, b17, b18, b19, b20, b21, b22, b23, b24, rfl⟩ := list25 ys hy
 rw [run_equalIn_struct w (n + 3) 32 _ _ (by kernel_rfl) (by kernel_rfl)]
 have q0 := run_equalIn_int (P := Tryz.prog) w (n + 2) 5 .u8 .u8 (a0.toNat : Int) (b0.toNat : Int) Tryz.underlying5
 have q1 := run_equalIn_int (P := Tryz.prog) w (n + 2) 5 .u8 .u8 (a1.toNat : Int) (b1.toNat : Int) Tryz.underlying5
 have q2 := run_equalIn_int (P := Tryz.prog) w (n + 2) 5 .u8 .u8 (a2.toNat : Int) (b2.toNat : Int) Tryz.underlying5
 have q3 := run_eqIn w 24 12 (n + 1) Tryz.underlying24 [a3, a4, a5, a6, a7, a8, a9, a10, a11, a12, a13, a14] [b3, b4, b5, b6, b7, b8, b9, b10, b11, b12, b13, b14] rfl rfl
 have q4 := eqInTag w n [a15, a16, a17, a18, a19, a20, a21, a22, a23, a24] [b15, b16, b17, b18, b19, b20, b21, b22, b23, b24] rfl rfl
 have hb : ([a0, a1, a2, a3, a4, a5, a6, a7, a8, a9, a10, a11, a12, a13, a14, a15, a16, a17, a18, a19, a20, a21, a22, a23, a24] == [b0, b1, b2, b3, b4, b5, b6, b7, b8, b9, b10, b11, b12, b13, b14, b15, b16, b17, b18, b19, b20, b21, b22, b23, b24]) = (((a0.toNat : Int) == (b0.toNat : Int)) && (((a1.toNat : Int) == (b1.toNat : Int)) && (((a2.toNat : Int) == (b2.toNat : Int)) && (([a3, a4, a5, a6, a7, a8, a9, a10, a11, a12, a13, a14] == [b3, b4, b5, b6, b7, b8, b9, b10, b11, b12, b13, b14]) && ([a15, a16, a17, a18, a19, a20, a21, a22, a23, a24] == [b15, b16, b17, b18, b19, b20, b21, b22, b23, b24]))))) := by
   rw [Bool.eq_iff_iff]
   simp only [beq_iff_eq, Bool.and_eq_true, List.cons.injEq, Int.ofNat_inj, UInt8.toNat_inj, and_assoc, and_true]
 rw [hb]
 generalize ((a0.toNat : Int) == (b0.toNat : Int)) = r0 at *
 generalize ((a1.toNat : Int) == (b1.toNat : Int)) = r1 at *
 generalize ((a2.toNat : Int) == (b2.toNat : Int)) = r2 at *
 generalize ([a3, a4, a5, a6, a7, a8, a9, a10, a11, a12, a13, a14] == [b3, b4, b5, b6, b7, b8, b9, b10, b11, b12, b13, b14]) = r3 at *
 generalize ([a15, a16, a17, a18, a19, a20, a21, a22, a23, a24] == [b15, b16, b17, b18, b19, b20, b21, b22, b23, b24]) = r4 at *
 simp only [Program.fieldsOf, Tryz.underlying32, Op.eqFields]
 simp [partK0, partK1, partK2, partK3, partK4, q0, q1, q2, q3, q4]
 cases r0 <;> cases r1 <;> cases r2 <;> cases r3 <;> cases r4 <;> simp
end Go.Proofs.YtbfefdedjcppaaaGreatDoor.Kx
namespace Go.Proofs.YtbfefdedjcppaaaGreatDoor
open Go.RowKit
structure Ev where
 at_ : Int
 key : List UInt8
 dead : Bool
 mark : Bool
 lkey : key.length = 25
def evC (x : Ev) : List Value := .int .u64 x.at_ :: ((bC x.key).toList ++ [.bool x.dead, .bool x.mark])
theorem evC_len (x : Ev) : (evC x).length = 28 := by simp [evC, bC, x.lkey]
theorem evC_one (x : Ev) : (evC x).all (·.oneCell') = true := by
 have h1 := bC_one x.key
 rw [← Array.all_toList] at h1
 simp only [evC, List.all_append, List.all_cons, h1, Bool.true_and, Bool.and_true, List.all_nil]
 rfl
def eqE (x y : Ev) : Bool := (x.at_ == y.at_) && ((x.key == y.key) && ((x.dead == y.dead) && (x.mark == y.mark)))
theorem eqE_self (x : Ev) : eqE x x = true := by simp [eqE]
theorem partE0 (t : Int) (a0 a1 a2 a3 a4 a5 a6 a7 a8 a9 a10 a11 a12 a13 a14 a15 a16 a17 a18 a19 a20 a21 a22 a23 a24 : UInt8) (d m : Bool) (w : World) : (part 60 (evC ⟨t, [a0, a1, a2, a3, a4, a5, a6, a7, a8, a9, a10, a11, a12, a13, a14, a15, a16, a17, a18, a19, a20, a21, a22, a23, a24], d, m, rfl⟩).toArray 0).run Tryz.prog w = .ok (.int .u64 t) w := by kernel_rfl
theorem partE1 (t : Int) (a0 a1 a2 a3 a4 a5 a6 a7 a8 a9 a10 a11 a12 a13 a14 a15 a16 a17 a18 a19 a20 a21 a22 a23 a24 : UInt8) (d m : Bool) (w : World) : (part 32 (evC ⟨t, [a0, a1, a2, a3, a4, a5, a6, a7, a8, a9, a10, a11, a12, a13, a14, a15, a16, a17, a18, a19, a20, a21, a22, a23, a24], d, m, rfl⟩).toArray 1).run Tryz.prog w = .ok (.agg (bC [a0, a1, a2, a3, a4, a5, a6, a7, a8, a9, a10, a11, a12, a13, a14, a15, a16, a17, a18, a19, a20, a21, a22, a23, a24])) w := by kernel_rfl
theorem partE2 (t : Int) (a0 a1 a2 a3 a4 a5 a6 a7 a8 a9 a10 a11 a12 a13 a14 a15 a16 a17 a18 a19 a20 a21 a22 a23 a24 : UInt8) (d m : Bool) (w : World) : (part 4 (evC ⟨t, [a0, a1, a2, a3, a4, a5, a6, a7, a8, a9, a10, a11, a12, a13, a14, a15, a16, a17, a18, a19, a20, a21, a22, a23, a24], d, m, rfl⟩).toArray 26).run Tryz.prog w = .ok (.bool d) w := by kernel_rfl
theorem partE3 (t : Int) (a0 a1 a2 a3 a4 a5 a6 a7 a8 a9 a10 a11 a12 a13 a14 a15 a16 a17 a18 a19 a20 a21 a22 a23 a24 : UInt8) (d m : Bool) (w : World) : (part 4 (evC ⟨t, [a0, a1, a2, a3, a4, a5, a6, a7, a8, a9, a10, a11, a12, a13, a14, a15, a16, a17, a18, a19, a20, a21, a22, a23, a24], d, m, rfl⟩).toArray 27).run Tryz.prog w = .ok (.bool m) w := by kernel_rfl
theorem eqInEv (w : World) (x y : Ev) : (Op.equalIn 10000 62 (.agg (evC x).toArray) (.agg (evC y).toArray)).run Tryz.prog w = .ok (eqE x y) w := by
 obtain ⟨t, k, d, m, hk⟩ := x
 obtain ⟨t', k', d', m', hk'⟩ := y
 obtain ⟨a0, a1, a2, a3, a4, a5, a6, a7, a8, a9, a10, a11, a12, a13, a14, a15, a16, a17, a18, a19, a20, a21, a22, a23, a24, rfl⟩ := Kx.list25 k hk
 obtain ⟨b0, b1, b2, b3, b4, b5, b6, b7, b8, b9, b10, b11, b12, b13, b14, b15, b16, b17, b18, b19, b20, b21, b22, b23, b24, rfl⟩ := Kx.list25 k' hk'
 rw [show (10000 : Nat) = 9999 + 1 from rfl, run_equalIn_struct w 9999 62 _ _ (by kernel_rfl) (by kernel_rfl)]
 have q0 := run_equalIn_int (P := Tryz.prog) w 9998 60 .u64 .u64 t t' Tryz.underlying60
 have q1 := Kx.eqInKey w 9995 [a0, a1, a2, a3, a4, a5, a6, a7, a8, a9, a10, a11, a12, a13, a14, a15, a16, a17, a18, a19, a20, a21, a22, a23, a24] [b0, b1, b2, b3, b4, b5, b6, b7, b8, b9, b10, b11, b12, b13, b14, b15, b16, b17, b18, b19, b20, b21, b22, b23, b24] rfl rfl
 have q2 := run_equalIn_bool (P := Tryz.prog) w 9998 4 d d' Tryz.underlying4
 have q3 := run_equalIn_bool (P := Tryz.prog) w 9998 4 m m' Tryz.underlying4
 unfold eqE
 simp only
 generalize (t == t') = r0 at *
 generalize ([a0, a1, a2, a3, a4, a5, a6, a7, a8, a9, a10, a11, a12, a13, a14, a15, a16, a17, a18, a19, a20, a21, a22, a23, a24] == [b0, b1, b2, b3, b4, b5, b6, b7, b8, b9, b10, b11, b12, b13, b14, b15, b16, b17, b18, b19, b20, b21, b22, b23, b24]) = r1 at *
 generalize (d == d') = r2 at *
 generalize (m == m') = r3 at *
 simp only [Program.fieldsOf, Tryz.underlying62, Op.eqFields]
 simp [partE0, partE1, partE2, partE3, q0, q1, q2, q3]
 cases r0 <;> cases r1 <;> cases r2 <;> cases r3 <;> simp
theorem neqEv (w : World) (x y : Ev) : (binOp .neq 62 (.agg (evC x).toArray) (.agg (evC y).toArray)).run Tryz.prog w = .ok (.bool (!eqE x y)) w := by
 rw [run_neq_struct, eqInEv]; rfl
def eqR (x y : RpD) : Bool := (x.err == y.err) && ((x.text.toList == y.text.toList) && ((x.tag == y.tag) && ((x.st == y.st) && (x.n == y.n))))
theorem eqR_self (x : RpD) : eqR x x = true := by simp [eqR]
theorem partR0 (e : Int) (s : ByteArray) (a0 a1 a2 a3 a4 a5 a6 a7 a8 a9 : UInt8) (st n : Int) (w : World) : (part 37 (rpC ⟨e, s, [a0, a1, a2, a3, a4, a5, a6, a7, a8, a9], st, n, rfl⟩).toArray 0).run Tryz.prog w = .ok (.int .i64 e) w := by kernel_rfl
theorem partR1 (e : Int) (s : ByteArray) (a0 a1 a2 a3 a4 a5 a6 a7 a8 a9 : UInt8) (st n : Int) (w : World) : (part 9 (rpC ⟨e, s, [a0, a1, a2, a3, a4, a5, a6, a7, a8, a9], st, n, rfl⟩).toArray 1).run Tryz.prog w = .ok (.string s) w := by kernel_rfl
theorem partR2 (e : Int) (s : ByteArray) (a0 a1 a2 a3 a4 a5 a6 a7 a8 a9 : UInt8) (st n : Int) (w : World) : (part 28 (rpC ⟨e, s, [a0, a1, a2, a3, a4, a5, a6, a7, a8, a9], st, n, rfl⟩).toArray 2).run Tryz.prog w = .ok (.agg (bC [a0, a1, a2, a3, a4, a5, a6, a7, a8, a9])) w := by kernel_rfl
theorem partR3 (e : Int) (s : ByteArray) (a0 a1 a2 a3 a4 a5 a6 a7 a8 a9 : UInt8) (st n : Int) (w : World) : (part 3 (rpC ⟨e, s, [a0, a1, a2, a3, a4, a5, a6, a7, a8, a9], st, n, rfl⟩).toArray 12).run Tryz.prog w = .ok (.int .i64 st) w := by kernel_rfl
theorem partR4 (e : Int) (s : ByteArray) (a0 a1 a2 a3 a4 a5 a6 a7 a8 a9 : UInt8) (st n : Int) (w : World) : (part 3 (rpC ⟨e, s, [a0, a1, a2, a3, a4, a5, a6, a7, a8, a9], st, n, rfl⟩).toArray 13).run Tryz.prog w = .ok (.int .i64 n) w := by kernel_rfl
theorem eqInRp (w : World) (x y : RpD) : (Op.equalIn 10000 56 (.agg (rpC x).toArray) (.agg (rpC y).toArray)).run Tryz.prog w = .ok (eqR x y) w := by
 obtain ⟨e, s, g, st, n, hg⟩ := x
 obtain ⟨e', s', g', st', n', hg'⟩ := y
 obtain ⟨a0, a1, a2, a3, a4, a5, a6, a7, a8, a9, rfl⟩ := Kx.list10 g hg
 obtain ⟨b0, b1, b2, b3, b4, b5, b6, b7, b8, b9, rfl⟩ := Kx.list10 g' hg'
 rw [show (10000 : Nat) = 9999 + 1 from rfl, run_equalIn_struct w 9999 56 _ _ (by kernel_rfl) (by kernel_rfl)]
 have q0 := run_equalIn_int (P := Tryz.prog) w 9998 37 .i64 .i64 e e' Tryz.underlying37
 have q1 := run_equalIn_string (P := Tryz.prog) w 9998 9 s s' Tryz.underlying9
 have q2 := Kx.eqInTag w 9996 [a0, a1, a2, a3, a4, a5, a6, a7, a8, a9] [b0, b1, b2, b3, b4, b5, b6, b7, b8, b9] rfl rfl
 have q3 := run_equalIn_int (P := Tryz.prog) w 9998 3 .i64 .i64 st st' Tryz.underlying3
 have q4 := run_equalIn_int (P := Tryz.prog) w 9998 3 .i64 .i64 n n' Tryz.underlying3
 unfold eqR
 simp only
 generalize (e == e') = r0 at *
 generalize (s.toList == s'.toList) = r1 at *
 generalize ([a0, a1, a2, a3, a4, a5, a6, a7, a8, a9] == [b0, b1, b2, b3, b4, b5, b6, b7, b8, b9]) = r2 at *
 generalize (st == st') = r3 at *
 generalize (n == n') = r4 at *
 simp only [Program.fieldsOf, Tryz.underlying56, Op.eqFields]
 simp [partR0, partR1, partR2, partR3, partR4, q0, q1, q2, q3, q4]
 cases r0 <;> cases r1 <;> cases r2 <;> cases r3 <;> cases r4 <;> simp
theorem neqRp (w : World) (x y : RpD) : (binOp .neq 56 (.agg (rpC x).toArray) (.agg (rpC y).toArray)).run Tryz.prog w = .ok (.bool (!eqR x y)) w := by
 rw [run_neq_struct, eqInRp]; rfl
end Go.Proofs.YtbfefdedjcppaaaGreatDoor
