/- Prefix: Has. -/
import Derived.Test.YtagdedjclbmlkaaK4
import Derived.Laws.StructEq
namespace Go.Proofs.Ytagdedjclbmlkaa
open Go.RowKit

theorem list25 (q : List UInt8) (hq : q.length = 25) : ∃ a0 a1 a2 a3 a4 a5 a6 a7 a8 a9 a10 a11 a12 a13 a14 a15 a16 a17 a18 a19 a20 a21 a22 a23 a24, q = [a0, a1, a2, a3, a4, a5, a6, a7, a8, a9, a10, a11, a12, a13, a14, a15, a16, a17, a18, a19, a20, a21, a22, a23, a24] := by
  match q, hq with
  | [a0, a1, a2, a3, a4, a5, a6, a7, a8, a9, a10, a11, a12, a13, a14, a15, a16, a17, a18, a19, a20, a21, a22, a23, a24], _ => exact ⟨a0, a1, a2, a3, a4, a5, a6, a7, a8, a9, a10, a11, a12, a13, a14, a15, a16, a17, a18, a19, a20, a21, a22, a23, a24, rfl⟩
theorem builtPre0 (a0 a1 a2 a3 a4 a5 a6 a7 a8 a9 a10 a11 a12 a13 a14 a15 a16 a17 a18 a19 a20 a21 a22 a23 a24 : UInt8) (d : Int) : Try.prog.built 63 [(0, .agg (bC [a0, a1, a2, a3, a4, a5, a6, a7, a8, a9, a10, a11, a12, a13, a14, a15, a16, a17, a18, a19, a20, a21, a22, a23, a24])), (1, .int .i64 d)] = some (pC [a0, a1, a2, a3, a4, a5, a6, a7, a8, a9, a10, a11, a12, a13, a14, a15, a16, a17, a18, a19, a20, a21, a22, a23, a24] d).toArray := by kernel_rfl
theorem builtPre (q : List UInt8) (hq : q.length = 25) (d : Int) : Try.prog.built 63 [(0, .agg (bC q)), (1, .int .i64 d)] = some (pC q d).toArray := by
  obtain ⟨a0, a1, a2, a3, a4, a5, a6, a7, a8, a9, a10, a11, a12, a13, a14, a15, a16, a17, a18, a19, a20, a21, a22, a23, a24, rfl⟩ := list25 q hq
  exact builtPre0 ..
theorem list10 (l : List UInt8) (h : l.length = 10) : ∃ a b c d e f g i j k, l = [a, b, c, d, e, f, g, i, j, k] := by
  match l, h with
  | [a, b, c, d, e, f, g, i, j, k], _ => exact ⟨a, b, c, d, e, f, g, i, j, k, rfl⟩
theorem run_eqIn (w : World) (t : TypeId) (n d : Nat) (ht : Try.prog.underlying t = some (.array n 5)) (xs ys : List UInt8) (hx : xs.length = n) (hy : ys.length = n) : (Op.equalIn (d + 2) t (.agg (bC xs)) (.agg (bC ys))).run Try.prog w = .ok (xs == ys) w :=
  run_equalIn_bytes w d t 5 n ht Try.underlying5 (fun _ => by kernel_rfl) xs ys hx hy
theorem eqInTag (w : World) (n : Nat) (xs ys : List UInt8) (hx : xs.length = 10) (hy : ys.length = 10) : (Op.equalIn (n + 3) 28 (.agg (bC xs)) (.agg (bC ys))).run Try.prog w = .ok (xs == ys) w := by
  obtain ⟨a, b, c, d, e, f, g, i, j, k, rfl⟩ := list10 xs hx
  obtain ⟨a', b', c', d', e', f', g', i', j', k', rfl⟩ := list10 ys hy
  rw [run_equalIn_struct w (n + 2) 28 _ _ (by kernel_rfl) (by kernel_rfl)]
  have p0 : ∀ (a b c d e f g i j k : UInt8) (w : World), (part 25 (bC [a, b, c, d, e, f, g, i, j, k]) 0).run Try.prog w = .ok (.agg (bC [a, b, c])) w := fun _ _ _ _ _ _ _ _ _ _ _ => by kernel_rfl
  have p1 : ∀ (a b c d e f g i j k : UInt8) (w : World), (part 26 (bC [a, b, c, d, e, f, g, i, j, k]) 3).run Try.prog w = .ok (.agg (bC [d, e, f, g])) w := fun _ _ _ _ _ _ _ _ _ _ _ => by kernel_rfl
  have p2 : ∀ (a b c d e f g i j k : UInt8) (w : World), (part 25 (bC [a, b, c, d, e, f, g, i, j, k]) 7).run Try.prog w = .ok (.agg (bC [i, j, k])) w := fun _ _ _ _ _ _ _ _ _ _ _ => by kernel_rfl
  have q0 := run_eqIn w 25 3 n Try.underlying25 [a, b, c] [a', b', c'] rfl rfl
  have q1 := run_eqIn w 26 4 n Try.underlying26 [d, e, f, g] [d', e', f', g'] rfl rfl
  have q2 := run_eqIn w 25 3 n Try.underlying25 [i, j, k] [i', j', k'] rfl rfl
  have hb : ([a, b, c, d, e, f, g, i, j, k] == [a', b', c', d', e', f', g', i', j', k']) = (([a, b, c] == [a', b', c']) && (([d, e, f, g] == [d', e', f', g']) && ([i, j, k] == [i', j', k']))) := by
    rw [Bool.eq_iff_iff]; simp; constructor
    · rintro ⟨h1, h2, h3, h4, h5, h6, h7, h8, h9, h10⟩; exact ⟨⟨h1, h2, h3⟩, ⟨h4, h5, h6, h7⟩, h8, h9, h10⟩
    · rintro ⟨⟨h1, h2, h3⟩, ⟨h4, h5, h6, h7⟩, h8, h9, h10⟩; exact ⟨h1, h2, h3, h4, h5, h6, h7, h8, h9, h10⟩
  rw [hb]
  generalize ([a, b, c] == [a', b', c']) = r0 at *
  generalize ([d, e, f, g] == [d', e', f', g']) = r1 at *
  generalize ([i, j, k] == [i', j', k']) = r2 at *
  simp only [Program.fieldsOf, Try.underlying28, Op.eqFields]
  simp [p0, p1, p2, q0, q1, q2]
  cases r0 <;> cases r1 <;> cases r2 <;> simp
theorem partK0 (a0 a1 a2 a3 a4 a5 a6 a7 a8 a9 a10 a11 a12 a13 a14 a15 a16 a17 a18 a19 a20 a21 a22 a23 a24 : UInt8) (w : World) : (part 5 (bC [a0, a1, a2, a3, a4, a5, a6, a7, a8, a9, a10, a11, a12, a13, a14, a15, a16, a17, a18, a19, a20, a21, a22, a23, a24]) 0).run Try.prog w = .ok (.int .u8 (a0.toNat : Int)) w := by kernel_rfl
theorem partK1 (a0 a1 a2 a3 a4 a5 a6 a7 a8 a9 a10 a11 a12 a13 a14 a15 a16 a17 a18 a19 a20 a21 a22 a23 a24 : UInt8) (w : World) : (part 5 (bC [a0, a1, a2, a3, a4, a5, a6, a7, a8, a9, a10, a11, a12, a13, a14, a15, a16, a17, a18, a19, a20, a21, a22, a23, a24]) 1).run Try.prog w = .ok (.int .u8 (a1.toNat : Int)) w := by kernel_rfl
theorem partK2 (a0 a1 a2 a3 a4 a5 a6 a7 a8 a9 a10 a11 a12 a13 a14 a15 a16 a17 a18 a19 a20 a21 a22 a23 a24 : UInt8) (w : World) : (part 5 (bC [a0, a1, a2, a3, a4, a5, a6, a7, a8, a9, a10, a11, a12, a13, a14, a15, a16, a17, a18, a19, a20, a21, a22, a23, a24]) 2).run Try.prog w = .ok (.int .u8 (a2.toNat : Int)) w := by kernel_rfl
theorem partK3 (a0 a1 a2 a3 a4 a5 a6 a7 a8 a9 a10 a11 a12 a13 a14 a15 a16 a17 a18 a19 a20 a21 a22 a23 a24 : UInt8) (w : World) : (part 24 (bC [a0, a1, a2, a3, a4, a5, a6, a7, a8, a9, a10, a11, a12, a13, a14, a15, a16, a17, a18, a19, a20, a21, a22, a23, a24]) 3).run Try.prog w = .ok (.agg (bC [a3, a4, a5, a6, a7, a8, a9, a10, a11, a12, a13, a14])) w := by kernel_rfl
theorem partK4 (a0 a1 a2 a3 a4 a5 a6 a7 a8 a9 a10 a11 a12 a13 a14 a15 a16 a17 a18 a19 a20 a21 a22 a23 a24 : UInt8) (w : World) : (part 28 (bC [a0, a1, a2, a3, a4, a5, a6, a7, a8, a9, a10, a11, a12, a13, a14, a15, a16, a17, a18, a19, a20, a21, a22, a23, a24]) 15).run Try.prog w = .ok (.agg (bC [a15, a16, a17, a18, a19, a20, a21, a22, a23, a24])) w := by kernel_rfl
theorem eqInKey (w : World) (n : Nat) (xs ys : List UInt8) (hx : xs.length = 25) (hy : ys.length = 25) : (Op.equalIn (n + 4) 30 (.agg (bC xs)) (.agg (bC ys))).run Try.prog w = .ok (xs == ys) w := by
  obtain ⟨a0, a1, a2, a3, a4, a5, a6, a7, a8, a9, a10, a11, a12, a13, a14, a15, a16, a17, a18, a19, a20, a21, a22, a23, a24, rfl⟩ := list25 xs hx
  obtain ⟨b0, b1, b2, b3, b4, b5, b6, b7, b8, b9, b10, b11, b12, b13, b14, b15, b16, b17, b18, b19, b20, b21, b22, b23, b24, rfl⟩ := list25 ys hy
  rw [run_equalIn_struct w (n + 3) 30 _ _ (by kernel_rfl) (by kernel_rfl)]
  have q0 := run_equalIn_int (P := Try.prog) w (n + 2) 5 .u8 .u8 (a0.toNat : Int) (b0.toNat : Int) Try.underlying5
  have q1 := run_equalIn_int (P := Try.prog) w (n + 2) 5 .u8 .u8 (a1.toNat : Int) (b1.toNat : Int) Try.underlying5
  have q2 := run_equalIn_int (P := Try.prog) w (n + 2) 5 .u8 .u8 (a2.toNat : Int) (b2.toNat : Int) Try.underlying5
  have q3 := run_eqIn w 24 12 (n + 1) Try.underlying24 [a3, a4, a5, a6, a7, a8, a9, a10, a11, a12, a13, a14] [b3, b4, b5, b6, b7, b8, b9, b10, b11, b12, b13, b14] rfl rfl
  have q4 := eqInTag w n [a15, a16, a17, a18, a19, a20, a21, a22, a23, a24] [b15, b16, b17, b18, b19, b20, b21, b22, b23, b24] rfl rfl
  have hb : ([a0, a1, a2, a3, a4, a5, a6, a7, a8, a9, a10, a11, a12, a13, a14, a15, a16, a17, a18, a19, a20, a21, a22, a23, a24] == [b0, b1, b2, b3, b4, b5, b6, b7, b8, b9, b10, b11, b12, b13, b14, b15, b16, b17, b18, b19, b20, b21, b22, b23, b24]) = (((a0.toNat : Int) == (b0.toNat : Int)) && (((a1.toNat : Int) == (b1.toNat : Int)) && (((a2.toNat : Int) == (b2.toNat : Int)) && (([a3, a4, a5, a6, a7, a8, a9, a10, a11, a12, a13, a14] == [b3, b4, b5, b6, b7, b8, b9, b10, b11, b12, b13, b14]) && ([a15, a16, a17, a18, a19, a20, a21, a22, a23, a24] == [b15, b16, b17, b18, b19, b20, b21, b22, b23, b24]))))) := by
    rw [Bool.eq_iff_iff]
    simp only [beq_iff_eq, Bool.and_eq_true, List.cons.injEq, Int.ofNat_inj, UInt8.toNat_inj, and_assoc, and_true]
  rw [hb]
  generalize ((a0.toNat : Int) == (b0.toNat : Int)) = r0 at *
  generalize ((a1.toNat : Int) == (b1.toNat : Int)) = r1 at *
  generalize ((a2.toNat : Int) == (b2.toNat : Int)) = r2 at *
  generalize ([a3, a4, a5, a6, a7, a8, a9, a10, a11, a12, a13, a14] == [b3, b4, b5, b6, b7, b8, b9, b10, b11, b12, b13, b14]) = r3 at *
  generalize ([a15, a16, a17, a18, a19, a20, a21, a22, a23, a24] == [b15, b16, b17, b18, b19, b20, b21, b22, b23, b24]) = r4 at *
  simp only [Program.fieldsOf, Try.underlying30, Op.eqFields]
  simp [partK0, partK1, partK2, partK3, partK4, q0, q1, q2, q3, q4]
  cases r0 <;> cases r1 <;> cases r2 <;> cases r3 <;> cases r4 <;> simp
theorem eqlKey (w : World) (xs ys : List UInt8) (hx : xs.length = 25) (hy : ys.length = 25) : (binOp .eql 30 (.agg (bC xs)) (.agg (bC ys))).run Try.prog w = .ok (.bool (xs == ys)) w := by
  rw [run_eql_struct, show (10000 : Nat) = 9996 + 4 from rfl, eqInKey w 9996 xs ys hx hy]; rfl
theorem exec_eqlKey {a : Act} {o : Oper} (w : World) (x y : Operand) (ho : o.op = .binOp .eql 30 x y 30) (xs ys : List UInt8) (hxs : xs.length = 25) (hys : ys.length = 25) (hx : a.eval x = .agg (bC xs)) (hy : a.eval y = .agg (bC ys)) : (execOp a.eval o).run Try.prog w = .ok (.value (.bool (xs == ys))) w := by
  have hgd : (eqGuard .eql 30 x y (.agg (bC xs)) (.agg (bC ys))).run Try.prog w = .ok () w := run_eqGuard_agg w .eql 30 x y _ _ (by kernel_rfl)
  unfold execOp
  simp only [ho, hx, hy, Sem.run_bind, hgd, eqlKey w xs ys hxs hys, Result.andThen_ok, Sem.run_pure]
def hasP (k : List UInt8) (d : Int) (q : List UInt8) : Bool := depOk d && (cutK k d == cutK q d)
section
variable {W : World} {P : Program} {ops : Array Oper} {Q : Act → Prop} {a : Act} {o : Oper} {rest : List Oper}
theorem wq_cell (hw : Region.wanted o (yielded ops a.tmps) = true) (T : TypeId) (x : Operand) (ho : o.op = .load T x) (b i : Nat) (v : Value) (kd : IntKind) (hu : P.underlying T = some (.int kd))
    (hx : a.eval x = .pointer (some ⟨b, i, none⟩)) (hc : W.rangeAt b i [v]) (hb : b < W.heap.size)
    (h : wpQuiet P ops (fun w' => ∃ p : Regrown, w' = Sort.grow (redrawn W p.d) p.os) Q rest (a.put o.dst v)) : wpQuiet P ops (fun w' => ∃ p : Regrown, w' = Sort.grow (redrawn W p.d) p.os) Q (o :: rest) a := by
  refine wq_valC v hw (fun w hC => ?_) h
  obtain ⟨⟨dq, osq⟩, rfl⟩ := hC
  have hc' := range_of_block hc ((below_regrown W dq osq).block b hb)
  have hq : (Sort.grow (redrawn W dq) osq).cell? ⟨b, i, none⟩ = some v := by simpa using hc' 0 v rfl
  unfold execOp
  simp only [ho, hx, Sem.run_bind]
  have hag : (isAgg T).run P (Sort.grow (redrawn W dq) osq) = .ok false (Sort.grow (redrawn W dq) osq) := by simp [isAgg, run_underlying hu]
  simp [go_sem, hag, hq]
theorem wq_bd (C : World → Prop) (hw : Region.wanted o (yielded ops a.tmps) = true) (t : TypeId) (parts : List (Nat × Operand)) (ho : o.op = .build t parts.toArray)
    (vs : List (Nat × Value)) (hv : parts.map (fun p => (p.1, a.eval p.2)) = vs) (cells : Array Value) (hf : P.built t vs = some cells)
    (h : wpQuiet P ops C Q rest (a.put o.dst (.agg cells))) : wpQuiet P ops C Q (o :: rest) a := by
  refine wq_val (.agg cells) hw (fun w => ?_) h
  have e : (parts.toArray.map fun (i, x) => (i, a.eval x)).toList = vs := by rw [← hv]; simp
  unfold execOp
  simp only [ho, Sem.run_bind]
  rw [run_build w t _ cells (by rw [e]; exact hf)]
  rfl
end
set_option maxRecDepth 100000 in
set_option maxHeartbeats 4000000 in
theorem has_any (k : List UInt8) (d : Int) (q : List UInt8) (w : World) (hk : k.length = 25) (hq : q.length = 25) :
    Calls Try.prog 47 #[.agg (pC k d).toArray, .agg (bC q)] w fun e w' => e = .returned (.bool (hasP k d q)) ∧ Below w.heap.size w w' := by
  have HK := Lib.hid hk
  have HQ := Lib.hid hq
  have FA : Hid (((w.alloc (.cells (pC k d).toArray 63)).alloc (.cells (bC q) 30)).heap[w.heap.size]? = some (Obj.cells (pC k d).toArray 63 (0, 0))) := heap_alloc2_old _ _ _
  have FB : Hid (((w.alloc (.cells (pC k d).toArray 63)).alloc (.cells (bC q) 30)).heap[w.heap.size + 1]? = some (Obj.cells (bC q) 30 (0, 0))) := heap_alloc2_new _ _ _
  have HB : Hid (Below w.heap.size w ((w.alloc (.cells (pC k d).toArray 63)).alloc (.cells (bC q) 30))) := below_alloc2 _ _ _
  have KR : Hid (∀ W, Calls Try.prog 59 #[.agg (pC k d).toArray] W fun e w' => e = .returned (.bool (depOk d)) ∧ Below W.heap.size W w') := fun W => right_any k d W hk
  have KC : Hid (∀ l, l.length = 25 → ∀ W, Calls Try.prog 60 #[.agg (pC l d).toArray] W fun e w' => e = .returned (.agg (bC (cutK l d))) ∧ Below W.heap.size W w') := fun l hl W => cut_any l d W hl
  have HD : Hid ((((w.alloc (.cells (pC k d).toArray 63)).alloc (.cells (bC q) 30))).rangeAt w.heap.size 25 [.int .i64 d]) := by
    intro i x hx
    cases i with
    | zero => simp at hx; subst hx; rw [cell_blk FA.out]; exact pC_d hk d
    | succ i => simp at hx
  clear hk hq
  cases hr : depOk d <;> rw [hr] at KR
  · have HR : Hid (hasP k d q = false) := by show _ = _; simp [hasP, hr]
    go_enter Try.func47, Try.ntmps47
    go_upto_region 1 with fail
    generalize ((w.alloc (.cells (pC k d).toArray 63)).alloc (.cells (bC q) 30)) = W0 at *
    refine wp_region_quiet_below (by kernel_rfl) (by kernel_rfl) ?_
    repeat (first
      | (refine wq_ldr rfl 63 _ rfl w.heap.size 0 (pC k d) _ Try.underlying63 rfl (by rw [sizPre, pC_len HK.out]) rfl (range_whole (by simpa using FA.out)) (lt_heap FA.out) ?_; simp only [Act.put, List.setIfInBounds_toArray, List.set_cons_zero, List.set_cons_succ])
      | go_big_quiet_step (first | (with_reducible exact rg_call KR.out _ _) | (with_reducible exact rg_call (KC.out k HK.out) _ _) | (with_reducible exact rg_call (KC.out q HQ.out) _ _)))
    refine wpQuiet_nil ?_
    rintro _ ⟨⟨dq, osq⟩, rfl⟩
    have HB3 := bt HB (below_regrown W0 dq osq)
    go_wp2_with fail
    go_ret
    exact ⟨ret_bool HR.out.symm, HB3.out⟩
  · have HR : Hid (hasP k d q = (cutK k d == cutK q d)) := by show _ = _; simp [hasP, hr]
    go_enter Try.func47, Try.ntmps47
    go_upto_region 1 with fail
    generalize ((w.alloc (.cells (pC k d).toArray 63)).alloc (.cells (bC q) 30)) = W0 at *
    refine wp_region_quiet_below (by kernel_rfl) (by kernel_rfl) ?_
    repeat (first
      | (refine wq_ldr rfl 63 _ rfl w.heap.size 0 (pC k d) _ Try.underlying63 rfl (by rw [sizPre, pC_len HK.out]) rfl (range_whole (by simpa using FA.out)) (lt_heap FA.out) ?_; simp only [Act.put, List.setIfInBounds_toArray, List.set_cons_zero, List.set_cons_succ])
      | (refine wq_ldr rfl 30 _ rfl (w.heap.size + 1) 0 (bC q).toList _ Try.underlying30 rfl (by rw [sizKey]; simp [bC_size, HQ.out]) rfl (range_whole (by simpa using FB.out)) (lt_heap FB.out) ?_; simp only [Act.put, List.setIfInBounds_toArray, List.set_cons_zero, List.set_cons_succ])
      | (refine wq_cell rfl 3 _ rfl w.heap.size 25 (.int .i64 d) _ Try.underlying3 rfl HD.out (lt_heap FA.out) ?_; simp only [Act.put, List.setIfInBounds_toArray, List.set_cons_zero, List.set_cons_succ])
      | (refine wq_bd _ rfl 63 [(0, .tmp 10), (1, .tmp 12)] rfl [(0, .agg (bC q)), (1, .int .i64 d)] rfl (pC q d).toArray (builtPre q HQ.out d) ?_; simp only [Act.put, List.setIfInBounds_toArray, List.set_cons_zero, List.set_cons_succ])
      | (refine wq_val (.bool (cutK k d == cutK q d)) rfl (fun w => exec_eqlKey w _ _ rfl _ _ (cutK_len HK.out d) (cutK_len HQ.out d) rfl rfl) ?_; simp only [Act.put, List.setIfInBounds_toArray, List.set_cons_zero, List.set_cons_succ])
      | go_big_quiet_step (first | (with_reducible exact rg_call KR.out _ _) | (with_reducible exact rg_call (KC.out k HK.out) _ _) | (with_reducible exact rg_call (KC.out q HQ.out) _ _)))
    refine wpQuiet_nil ?_
    rintro _ ⟨⟨dq, osq⟩, rfl⟩
    have HB3 := bt HB (below_regrown W0 dq osq)
    go_wp2_with fail
    go_ret
    exact ⟨ret_bool HR.out.symm, HB3.out⟩
end Go.Proofs.Ytagdedjclbmlkaa
