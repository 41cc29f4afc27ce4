/- The document's Has and Next. Printed by gE4.py. -/
import Derived.Test.YtagdedjclbmlkaaD4
import Derived.Test.YtagdedjclbmlkaaGX
import Derived.Test.YtagdedjclbmlkaaD5
namespace Go.Proofs.Ytagdedjclbmlkaa
open Go.RowKit

theorem exec_eqZ {o : Oper} {a : Act} {w : World} (x y : Operand) (ho : o.op = .binOp .eql 3 x y 3) (m n : Int) (b : Bool) (hb : decide (m = n) = b) (hx : a.eval x = .int .i64 m) (hy : a.eval y = .int .i64 n) : (execOp a.eval o).run Try.prog w = .ok (.value (.bool b)) w := by
  subst hb
  unfold execOp
  simp only [ho, hx, hy]
  by_cases h : m = n
  · simp [go_sem, h]
  · simp [go_sem, h]
set_option maxRecDepth 100000 in
theorem exec_eqArr {o : Oper} {a : Act} {w : World} (T : TypeId) (n : Nat) (hT : Try.prog.underlying T = some (.array n 5)) (hs : Try.prog.eqGuardType Try.prog.depth T = false) (x y : Operand) (ho : o.op = .binOp .eql T x y T) (xs ys : List UInt8) (hxs : xs.length = n) (hys : ys.length = n) (b : Bool) (hb : (xs == ys) = b) (hx : a.eval x = .agg (bC xs)) (hy : a.eval y = .agg (bC ys)) : (execOp a.eval o).run Try.prog w = .ok (.value (.bool b)) w := by
  have hgd : (eqGuard .eql T x y (.agg (bC xs)) (.agg (bC ys))).run Try.prog w = .ok () w := run_eqGuard_agg w .eql T x y _ _ hs
  have hq : (binOp .eql T (.agg (bC xs)) (.agg (bC ys))).run Try.prog w = .ok (.bool (xs == ys)) w := run_eql_bytes w T 5 n hT Try.underlying5 (fun _ => by kernel_rfl) xs ys hxs hys
  subst hb
  unfold execOp
  simp only [ho, hx, hy, Sem.run_bind, hgd, hq, Result.andThen_ok, Sem.run_pure]
theorem rk_c0 {w : World} {b : Nat} {l : List UInt8} (h : w.rangeAt b 0 (rkC l)) : w.cell? ⟨b, 0, none⟩ = some (.int .i64 ((l.getD 0 0).toNat : Int)) := h 0 _ rfl
theorem rk_c1 {w : World} {b : Nat} {l : List UInt8} (h : w.rangeAt b 0 (rkC l)) : w.cell? ⟨b, 1, none⟩ = some (.int .i64 ((l.getD 1 0).toNat : Int)) := h 1 _ rfl
theorem rk_c2 {w : World} {b : Nat} {l : List UInt8} (h : w.rangeAt b 0 (rkC l)) : w.cell? ⟨b, 2, none⟩ = some (.int .i64 ((l.getD 2 0).toNat : Int)) := h 2 _ rfl
theorem rk_r {w : World} {b : Nat} {l : List UInt8} (h : w.rangeAt b 0 (rkC l)) : w.rangeAt b 3 (bC (l.drop 3)).toList := range_app_right h 3 rfl
theorem bC_split (l : List UInt8) (n : Nat) : (bC l).toList = (bC (l.take n)).toList ++ (bC (l.drop n)).toList := by
  simp only [bC, ← List.map_append, List.take_append_drop]
theorem rk_n {w : World} {b : Nat} {l : List UInt8} (h : w.rangeAt b 0 (rkC l)) : w.rangeAt b 3 (bC ((l.drop 3).take 12)).toList := by
  have := rk_r h
  rw [bC_split _ 12] at this
  exact range_app_left this
theorem rk_t {w : World} {b : Nat} {l : List UInt8} (hl : l.length = 25) (h : w.rangeAt b 0 (rkC l)) : w.rangeAt b 15 (bC (l.drop 15)).toList := by
  have := rk_r h
  rw [bC_split _ 12] at this
  have := range_app_right this 12 (by simp [bC, hl])
  rwa [List.drop_drop] at this
theorem siz12B : (Try.prog.info? 23).map (·.size) = some 12 := by kernel_rfl
theorem siz10B : (Try.prog.info? 38).map (·.size) = some 10 := by kernel_rfl
def partsB (p k : List UInt8) : List Bool := [decide (((p.getD 0 0).toNat : Int) = ((k.getD 0 0).toNat : Int)), decide (((p.getD 1 0).toNat : Int) = ((k.getD 1 0).toNat : Int)), decide (((p.getD 2 0).toNat : Int) = ((k.getD 2 0).toNat : Int)), (p.drop 3).take 12 == (k.drop 3).take 12, p.drop 15 == k.drop 15]
theorem eqB (x y : UInt8) : decide ((x.toNat : Int) = (y.toNat : Int)) = (x == y) := by
  rw [Bool.eq_iff_iff, decide_eq_true_iff, beq_iff_eq, Int.ofNat_inj, UInt8.toNat_inj]
set_option maxRecDepth 100000 in
theorem has_parts (p k : List UInt8) (hp : p.length = 25) (hk : k.length = 25) (d : Nat) (hd : d ≤ 5) : hasP p (d : Int) k = ((partsB p k).take d).all id := by
  obtain ⟨a0, a1, a2, a3, a4, a5, a6, a7, a8, a9, a10, a11, a12, a13, a14, a15, a16, a17, a18, a19, a20, a21, a22, a23, a24, rfl⟩ := list25 p hp
  obtain ⟨b0, b1, b2, b3, b4, b5, b6, b7, b8, b9, b10, b11, b12, b13, b14, b15, b16, b17, b18, b19, b20, b21, b22, b23, b24, rfl⟩ := list25 k hk
  simp only [partsB, eqB, List.getD_cons_zero, List.getD_cons_succ, List.drop_succ_cons, List.drop_zero, List.take_succ_cons, List.take_zero]
  obtain rfl | rfl | rfl | rfl | rfl | rfl : d = 0 ∨ d = 1 ∨ d = 2 ∨ d = 3 ∨ d = 4 ∨ d = 5 := by omega
  all_goals
    rw [Bool.eq_iff_iff]
    simp [hasP, depOk, cutK, cutN, and_assoc]
set_option maxRecDepth 100000 in
set_option maxHeartbeats 16000000 in
theorem rhas_any (p : List UInt8) (d : Int) (k : List UInt8) (w : World) (hp : p.length = 25) (hk : k.length = 25) :
    Calls Try.prog 25 #[.agg (rkC p).toArray, .int .i64 d, .agg (rkC k).toArray] w fun e w' => e = .returned (.bool (hasP p d k)) ∧ Below w.heap.size w w' := by
  have HP := Lib.hid hp
  have HK := Lib.hid hk
  have HB := Lib.hid (below_alloc2 w (.cells (rkC p).toArray 40) (.cells (rkC k).toArray 40))
  have FA := Lib.hid (heap_alloc2_old w (.cells (rkC p).toArray 40) (.cells (rkC k).toArray 40))
  have FB := Lib.hid (heap_alloc2_new w (.cells (rkC p).toArray 40) (.cells (rkC k).toArray 40))
  go_enter Try.func25, Try.ntmps25
  go_upto_region 1 with fail
  generalize ((w.alloc (.cells (rkC p).toArray 40)).alloc (.cells (rkC k).toArray 40)) = W at *
  have ra : W.rangeAt w.heap.size 0 (rkC p) := range_whole (by simpa using FA.out)
  have rb : W.rangeAt (w.heap.size + 1) 0 (rkC k) := range_whole (by simpa using FB.out)
  obtain ⟨b0, h0⟩ : ∃ b, decide (((p.getD 0 0).toNat : Int) = ((k.getD 0 0).toNat : Int)) = b := ⟨_, rfl⟩
  obtain ⟨b1, h1⟩ : ∃ b, decide (((p.getD 1 0).toNat : Int) = ((k.getD 1 0).toNat : Int)) = b := ⟨_, rfl⟩
  obtain ⟨b2, h2⟩ : ∃ b, decide (((p.getD 2 0).toNat : Int) = ((k.getD 2 0).toNat : Int)) = b := ⟨_, rfl⟩
  obtain ⟨b3, h3⟩ : ∃ b, ((p.drop 3).take 12 == (k.drop 3).take 12) = b := ⟨_, rfl⟩
  obtain ⟨b4, h4⟩ : ∃ b, (p.drop 15 == k.drop 15) = b := ⟨_, rfl⟩
  have HPt : Hid (partsB p k = [b0, b1, b2, b3, b4]) := by show _ = _; rw [partsB, h0, h1, h2, h3, h4]
  have hL3 : ((p.drop 3).take 12).length = 12 := by simp [hp]
  have hL3' : ((k.drop 3).take 12).length = 12 := by simp [hk]
  have hL4 : (p.drop 15).length = 10 := by simp [hp]
  have hL4' : (k.drop 15).length = 10 := by simp [hk]
  have c0 := rk_c0 ra
  have c1 := rk_c1 ra
  have c2 := rk_c2 ra
  have R3 := Lib.hid (rk_n ra)
  have R4 := Lib.hid (rk_t hp ra)
  have e0 := rk_c0 rb
  have e1 := rk_c1 rb
  have e2 := rk_c2 rb
  have S3 := Lib.hid (rk_n rb)
  have S4 := Lib.hid (rk_t hk rb)
  have H0 := Lib.hid h0
  have H1 := Lib.hid h1
  have H2 := Lib.hid h2
  have H3 := Lib.hid h3
  have H4 := Lib.hid h4
  have L3 := Lib.hid hL3
  have L3' := Lib.hid hL3'
  have L4 := Lib.hid hL4
  have L4' := Lib.hid hL4'
  clear ra rb h0 h1 h2 h3 h4 hL3 hL3' hL4 hL4' FA FB hp hk
  generalize ((p.getD 0 0).toNat : Int) = p0 at *
  generalize ((p.getD 1 0).toNat : Int) = p1 at *
  generalize ((p.getD 2 0).toNat : Int) = p2 at *
  generalize ((k.getD 0 0).toNat : Int) = k0 at *
  generalize ((k.getD 1 0).toNat : Int) = k1 at *
  generalize ((k.getD 2 0).toNat : Int) = k2 at *
  generalize (p.drop 3).take 12 = p3 at *
  generalize (k.drop 3).take 12 = k3 at *
  generalize p.drop 15 = p4 at *
  generalize k.drop 15 = k4 at *
  have hb1 : w.heap.size + 1 ≠ w.heap.size := by omega
  by_cases hd : 0 ≤ d ∧ d ≤ 5
  · obtain ⟨n, rfl⟩ : ∃ n : Nat, d = (n : Int) := ⟨d.toNat, by omega⟩
    have hn : n ≤ 5 := by omega
    have HR : Hid (hasP p (n : Int) k = ([b0, b1, b2, b3, b4].take n).all id) := by show _ = _; rw [has_parts p k HP.out HK.out n hn, HPt.out]
    clear HPt hd
    obtain rfl | rfl | rfl | rfl | rfl | rfl : n = 0 ∨ n = 1 ∨ n = 2 ∨ n = 3 ∨ n = 4 ∨ n = 5 := by omega
    · skip
      go_wp2_with fail
      go_ret
      exact ⟨by rw [HR.out]; rfl, HB.out⟩
    · skip
      cases b0 with
      | false =>
        go_wp2_with (first
          | ((with_reducible refine gate_op (.binOp .eql 3 (.tmp 17) (.tmp 19) 3) rfl ?_); refine wl_valG rfl (.bool false) (exec_eqZ (.tmp 17) (.tmp 19) rfl _ _ _ H0.out rfl rfl) ?_))
        go_ret
        exact ⟨by rw [HR.out]; rfl, HB.out⟩
      | true =>
        go_wp2_with (first
          | ((with_reducible refine gate_op (.binOp .eql 3 (.tmp 17) (.tmp 19) 3) rfl ?_); refine wl_valG rfl (.bool true) (exec_eqZ (.tmp 17) (.tmp 19) rfl _ _ _ H0.out rfl rfl) ?_))
        go_ret
        exact ⟨by rw [HR.out]; rfl, HB.out⟩
    · skip
      cases b0 with
      | false =>
        go_wp2_with (first
          | ((with_reducible refine gate_op (.binOp .eql 3 (.tmp 17) (.tmp 19) 3) rfl ?_); refine wl_valG rfl (.bool false) (exec_eqZ (.tmp 17) (.tmp 19) rfl _ _ _ H0.out rfl rfl) ?_))
        go_ret
        exact ⟨by rw [HR.out]; rfl, HB.out⟩
      | true =>
        cases b1 with
        | false =>
          go_wp2_with (first
            | ((with_reducible refine gate_op (.binOp .eql 3 (.tmp 17) (.tmp 19) 3) rfl ?_); refine wl_valG rfl (.bool true) (exec_eqZ (.tmp 17) (.tmp 19) rfl _ _ _ H0.out rfl rfl) ?_)
            | ((with_reducible refine gate_op (.binOp .eql 3 (.tmp 27) (.tmp 29) 3) rfl ?_); refine wl_valG rfl (.bool false) (exec_eqZ (.tmp 27) (.tmp 29) rfl _ _ _ H1.out rfl rfl) ?_))
          go_ret
          exact ⟨by rw [HR.out]; rfl, HB.out⟩
        | true =>
          go_wp2_with (first
            | ((with_reducible refine gate_op (.binOp .eql 3 (.tmp 17) (.tmp 19) 3) rfl ?_); refine wl_valG rfl (.bool true) (exec_eqZ (.tmp 17) (.tmp 19) rfl _ _ _ H0.out rfl rfl) ?_)
            | ((with_reducible refine gate_op (.binOp .eql 3 (.tmp 27) (.tmp 29) 3) rfl ?_); refine wl_valG rfl (.bool true) (exec_eqZ (.tmp 27) (.tmp 29) rfl _ _ _ H1.out rfl rfl) ?_))
          go_ret
          exact ⟨by rw [HR.out]; rfl, HB.out⟩
    · skip
      cases b0 with
      | false =>
        go_wp2_with (first
          | ((with_reducible refine gate_op (.binOp .eql 3 (.tmp 17) (.tmp 19) 3) rfl ?_); refine wl_valG rfl (.bool false) (exec_eqZ (.tmp 17) (.tmp 19) rfl _ _ _ H0.out rfl rfl) ?_))
        go_ret
        exact ⟨by rw [HR.out]; rfl, HB.out⟩
      | true =>
        cases b1 with
        | false =>
          go_wp2_with (first
            | ((with_reducible refine gate_op (.binOp .eql 3 (.tmp 17) (.tmp 19) 3) rfl ?_); refine wl_valG rfl (.bool true) (exec_eqZ (.tmp 17) (.tmp 19) rfl _ _ _ H0.out rfl rfl) ?_)
            | ((with_reducible refine gate_op (.binOp .eql 3 (.tmp 27) (.tmp 29) 3) rfl ?_); refine wl_valG rfl (.bool false) (exec_eqZ (.tmp 27) (.tmp 29) rfl _ _ _ H1.out rfl rfl) ?_))
          go_ret
          exact ⟨by rw [HR.out]; rfl, HB.out⟩
        | true =>
          cases b2 with
          | false =>
            go_wp2_with (first
              | ((with_reducible refine gate_op (.binOp .eql 3 (.tmp 17) (.tmp 19) 3) rfl ?_); refine wl_valG rfl (.bool true) (exec_eqZ (.tmp 17) (.tmp 19) rfl _ _ _ H0.out rfl rfl) ?_)
              | ((with_reducible refine gate_op (.binOp .eql 3 (.tmp 27) (.tmp 29) 3) rfl ?_); refine wl_valG rfl (.bool true) (exec_eqZ (.tmp 27) (.tmp 29) rfl _ _ _ H1.out rfl rfl) ?_)
              | ((with_reducible refine gate_op (.binOp .eql 3 (.tmp 38) (.tmp 40) 3) rfl ?_); refine wl_valG rfl (.bool false) (exec_eqZ (.tmp 38) (.tmp 40) rfl _ _ _ H2.out rfl rfl) ?_))
            go_ret
            exact ⟨by rw [HR.out]; rfl, HB.out⟩
          | true =>
            go_wp2_with (first
              | ((with_reducible refine gate_op (.binOp .eql 3 (.tmp 17) (.tmp 19) 3) rfl ?_); refine wl_valG rfl (.bool true) (exec_eqZ (.tmp 17) (.tmp 19) rfl _ _ _ H0.out rfl rfl) ?_)
              | ((with_reducible refine gate_op (.binOp .eql 3 (.tmp 27) (.tmp 29) 3) rfl ?_); refine wl_valG rfl (.bool true) (exec_eqZ (.tmp 27) (.tmp 29) rfl _ _ _ H1.out rfl rfl) ?_)
              | ((with_reducible refine gate_op (.binOp .eql 3 (.tmp 38) (.tmp 40) 3) rfl ?_); refine wl_valG rfl (.bool true) (exec_eqZ (.tmp 38) (.tmp 40) rfl _ _ _ H2.out rfl rfl) ?_))
            go_ret
            exact ⟨by rw [HR.out]; rfl, HB.out⟩
    · skip
      cases b0 with
      | false =>
        go_wp2_with (first
          | ((with_reducible refine gate_op (.binOp .eql 3 (.tmp 17) (.tmp 19) 3) rfl ?_); refine wl_valG rfl (.bool false) (exec_eqZ (.tmp 17) (.tmp 19) rfl _ _ _ H0.out rfl rfl) ?_))
        go_ret
        exact ⟨by rw [HR.out]; rfl, HB.out⟩
      | true =>
        cases b1 with
        | false =>
          go_wp2_with (first
            | ((with_reducible refine gate_op (.binOp .eql 3 (.tmp 17) (.tmp 19) 3) rfl ?_); refine wl_valG rfl (.bool true) (exec_eqZ (.tmp 17) (.tmp 19) rfl _ _ _ H0.out rfl rfl) ?_)
            | ((with_reducible refine gate_op (.binOp .eql 3 (.tmp 27) (.tmp 29) 3) rfl ?_); refine wl_valG rfl (.bool false) (exec_eqZ (.tmp 27) (.tmp 29) rfl _ _ _ H1.out rfl rfl) ?_))
          go_ret
          exact ⟨by rw [HR.out]; rfl, HB.out⟩
        | true =>
          cases b2 with
          | false =>
            go_wp2_with (first
              | ((with_reducible refine gate_op (.binOp .eql 3 (.tmp 17) (.tmp 19) 3) rfl ?_); refine wl_valG rfl (.bool true) (exec_eqZ (.tmp 17) (.tmp 19) rfl _ _ _ H0.out rfl rfl) ?_)
              | ((with_reducible refine gate_op (.binOp .eql 3 (.tmp 27) (.tmp 29) 3) rfl ?_); refine wl_valG rfl (.bool true) (exec_eqZ (.tmp 27) (.tmp 29) rfl _ _ _ H1.out rfl rfl) ?_)
              | ((with_reducible refine gate_op (.binOp .eql 3 (.tmp 38) (.tmp 40) 3) rfl ?_); refine wl_valG rfl (.bool false) (exec_eqZ (.tmp 38) (.tmp 40) rfl _ _ _ H2.out rfl rfl) ?_))
            go_ret
            exact ⟨by rw [HR.out]; rfl, HB.out⟩
          | true =>
            cases b3 with
            | false =>
              go_wp2_with (first
                | ((with_reducible refine gate_op (.binOp .eql 3 (.tmp 17) (.tmp 19) 3) rfl ?_); refine wl_valG rfl (.bool true) (exec_eqZ (.tmp 17) (.tmp 19) rfl _ _ _ H0.out rfl rfl) ?_)
                | ((with_reducible refine gate_op (.binOp .eql 3 (.tmp 27) (.tmp 29) 3) rfl ?_); refine wl_valG rfl (.bool true) (exec_eqZ (.tmp 27) (.tmp 29) rfl _ _ _ H1.out rfl rfl) ?_)
                | ((with_reducible refine gate_op (.binOp .eql 3 (.tmp 38) (.tmp 40) 3) rfl ?_); refine wl_valG rfl (.bool true) (exec_eqZ (.tmp 38) (.tmp 40) rfl _ _ _ H2.out rfl rfl) ?_)
                | ((with_reducible refine gate_ld 23 (.tmp 48) rfl ?_); refine wl_ldr rfl 23 _ rfl w.heap.size 3 (bC p3).toList _ Try.underlying23 rfl (by rw [siz12B]; simp [bC, L3.out]) rfl R3.out ?_)
                | ((with_reducible refine gate_ld 23 (.tmp 50) rfl ?_); refine wl_ldr rfl 23 _ rfl (w.heap.size + 1) 3 (bC k3).toList _ Try.underlying23 rfl (by rw [siz12B]; simp [bC, L3'.out]) rfl S3.out ?_)
                | ((with_reducible refine gate_op (.binOp .eql 23 (.tmp 49) (.tmp 51) 23) rfl ?_); refine wl_valG rfl (.bool false) (exec_eqArr 23 12 Try.underlying23 (by kernel_rfl) (.tmp 49) (.tmp 51) rfl p3 k3 L3.out L3'.out _ H3.out rfl rfl) ?_))
              go_ret
              exact ⟨by rw [HR.out]; rfl, HB.out⟩
            | true =>
              go_wp2_with (first
                | ((with_reducible refine gate_op (.binOp .eql 3 (.tmp 17) (.tmp 19) 3) rfl ?_); refine wl_valG rfl (.bool true) (exec_eqZ (.tmp 17) (.tmp 19) rfl _ _ _ H0.out rfl rfl) ?_)
                | ((with_reducible refine gate_op (.binOp .eql 3 (.tmp 27) (.tmp 29) 3) rfl ?_); refine wl_valG rfl (.bool true) (exec_eqZ (.tmp 27) (.tmp 29) rfl _ _ _ H1.out rfl rfl) ?_)
                | ((with_reducible refine gate_op (.binOp .eql 3 (.tmp 38) (.tmp 40) 3) rfl ?_); refine wl_valG rfl (.bool true) (exec_eqZ (.tmp 38) (.tmp 40) rfl _ _ _ H2.out rfl rfl) ?_)
                | ((with_reducible refine gate_ld 23 (.tmp 48) rfl ?_); refine wl_ldr rfl 23 _ rfl w.heap.size 3 (bC p3).toList _ Try.underlying23 rfl (by rw [siz12B]; simp [bC, L3.out]) rfl R3.out ?_)
                | ((with_reducible refine gate_ld 23 (.tmp 50) rfl ?_); refine wl_ldr rfl 23 _ rfl (w.heap.size + 1) 3 (bC k3).toList _ Try.underlying23 rfl (by rw [siz12B]; simp [bC, L3'.out]) rfl S3.out ?_)
                | ((with_reducible refine gate_op (.binOp .eql 23 (.tmp 49) (.tmp 51) 23) rfl ?_); refine wl_valG rfl (.bool true) (exec_eqArr 23 12 Try.underlying23 (by kernel_rfl) (.tmp 49) (.tmp 51) rfl p3 k3 L3.out L3'.out _ H3.out rfl rfl) ?_))
              go_ret
              exact ⟨by rw [HR.out]; rfl, HB.out⟩
    · skip
      cases b0 with
      | false =>
        go_wp2_with (first
          | ((with_reducible refine gate_op (.binOp .eql 3 (.tmp 17) (.tmp 19) 3) rfl ?_); refine wl_valG rfl (.bool false) (exec_eqZ (.tmp 17) (.tmp 19) rfl _ _ _ H0.out rfl rfl) ?_))
        go_ret
        exact ⟨by rw [HR.out]; rfl, HB.out⟩
      | true =>
        cases b1 with
        | false =>
          go_wp2_with (first
            | ((with_reducible refine gate_op (.binOp .eql 3 (.tmp 17) (.tmp 19) 3) rfl ?_); refine wl_valG rfl (.bool true) (exec_eqZ (.tmp 17) (.tmp 19) rfl _ _ _ H0.out rfl rfl) ?_)
            | ((with_reducible refine gate_op (.binOp .eql 3 (.tmp 27) (.tmp 29) 3) rfl ?_); refine wl_valG rfl (.bool false) (exec_eqZ (.tmp 27) (.tmp 29) rfl _ _ _ H1.out rfl rfl) ?_))
          go_ret
          exact ⟨by rw [HR.out]; rfl, HB.out⟩
        | true =>
          cases b2 with
          | false =>
            go_wp2_with (first
              | ((with_reducible refine gate_op (.binOp .eql 3 (.tmp 17) (.tmp 19) 3) rfl ?_); refine wl_valG rfl (.bool true) (exec_eqZ (.tmp 17) (.tmp 19) rfl _ _ _ H0.out rfl rfl) ?_)
              | ((with_reducible refine gate_op (.binOp .eql 3 (.tmp 27) (.tmp 29) 3) rfl ?_); refine wl_valG rfl (.bool true) (exec_eqZ (.tmp 27) (.tmp 29) rfl _ _ _ H1.out rfl rfl) ?_)
              | ((with_reducible refine gate_op (.binOp .eql 3 (.tmp 38) (.tmp 40) 3) rfl ?_); refine wl_valG rfl (.bool false) (exec_eqZ (.tmp 38) (.tmp 40) rfl _ _ _ H2.out rfl rfl) ?_))
            go_ret
            exact ⟨by rw [HR.out]; rfl, HB.out⟩
          | true =>
            cases b3 with
            | false =>
              go_wp2_with (first
                | ((with_reducible refine gate_op (.binOp .eql 3 (.tmp 17) (.tmp 19) 3) rfl ?_); refine wl_valG rfl (.bool true) (exec_eqZ (.tmp 17) (.tmp 19) rfl _ _ _ H0.out rfl rfl) ?_)
                | ((with_reducible refine gate_op (.binOp .eql 3 (.tmp 27) (.tmp 29) 3) rfl ?_); refine wl_valG rfl (.bool true) (exec_eqZ (.tmp 27) (.tmp 29) rfl _ _ _ H1.out rfl rfl) ?_)
                | ((with_reducible refine gate_op (.binOp .eql 3 (.tmp 38) (.tmp 40) 3) rfl ?_); refine wl_valG rfl (.bool true) (exec_eqZ (.tmp 38) (.tmp 40) rfl _ _ _ H2.out rfl rfl) ?_)
                | ((with_reducible refine gate_ld 23 (.tmp 48) rfl ?_); refine wl_ldr rfl 23 _ rfl w.heap.size 3 (bC p3).toList _ Try.underlying23 rfl (by rw [siz12B]; simp [bC, L3.out]) rfl R3.out ?_)
                | ((with_reducible refine gate_ld 23 (.tmp 50) rfl ?_); refine wl_ldr rfl 23 _ rfl (w.heap.size + 1) 3 (bC k3).toList _ Try.underlying23 rfl (by rw [siz12B]; simp [bC, L3'.out]) rfl S3.out ?_)
                | ((with_reducible refine gate_op (.binOp .eql 23 (.tmp 49) (.tmp 51) 23) rfl ?_); refine wl_valG rfl (.bool false) (exec_eqArr 23 12 Try.underlying23 (by kernel_rfl) (.tmp 49) (.tmp 51) rfl p3 k3 L3.out L3'.out _ H3.out rfl rfl) ?_))
              go_ret
              exact ⟨by rw [HR.out]; rfl, HB.out⟩
            | true =>
              cases b4 with
              | false =>
                go_wp2_with (first
                  | ((with_reducible refine gate_op (.binOp .eql 3 (.tmp 17) (.tmp 19) 3) rfl ?_); refine wl_valG rfl (.bool true) (exec_eqZ (.tmp 17) (.tmp 19) rfl _ _ _ H0.out rfl rfl) ?_)
                  | ((with_reducible refine gate_op (.binOp .eql 3 (.tmp 27) (.tmp 29) 3) rfl ?_); refine wl_valG rfl (.bool true) (exec_eqZ (.tmp 27) (.tmp 29) rfl _ _ _ H1.out rfl rfl) ?_)
                  | ((with_reducible refine gate_op (.binOp .eql 3 (.tmp 38) (.tmp 40) 3) rfl ?_); refine wl_valG rfl (.bool true) (exec_eqZ (.tmp 38) (.tmp 40) rfl _ _ _ H2.out rfl rfl) ?_)
                  | ((with_reducible refine gate_ld 23 (.tmp 48) rfl ?_); refine wl_ldr rfl 23 _ rfl w.heap.size 3 (bC p3).toList _ Try.underlying23 rfl (by rw [siz12B]; simp [bC, L3.out]) rfl R3.out ?_)
                  | ((with_reducible refine gate_ld 23 (.tmp 50) rfl ?_); refine wl_ldr rfl 23 _ rfl (w.heap.size + 1) 3 (bC k3).toList _ Try.underlying23 rfl (by rw [siz12B]; simp [bC, L3'.out]) rfl S3.out ?_)
                  | ((with_reducible refine gate_op (.binOp .eql 23 (.tmp 49) (.tmp 51) 23) rfl ?_); refine wl_valG rfl (.bool true) (exec_eqArr 23 12 Try.underlying23 (by kernel_rfl) (.tmp 49) (.tmp 51) rfl p3 k3 L3.out L3'.out _ H3.out rfl rfl) ?_)
                  | ((with_reducible refine gate_ld 38 (.tmp 59) rfl ?_); refine wl_ldr rfl 38 _ rfl w.heap.size 15 (bC p4).toList _ Try.underlying38 rfl (by rw [siz10B]; simp [bC, L4.out]) rfl R4.out ?_)
                  | ((with_reducible refine gate_ld 38 (.tmp 61) rfl ?_); refine wl_ldr rfl 38 _ rfl (w.heap.size + 1) 15 (bC k4).toList _ Try.underlying38 rfl (by rw [siz10B]; simp [bC, L4'.out]) rfl S4.out ?_)
                  | ((with_reducible refine gate_op (.binOp .eql 38 (.tmp 60) (.tmp 62) 38) rfl ?_); refine wl_valG rfl (.bool false) (exec_eqArr 38 10 Try.underlying38 (by kernel_rfl) (.tmp 60) (.tmp 62) rfl p4 k4 L4.out L4'.out _ H4.out rfl rfl) ?_))
                go_ret
                exact ⟨by rw [HR.out]; rfl, HB.out⟩
              | true =>
                go_wp2_with (first
                  | ((with_reducible refine gate_op (.binOp .eql 3 (.tmp 17) (.tmp 19) 3) rfl ?_); refine wl_valG rfl (.bool true) (exec_eqZ (.tmp 17) (.tmp 19) rfl _ _ _ H0.out rfl rfl) ?_)
                  | ((with_reducible refine gate_op (.binOp .eql 3 (.tmp 27) (.tmp 29) 3) rfl ?_); refine wl_valG rfl (.bool true) (exec_eqZ (.tmp 27) (.tmp 29) rfl _ _ _ H1.out rfl rfl) ?_)
                  | ((with_reducible refine gate_op (.binOp .eql 3 (.tmp 38) (.tmp 40) 3) rfl ?_); refine wl_valG rfl (.bool true) (exec_eqZ (.tmp 38) (.tmp 40) rfl _ _ _ H2.out rfl rfl) ?_)
                  | ((with_reducible refine gate_ld 23 (.tmp 48) rfl ?_); refine wl_ldr rfl 23 _ rfl w.heap.size 3 (bC p3).toList _ Try.underlying23 rfl (by rw [siz12B]; simp [bC, L3.out]) rfl R3.out ?_)
                  | ((with_reducible refine gate_ld 23 (.tmp 50) rfl ?_); refine wl_ldr rfl 23 _ rfl (w.heap.size + 1) 3 (bC k3).toList _ Try.underlying23 rfl (by rw [siz12B]; simp [bC, L3'.out]) rfl S3.out ?_)
                  | ((with_reducible refine gate_op (.binOp .eql 23 (.tmp 49) (.tmp 51) 23) rfl ?_); refine wl_valG rfl (.bool true) (exec_eqArr 23 12 Try.underlying23 (by kernel_rfl) (.tmp 49) (.tmp 51) rfl p3 k3 L3.out L3'.out _ H3.out rfl rfl) ?_)
                  | ((with_reducible refine gate_ld 38 (.tmp 59) rfl ?_); refine wl_ldr rfl 38 _ rfl w.heap.size 15 (bC p4).toList _ Try.underlying38 rfl (by rw [siz10B]; simp [bC, L4.out]) rfl R4.out ?_)
                  | ((with_reducible refine gate_ld 38 (.tmp 61) rfl ?_); refine wl_ldr rfl 38 _ rfl (w.heap.size + 1) 15 (bC k4).toList _ Try.underlying38 rfl (by rw [siz10B]; simp [bC, L4'.out]) rfl S4.out ?_)
                  | ((with_reducible refine gate_op (.binOp .eql 38 (.tmp 60) (.tmp 62) 38) rfl ?_); refine wl_valG rfl (.bool true) (exec_eqArr 38 10 Try.underlying38 (by kernel_rfl) (.tmp 60) (.tmp 62) rfl p4 k4 L4.out L4'.out _ H4.out rfl rfl) ?_))
                go_ret
                exact ⟨by rw [HR.out]; rfl, HB.out⟩
  · have HR : Hid (hasP p d k = false) := by
      show _ = _
      unfold hasP depOk
      rw [decide_eq_false hd, Bool.false_and]
    clear HPt
    by_cases h1 : d < 0
    · go_wp2_with fail
      go_ret
      exact ⟨by rw [HR.out]; rfl, HB.out⟩
    · have h2 : 5 < d := by omega
      go_wp2_with fail
      go_ret
      exact ⟨by rw [HR.out]; rfl, HB.out⟩
def rnextR : Option (List UInt8) → Value
  | some k => .tuple #[.agg (rkC k).toArray, .bool true]
  | none => .tuple #[.agg (rkC z25).toArray, .bool false]
theorem rnext_at {xs : List RE} {k : List UInt8} {i : Nat} (hi : i < xs.length) (hno : ∀ j (h : j < i), ltK k (xs[j]'(by omega)).k = false) (he : ltK k xs[i].k = true) : nextL (xs.map RE.p) k = some xs[i].k := by
  unfold nextL
  have hi2 : i < (xs.map RE.p).length := by simpa using hi
  rw [show (xs.map RE.p).find? (fun x => ltK k x.1) = some (xs.map RE.p)[i] from List.find?_eq_some_iff_getElem.2 ⟨by simpa [RE.p] using he, i, by simpa using hi, rfl, fun j hj => by simpa [RE.p] using hno j hj⟩]
  simp [RE.p]
theorem rnext_not {xs : List RE} {k : List UInt8} (hno : ∀ j (h : j < xs.length), ltK k xs[j].k = false) : nextL (xs.map RE.p) k = none := by
  unfold nextL
  rw [Option.map_eq_none_iff, List.find?_eq_none]
  intro x hx
  obtain ⟨y, hy, rfl⟩ := List.mem_map.1 hx
  obtain ⟨j, hj, rfl⟩ := List.getElem_of_mem hy
  simpa [RE.p] using hno j hj
theorem builtRZ : Try.prog.built 40 [] = some (rkC z25).toArray := by kernel_rfl
set_option maxRecDepth 100000 in
set_option maxHeartbeats 4000000 in
theorem rnext_any (q : Option Addr) (n c : Nat) (xs : List RE) (k : List UInt8) (w : World) (hn : xs.length = n) (hn9 : n ≤ 1000000) (hk : k.length = 25) (hq : SlAt reC 26 w q xs) :
    Calls Try.prog 27 #[.slice q n c, .agg (rkC k).toArray] w fun e w' => e = .returned (rnextR (nextL (xs.map RE.p) k)) ∧ Below w.heap.size w w' := by
  have HN := Lib.hid hn
  have HK := Lib.hid hk
  have HB0 := Lib.hid (below_alloc2 w (.cells (rkC k).toArray 40) (.cells (rkC z25).toArray 40))
  have HX0 := Lib.hid (heap_alloc2_old w (.cells (rkC k).toArray 40) (.cells (rkC z25).toArray 40))
  have HZ0 := Lib.hid (heap_alloc2_new w (.cells (rkC k).toArray 40) (.cells (rkC z25).toArray 40))
  have HQ := Lib.hid (hq.below HB0.out)
  clear hn hq hk
  go_enter Try.func27, Try.ntmps27
  go_upto_region 1 with fail
  show Code.wp _ _ _ _ ((w.alloc (.cells (rkC k).toArray 40)).alloc (.cells (rkC z25).toArray 40))
  generalize ((w.alloc (.cells (rkC k).toArray 40)).alloc (.cells (rkC z25).toArray 40)) = W0 at *
  go_wp2_with fail
  go_loopw [6] (fun vi wr => ∃ (i : Nat), i ≤ n ∧ vi = .int .i64 i ∧ Hid (Below W0.heap.size W0 wr) ∧ Hid (∀ j (h : j < xs.length), j < i → ltK k xs[j].k = false)) (fun vi _ => n - (intOf vi).toNat)
  case atStart => exact ⟨0, Nat.zero_le _, rfl, Lib.hid (Below.refl _ _), Lib.hid (fun j _ h => absurd h (by omega))⟩
  case round =>
    obtain ⟨i, hi, rfl, HB, HNo⟩ := hrel
    by_cases h1 : i < n
    · have h1i : (i : Int) < n := by omega
      have hil : i < xs.length := by rw [HN.out]; exact h1
      obtain ⟨x, hx⟩ : ∃ x, x = xs[i] := ⟨_, rfl⟩
      obtain ⟨qb, qo, rfl, hqb, hqr⟩ := (HQ.out.below HB.out) i hil
      rw [← hx] at hqr
      have hXr := (HB.out.block _ (lt_heap HX0.out)).trans HX0.out
      have hXl := lt_heap hXr
      have HXr := Lib.hid hXr
      have HZr : Hid (wr.heap[w.heap.size + 1]? = some (.cells (rkC z25).toArray 40 (0, 0))) := (HB.out.block _ (lt_heap HZ0.out)).trans HZ0.out
      have HRq := Lib.hid (re_key hqr)
      have HXe := Lib.hid hx
      have HL := x.hk
      have KL := Lib.hid (fun W => rless_any k x.k W HK.out HL)
      clear hqr hx hXr
      go_upto_region 4 with fail
      refine wp_region_quiet_below (by kernel_rfl) (by kernel_rfl) ?_
      repeat (first
        | (refine wq_ix _ rfl 33 57 (.tmp 14) (.tmp 15) rfl Try.underlying33 26 sizRE qb qo n c i rfl rfl h1 ?_; simp only [Act.put, List.setIfInBounds_toArray, List.set_cons_zero, List.set_cons_succ])
        | (with_reducible refine wq_ldr rfl 40 (.tmp 17) rfl qb (qo + i * 26) (rkC x.k) _ Try.underlying40 rfl (by rw [sizRK, rkC_len HL]) rfl HRq.out hqb ?_; simp only [Act.put, List.setIfInBounds_toArray, List.set_cons_zero, List.set_cons_succ])
        | (with_reducible refine wq_ldr rfl 40 (.tmp 3) rfl w.heap.size 0 (rkC k) _ Try.underlying40 rfl (by rw [sizRK, rkC_len HK.out]) rfl (range_whole (by simpa using HXr.out)) hXl ?_; simp only [Act.put, List.setIfInBounds_toArray, List.set_cons_zero, List.set_cons_succ])
        | go_big_quiet_step (first | (exact rg_call KL.out _ _)))
      refine wpQuiet_nil ?_
      rintro _ ⟨⟨dq, osq⟩, rfl⟩
      have hB9 := HB.out.trans ((below_regrown wr dq osq).mono HB.out.size)
      have HB9 : Hid (Below W0.heap.size W0 (Sort.grow (redrawn wr dq) osq)) := hB9
      have HZ9 : Hid ((Sort.grow (redrawn wr dq) osq).heap[w.heap.size + 1]? = some (.cells (rkC z25).toArray 40 (0, 0))) := (hB9.block _ (lt_heap HZ0.out)).trans HZ0.out
      have HR9 : Hid ((Sort.grow (redrawn wr dq) osq).rangeAt qb (qo + i * 26) (rkC x.k)) := range_of_block HRq.out ((below_regrown wr dq osq).block _ hqb)
      clear HB HXr HRq hXl hqb HZr hB9
      generalize Sort.grow (redrawn wr dq) osq = W9 at *
      cases he : ltK k x.k with
      | true =>
        have HE : Hid (nextL (xs.map RE.p) k = some x.k) := by
          have := rnext_at hil (fun j hj => HNo.out j (by omega) hj) (by rw [← HXe.out]; exact he)
          rw [← HXe.out] at this
          exact this
        clear he
        go_wp2_with (first
          | ((with_reducible refine gate_ld 40 (.tmp 23) rfl ?_); refine wl_ldr rfl 40 _ rfl qb (qo + i * 26) (rkC x.k) _ Try.underlying40 rfl (by rw [sizRK, rkC_len HL]) rfl HR9.out ?_)
          | ((with_reducible refine gate_st 40 (.tmp 4) _ rfl ?_); refine wl_str rfl 40 (.tmp 4) (.tmp 24) rfl (w.heap.size + 1) (rkC x.k).toArray (rkC z25).toArray 40 (by rw [sizRK]; simp [rkC_len HL]) (by simp [rkC_len HL]; rfl) (by simpa [List.all_eq_true] using rkC_one x.k) rfl rfl HZ9.out ?_))
        refine bodyPost_ret (res_rowc_tmp rfl _ _ (w.heap.size + 1) (rkC x.k).toArray (0, 0) rfl (setRow_at HZ9.out) Try.underlying40 rfl (by rw [sizRK]; simp [rkC_len HL])) rfl ?_
        exact ⟨by rw [HE.out]; rfl, setRow_below (HB0.out.trans (HB9.out.mono HB0.out.size)) (by omega) _⟩
      | false =>
        have HNe := Lib.hid he
        clear he
        go_wp2_with fail
        go_roundw
        case rel => exact ⟨i + 1, by omega, by go_num, HB9, Lib.hid (fun j hj hji => by
          rcases Nat.lt_succ_iff_lt_or_eq.1 hji with h | h
          · exact HNo.out j hj h
          · subst h; rw [← HXe.out]; exact HNe.out)⟩
        case measure => simp [intOf]; omega
    · have h1i : ¬ (i : Int) < n := by omega
      have HE : Hid (nextL (xs.map RE.p) k = none) := rnext_not (fun j hj => HNo.out j hj (by rw [HN.out] at hj; omega))
      have HZr : Hid (wr.heap[w.heap.size + 1]? = some (.cells (rkC z25).toArray 40 (0, 0))) := (HB.out.block _ (lt_heap HZ0.out)).trans HZ0.out
      go_wp2_with (first
        | ((with_reducible refine gate_bd 40 _ rfl ?_); refine wl_bd rfl 40 [] rfl [] rfl (rkC z25).toArray builtRZ ?_)
        | ((with_reducible refine gate_st 40 (.tmp 4) _ rfl ?_); refine wl_str rfl 40 (.tmp 4) (.tmp 25) rfl (w.heap.size + 1) (rkC z25).toArray (rkC z25).toArray 40 (by rw [sizRK]; rfl) rfl (by simpa [List.all_eq_true] using rkC_one z25) rfl rfl HZr.out ?_))
      refine bodyPost_ret (res_rowc_tmp rfl _ _ (w.heap.size + 1) (rkC z25).toArray (0, 0) rfl (setRow_at HZr.out) Try.underlying40 rfl (by rw [sizRK]; rfl)) rfl ?_
      exact ⟨by rw [HE.out]; rfl, setRow_below (HB0.out.trans (HB.out.mono HB0.out.size)) (by omega) _⟩
end Go.Proofs.Ytagdedjclbmlkaa
