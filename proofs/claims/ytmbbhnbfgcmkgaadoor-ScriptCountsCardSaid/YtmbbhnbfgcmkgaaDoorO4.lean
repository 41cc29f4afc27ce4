/- Lists of acts compared: same, Same. -/
import Derived.Test.YtmbbhnbfgcmkgaaDoorO3
namespace Go.Proofs.YtmbbhnbfgcmkgaaDoor
open Go.RowKit

theorem rg_callB {W : World} {f : FuncId} {args : Array Value} {v : Value} (h : ∀ w, Below W.heap.size W w → Calls Tryd.prog f args w fun e w' => e = .returned v ∧ Below w.heap.size w w') (d : Nat) (os : Array Obj) :
    Calls Tryd.prog f args (Sort.grow (redrawn W d) os) fun e w'' => e = .returned v ∧ ∃ p : Regrown, w'' = Sort.grow (redrawn W p.d) p.os := Calls.regrown_of (h _ (below_regrown W d os))
section
variable {W : World} {ops : Array Oper} {Q : Act → Prop} {a : Act} {o : Oper} {rest : List Oper}
theorem wq_ix (C : World → Prop) (hw : Region.wanted o (yielded ops a.tmps) = true) (T E : TypeId) (x y : Operand) (ho : o.op = .indexAddr T x y) (hT : Tryd.prog.underlying T = some (.slice E)) (k : Nat) (hE : (Tryd.prog.info? E).map (·.size) = some k) (b f : Nat) (n c j : Nat) (hx : a.eval x = .slice (some ⟨b, f, none⟩) n c) (hy : a.eval y = .int .i64 (j : Int)) (hj : j < n)
    (h : wpQuiet Tryd.prog ops C Q rest (a.put o.dst (.pointer (some ⟨b, f + j * k, none⟩)))) : wpQuiet Tryd.prog ops C Q (o :: rest) a := by
  refine wq_val (.pointer (some ⟨b, f + j * k, none⟩)) hw (fun w => ?_) h
  cases hq : Tryd.prog.info? E with
  | none => simp [hq] at hE
  | some i =>
    have hs : i.size = k := by simpa [hq] using hE
    unfold execOp
    simp only [ho, hx, hy]
    simp [go_sem, hT, sizeOf, typeInfo, hq, hs, hj]
theorem wq_A4 (hw : Region.wanted o (yielded ops a.tmps) = true) (x : Operand) (ho : o.op = .load 36 x) (b f : Nat) (y : A4) (hx : a.eval x = .pointer (some ⟨b, f, none⟩)) (hc : Hid (InRow W b f (a4C y)))
    (h : wpQuiet Tryd.prog ops (fun w' => ∃ p : Regrown, w' = Sort.grow (redrawn W p.d) p.os) Q rest (a.put o.dst (.agg (a4C y).toArray))) : wpQuiet Tryd.prog ops (fun w' => ∃ p : Regrown, w' = Sort.grow (redrawn W p.d) p.os) Q (o :: rest) a :=
  wq_ldr hw _ x ho b f (a4C y) _ Tryd.underlying36 rfl sizA4 hx hc.out.row hc.out.lt h
theorem wq_D4 (hw : Region.wanted o (yielded ops a.tmps) = true) (x : Operand) (ho : o.op = .load 32 x) (b f : Nat) (y : D4) (hx : a.eval x = .pointer (some ⟨b, f, none⟩)) (hc : Hid (InRow W b f (d4C y)))
    (h : wpQuiet Tryd.prog ops (fun w' => ∃ p : Regrown, w' = Sort.grow (redrawn W p.d) p.os) Q rest (a.put o.dst (.agg (d4C y).toArray))) : wpQuiet Tryd.prog ops (fun w' => ∃ p : Regrown, w' = Sort.grow (redrawn W p.d) p.os) Q (o :: rest) a :=
  wq_ldr hw _ x ho b f (d4C y) _ Tryd.underlying32 rfl sizD4 hx hc.out.row hc.out.lt h
end
set_option maxRecDepth 100000 in
set_option maxHeartbeats 4000000 in
theorem same_any (q : Option Addr) (xs : List A4) (n cap : Nat) (p : Option Addr) (ys : List D4) (m cp : Nat) (w : World) (hn : xs.length = n) (hm : ys.length = m) (hbd : n ≤ 1000000) (hA : Acts w q xs) (hY : SlAt d4C 4 w p ys) :
    Calls Tryd.prog 19 #[.slice q n cap, .slice p m cp] w fun e w' => e = .returned (.bool (decide (xs.map A4.d = ys))) ∧ Below w.heap.size w w' := by
  have HL := Lib.hid hn
  have HM := Lib.hid hm
  have HA := Lib.hid hA
  have HY := Lib.hid hY
  clear hn hm hA hY
  by_cases hnm : n = m
  · subst hnm
    go_enter Tryd.func19, Tryd.ntmps19
    go_wp2_with fail
    go_loopw [5] (fun i wr => ∃ k : Nat, k ≤ n ∧ i = .int .i64 k ∧ Hid ((xs.map A4.d).take k = ys.take k) ∧ Hid (Below w.heap.size w wr)) (fun i _ => n - (intOf i).toNat)
    case atStart => exact ⟨0, Nat.zero_le _, rfl, by simp [Hid], Below.refl _ _⟩
    case round =>
      obtain ⟨k, hk, rfl, HE, HB⟩ := hrel
      by_cases hlt : k < n
      · have hli : (k : Int) < n := by omega
        have hkx : k < xs.length := by rw [HL.out]; exact hlt
        have hky : k < ys.length := by rw [HM.out]; exact hlt
        obtain ⟨b, f, rfl, hb, hr⟩ := (HA.out.row.below HB.out) k hkx
        have HR := Lib.hid (InRow.mk hb hr)
        obtain ⟨b2, f2, rfl, hb2, hr2⟩ := (HY.out.below HB.out) k hky
        have HR2 := Lib.hid (InRow.mk hb2 hr2)
        have HX := Lib.hid ((HA.out.ok _ (List.getElem_mem hkx)).below HB.out)
        have HT : Hid (xs[k].d = ys[k] → (xs.map A4.d).take (k + 1) = ys.take (k + 1)) := fun e => by
          rw [List.take_succ_eq_append_getElem (by simpa using hkx), List.take_succ_eq_append_getElem hky, HE.out, ← e]; simp
        have HF : Hid (xs[k].d ≠ ys[k] → xs.map A4.d ≠ ys) := fun e h => e (by
          have := congrArg (fun l => l[k]?) h
          simpa [hkx, hky] using this)
        have HC : Hid (∀ W, Below wr.heap.size wr W → Calls Tryd.prog 11 #[.agg (a4C xs[k]).toArray] W fun e w' => e = .returned (.agg (d4C xs[k].d).toArray) ∧ Below W.heap.size W w') := fun W hW => of_any _ W (HX.out.below hW)
        clear hb hr hb2 hr2
        have HA1 := HA
        have HY1 := HY
        clear HA HY HX HE
        by_cases he : xs[k].d = ys[k]
        · have hq : ∀ W, (binOp .neq 32 (.agg (d4C xs[k].d).toArray) (.agg (d4C ys[k]).toArray)).run Tryd.prog W = .ok (.bool false) W := fun W => by rw [neqD, decide_eq_true he]; rfl
          have HT2 := Lib.hid (HT.out he)
          clear he HT HF
          generalize xs[k] = x at *
          generalize ys[k] = y at *
          go_wp2_with fail
          refine wp_region_quiet_below (by kernel_rfl) (by kernel_rfl) ?_
          repeat (first
            | (refine wq_ix _ rfl 22 36 _ _ rfl Tryd.underlying22 4 sizA4 b f n cap k rfl rfl hlt ?_; simp only [Act.put, List.setIfInBounds_toArray, List.set_cons_zero, List.set_cons_succ])
            | (refine wq_A4 rfl _ rfl b (f + k * 4) x rfl HR ?_; simp only [Act.put, List.setIfInBounds_toArray, List.set_cons_zero, List.set_cons_succ])
            | (refine wq_ix _ rfl 29 32 _ _ rfl Tryd.underlying29 4 sizD4 b2 f2 n cp k rfl rfl hlt ?_; simp only [Act.put, List.setIfInBounds_toArray, List.set_cons_zero, List.set_cons_succ])
            | (refine wq_D4 rfl _ rfl b2 (f2 + k * 4) y rfl HR2 ?_; simp only [Act.put, List.setIfInBounds_toArray, List.set_cons_zero, List.set_cons_succ])
            | go_big_quiet_step (first | (with_reducible exact rg_callB HC.out _ _)))
          refine wpQuiet_nil ?_
          rintro _ ⟨⟨dq, osq⟩, rfl⟩
          have HB := bt HB (below_regrown wr dq osq)
          go_wp2_with fail
          go_roundw
          case rel => exact ⟨k + 1, by omega, by go_num, HT2, HB⟩
          case measure => simp [intOf]; omega
        · have hq : ∀ W, (binOp .neq 32 (.agg (d4C xs[k].d).toArray) (.agg (d4C ys[k]).toArray)).run Tryd.prog W = .ok (.bool true) W := fun W => by rw [neqD, decide_eq_false he]; rfl
          have HF2 := Lib.hid (HF.out he)
          clear he HT HF
          generalize xs[k] = x at *
          generalize ys[k] = y at *
          go_wp2_with fail
          refine wp_region_quiet_below (by kernel_rfl) (by kernel_rfl) ?_
          repeat (first
            | (refine wq_ix _ rfl 22 36 _ _ rfl Tryd.underlying22 4 sizA4 b f n cap k rfl rfl hlt ?_; simp only [Act.put, List.setIfInBounds_toArray, List.set_cons_zero, List.set_cons_succ])
            | (refine wq_A4 rfl _ rfl b (f + k * 4) x rfl HR ?_; simp only [Act.put, List.setIfInBounds_toArray, List.set_cons_zero, List.set_cons_succ])
            | (refine wq_ix _ rfl 29 32 _ _ rfl Tryd.underlying29 4 sizD4 b2 f2 n cp k rfl rfl hlt ?_; simp only [Act.put, List.setIfInBounds_toArray, List.set_cons_zero, List.set_cons_succ])
            | (refine wq_D4 rfl _ rfl b2 (f2 + k * 4) y rfl HR2 ?_; simp only [Act.put, List.setIfInBounds_toArray, List.set_cons_zero, List.set_cons_succ])
            | go_big_quiet_step (first | (with_reducible exact rg_callB HC.out _ _)))
          refine wpQuiet_nil ?_
          rintro _ ⟨⟨dq, osq⟩, rfl⟩
          have HB := bt HB (below_regrown wr dq osq)
          go_wp2_with fail
          go_ret
          exact ⟨ret_bool (decide_eq_false HF2.out).symm, HB.out⟩
      · obtain rfl : n = k := by omega
        have hE : Hid (decide (xs.map A4.d = ys) = true) := by
          refine decide_eq_true ?_
          have := HE.out
          rwa [List.take_of_length_le (by rw [List.length_map]; exact Nat.le_of_eq HL.out), List.take_of_length_le (Nat.le_of_eq HM.out)] at this
        go_wp2_with fail
        go_ret
        exact ⟨ret_bool hE.out.symm, HB.out⟩
  · have hE : Hid (decide (xs.map A4.d = ys) = false) := decide_eq_false fun e => hnm (by rw [← HL.out, ← HM.out, ← e, List.length_map])
    have h1 : (n != m) = true := by simpa using hnm
    have h2 : ((n : Int) != (m : Int)) = true := by simp only [bne_iff_ne, ne_eq]; omega
    clear hnm
    go_enter Tryd.func19, Tryd.ntmps19
    go_wp2_with fail
    go_ret
    exact ⟨ret_bool hE.out.symm, Below.refl _ _⟩
end Go.Proofs.YtmbbhnbfgcmkgaaDoor
