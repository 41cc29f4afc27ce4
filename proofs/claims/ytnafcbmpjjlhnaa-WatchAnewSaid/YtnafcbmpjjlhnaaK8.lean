/- Insertion sort of a row of writes. -/
import Derived.Test.YtnafcbmpjjlhnaaK7
namespace Go.Proofs.Ytnafcbmpjjlhnaa
open Go.RowKit Go.Sort

section
variable {W : World} {ops : Array Oper} {Q : Act → Prop} {a : Act} {o : Oper} {rest : List Oper}
theorem wq_ixW (C : World → Prop) (hw : Region.wanted o (yielded ops a.tmps) = true) (x y : Operand) (ho : o.op = .indexAddr 42 x y) (g n c j : Nat) (hx : a.eval x = .slice (some ⟨g, 0, none⟩) n c) (hy : a.eval y = .int .i64 (j : Int)) (hj : j < n)
    (h : wpQuiet Try.prog ops C Q rest (a.put o.dst (.pointer (some ⟨g, 0 + j * 35, none⟩)))) : wpQuiet Try.prog ops C Q (o :: rest) a := by
  refine wq_val (.pointer (some ⟨g, 0 + j * 35, none⟩)) hw (fun w => ?_) h
  cases hq : Try.prog.info? 58 with
  | none => have := sizWr; simp [hq] at this
  | some i =>
    have hs : i.size = 35 := by have := sizWr; simpa [hq] using this
    unfold execOp
    simp only [ho, hx, hy]
    simp [go_sem, Try.underlying42, sizeOf, typeInfo, hq, hs, hj]
end
theorem wpOp_wr {Q : Exit → Act → World → Prop} {ops : Array Oper} {i : Nat} {o : Oper} {a : Act} {w : World} {K : Act → World → Prop} (hi : ops[i]? = some o) (hg : o.guard = none) (x y : Operand) (ho : o.op = .store 58 x y) (g j : Nat) (d : Array Wr) (tail : List Value) (T : TypeId) (v : Wr) (hj : j < d.size)
    (hx : a.eval x = .pointer (some ⟨g, 0 + j * 35, none⟩)) (hy : a.eval y = .agg (wrC v).toArray) (hr : WRow w g d tail T) (h : ∀ w', WRow w' g (d.setIfInBounds j v) tail T → Turn [g] w w' → K (a.put o.dst undef) w') : wpOp Try.prog ops Q i K a w := by
  obtain ⟨w', h1, h2, h3⟩ := exec_wr x y ho g j d tail T v hj hx hy hr
  exact wpOp_skip hi hg h1 (h w' h2 h3)
theorem exec_dec {o : Oper} {a : Act} {w : World} (x : Operand) (ho : o.op = .binOp .sub 3 x (.const (.int .i64 1)) 3) (m : Nat) (hm : m ≤ 1000000) (hx : a.eval x = .int .i64 ((m + 1 : Nat) : Int)) : (execOp a.eval o).run Try.prog w = .ok (.value (.int .i64 (m : Int))) w := by
  have h1 : a.eval (.const (.int .i64 1)) = .int .i64 1 := rfl
  unfold execOp
  simp only [ho, hx, h1]
  simp [go_sem]
  rw [IntKind.wrap_i64]; omega
def byF : Value := .func (.func 18) #[] #[]
theorem cmp_neg {x y : Wr} (h : ltW x y = true) : cmpW x y = -1 := by simp [cmpW, h]
theorem cmp_nn {x y : Wr} (h : ltW x y = false) : ¬ cmpW x y < 0 := by
  unfold cmpW
  rw [h]
  split <;> simp_all
  split <;> decide
set_option maxRecDepth 100000 in
set_option maxHeartbeats 8000000 in
theorem ins_any (g cap a b : Nat) (d : Array Wr) (tail : List Value) (T : TypeId) (w : World) (hd : WRow w g d tail T) (hab : a ≤ b) (hb : b ≤ d.size) (hsz : d.size ≤ 1000000) :
    Calls Try.prog 28 #[.slice (some ⟨g, 0, none⟩) d.size cap, .int .i64 a, .int .i64 b, .func (.func 18) #[] #[]] w fun e w' =>
      e = .returned (.tuple #[]) ∧ WRow w' g (Sort.insertionSort ltW d a b) tail T ∧ Turn [g] w w' := by
  obtain ⟨n, hn⟩ : ∃ n, n = d.size := ⟨_, rfl⟩
  rw [← hn]
  have HD := Lib.hid hd
  have HN := Lib.hid hn
  clear hd hn
  go_enter Try.func28, Try.ntmps28
  go_wp2_with fail
  go_loopw [8] (fun vi wr => ∃ (i : Nat) (dk : Array Wr), vi = .int .i64 i ∧ a < i ∧ i ≤ b + 1 ∧ Hid (dk.size = d.size) ∧ Hid (WRow wr g dk tail T) ∧ Hid (Turn [g] w wr) ∧ Hid (insOuter ltW a b i dk = insOuter ltW a b (a + 1) d)) (fun vi _ => b + 1 - (intOf vi).toNat)
  case atStart => exact ⟨a + 1, d, by go_num, by omega, by omega, rfl, HD.out, Turn.refl _ _, rfl⟩
  case round =>
    obtain ⟨i, dk, rfl, hai, hib, HSk, HWk, HTk, HO⟩ := hrel
    by_cases hlt : i < b
    · go_wp2_with fail
      go_loopw [9] (fun vj wr2 => ∃ (j : Nat) (dj : Array Wr), vj = .int .i64 j ∧ a ≤ j ∧ j ≤ i ∧ Hid (dj.size = d.size) ∧ Hid (WRow wr2 g dj tail T) ∧ Hid (Turn [g] w wr2) ∧ Hid (insInner ltW a j dj = insInner ltW a i dk)) (fun vj _ => (intOf vj).toNat)
      case atStart => exact ⟨i, dk, rfl, by omega, Nat.le_refl _, HSk, HWk, HTk, rfl⟩
      case round =>
        obtain ⟨j, dj, rfl, haj, hji, HSj, HWj, HTj, HI⟩ := hrel
        by_cases hja : a < j
        · obtain ⟨m, rfl⟩ : ∃ m, j = m + 1 := ⟨j - 1, by omega⟩
          have hjn : m + 1 < n := by have := HN.out; omega
          have hmn : m < n := by omega
          have HX : Hid (wr.rangeAt g (0 + (m + 1) * 35) (wrC dj[m + 1]!)) := HWj.out.range _ (by rw [HSj.out, ← HN.out]; omega)
          have HY : Hid (wr.rangeAt g (m * 35) (wrC dj[m]!)) := by have := HWj.out.range m (by rw [HSj.out, ← HN.out]; omega); rwa [Nat.zero_add] at this
          obtain ⟨x, hx⟩ : ∃ x, x = dj[m + 1]! := ⟨_, rfl⟩
          obtain ⟨y, hy⟩ : ∃ y, y = dj[m]! := ⟨_, rfl⟩
          rw [← hx] at HX
          rw [← hy] at HY
          have HXe := Lib.hid hx
          have HYe := Lib.hid hy
          clear hx hy
          cases hl : ltW x y
          · obtain ⟨c, hc⟩ : ∃ c, c = cmpW x y := ⟨_, rfl⟩
            have hcn : ¬ c < 0 := by rw [hc]; exact cmp_nn hl
            have hcd : decide (c < 0) = false := decide_eq_false hcn
            have HC : Hid (∀ W, Calls Try.prog 18 #[.agg (wrC x).toArray, .agg (wrC y).toArray] W fun e w' => e = .returned (.int .i64 c) ∧ Below W.heap.size W w') := fun W => by have := cmp_any x y W; rwa [← hc] at this
            have hgA : decide ((a : Int) < (m : Int) + 1) = true := decide_eq_true (by omega)
            go_upto_region 4 with fail
            refine wp_region_quiet_below (by kernel_rfl) (by kernel_rfl) ?_
            repeat (first
              | (refine wq_ixW _ rfl (.tmp 23) (.tmp 24) rfl g n cap (m + 1) rfl rfl hjn ?_; simp only [Act.put, List.setIfInBounds_toArray, List.set_cons_zero, List.set_cons_succ])
              | (refine wq_ldr rfl 58 (.tmp 25) rfl g (0 + (m + 1) * 35) (wrC x) _ Try.underlying58 rfl (by rw [sizWr, wrC_len]) rfl HX.out (lt_heap HWj.out) ?_; simp only [Act.put, List.setIfInBounds_toArray, List.set_cons_zero, List.set_cons_succ])
              | (refine wq_ldr rfl 58 (.tmp 30) rfl g (m * 35) (wrC y) _ Try.underlying58 rfl (by rw [sizWr, wrC_len]) rfl HY.out (lt_heap HWj.out) ?_; simp only [Act.put, List.setIfInBounds_toArray, List.set_cons_zero, List.set_cons_succ])
              | go_big_quiet_step (first | (with_reducible exact rg_call HC.out _ _)))
            refine wpQuiet_nil ?_
            rintro _ ⟨⟨dq, osq⟩, rfl⟩
            have hbel := below_regrown wr dq osq
            have HW2 := Lib.hid (HWj.out.turn (hbel.block _ (lt_heap HWj.out)))
            have HT2 := Lib.hid (HTj.out.trans (Turn.of_below hbel))
            clear hbel HWj HTj HX HY HC
            generalize Sort.grow (redrawn wr dq) osq = W2 at *
            go_wp2_with fail
            go_roundw
            case rel => exact ⟨i + 1, dj, by go_num, by omega, by omega, HSj, HW2, HT2, by rw [← HO.out, insOuter_go _ _ _ _ _ hlt, ← HI.out, insInner_stop _ _ _ _ (Or.inr (by rw [← HXe.out]; exact (by simpa [← HYe.out] using hl)))]; rfl⟩
            case measure => simp [intOf]; omega
          have hc := cmp_neg hl
          have HC : Hid (∀ W, Calls Try.prog 18 #[.agg (wrC x).toArray, .agg (wrC y).toArray] W fun e w' => e = .returned (.int .i64 (-1)) ∧ Below W.heap.size W w') := fun W => by have := cmp_any x y W; rwa [hc] at this
          have hgA : decide ((a : Int) < (m : Int) + 1) = true := decide_eq_true (by omega)
          go_upto_region 4 with fail
          refine wp_region_quiet_below (by kernel_rfl) (by kernel_rfl) ?_
          repeat (first
            | (refine wq_ixW _ rfl (.tmp 23) (.tmp 24) rfl g n cap (m + 1) rfl rfl hjn ?_; simp only [Act.put, List.setIfInBounds_toArray, List.set_cons_zero, List.set_cons_succ])
            | (refine wq_ldr rfl 58 (.tmp 25) rfl g (0 + (m + 1) * 35) (wrC x) _ Try.underlying58 rfl (by rw [sizWr, wrC_len]) rfl HX.out (lt_heap HWj.out) ?_; simp only [Act.put, List.setIfInBounds_toArray, List.set_cons_zero, List.set_cons_succ])
            | (refine wq_ldr rfl 58 (.tmp 30) rfl g (m * 35) (wrC y) _ Try.underlying58 rfl (by rw [sizWr, wrC_len]) rfl HY.out (lt_heap HWj.out) ?_; simp only [Act.put, List.setIfInBounds_toArray, List.set_cons_zero, List.set_cons_succ])
            | go_big_quiet_step (first | (with_reducible exact rg_call HC.out _ _)))
          refine wpQuiet_nil ?_
          rintro _ ⟨⟨dq, osq⟩, rfl⟩
          have hbel := below_regrown wr dq osq
          have HW2 := Lib.hid (HWj.out.turn (hbel.block _ (lt_heap HWj.out)))
          have HT2 := Lib.hid (HTj.out.trans (Turn.of_below hbel))
          clear hbel HWj HTj HX HY HC
          generalize Sort.grow (redrawn wr dq) osq = W2 at *
          go_upto_region 6 with fail
          refine wp_region_chain (fun k v => Turn [g] w v ∧ WRow v g (match k with | 0 => dj | 1 => dj.setIfInBounds (m + 1) y | _ => Sort.swp dj (m + 1) m) tail T)
            [some (37, .slice (some ⟨g, 0, none⟩) n cap), some (38, .int .i64 ((m + 1 : Nat) : Int)), some (39, .slice (some ⟨g, 0, none⟩) n cap), some (40, .int .i64 ((m + 1 : Nat) : Int)), some (41, .int .i64 (m : Int)), some (42, .slice (some ⟨g, 0, none⟩) n cap), some (43, .int .i64 ((m + 1 : Nat) : Int)), some (44, .int .i64 (m : Int)), some (45, .pointer (some ⟨g, 0 + m * 35, none⟩)), some (46, .agg (wrC y).toArray), some (47, .slice (some ⟨g, 0, none⟩) n cap), some (48, .int .i64 ((m + 1 : Nat) : Int)), some (49, .pointer (some ⟨g, 0 + (m + 1) * 35, none⟩)), some (50, .agg (wrC x).toArray), some (51, .pointer (some ⟨g, 0 + (m + 1) * 35, none⟩)), none, some (52, .pointer (some ⟨g, 0 + m * 35, none⟩)), none] [15, 17]
            (by kernel_rfl) (by kernel_rfl) rfl (by simp) (by simp) (by decide) (by decide) (fun r hr => by have h2 : r + 1 < 2 := hr; obtain rfl : r = 0 := (by omega); show _ = true; kernel_rfl) ⟨HT2.out.trans (Turn.drew _ _), HW2.out⟩ ?_ ?_ ?_
          · intro i hi hE a v k hfr hdep hC hkk K hK
            have hi18 : i < 18 := hi
            obtain rfl | rfl | rfl | rfl | rfl | rfl | rfl | rfl | rfl | rfl | rfl | rfl | rfl | rfl | rfl | rfl | rfl | rfl : i = 0 ∨ i = 1 ∨ i = 2 ∨ i = 3 ∨ i = 4 ∨ i = 5 ∨ i = 6 ∨ i = 7 ∨ i = 8 ∨ i = 9 ∨ i = 10 ∨ i = 11 ∨ i = 12 ∨ i = 13 ∨ i = 14 ∨ i = 15 ∨ i = 16 ∨ i = 17 := by omega
            · exact wpOp_mv rfl rfl (.tmp 0) rfl _ (hfr.off 0 (by simp)) hK
            · exact wpOp_mv rfl rfl (.tmp 9) rfl _ (hfr.off 9 (by simp)) hK
            · exact wpOp_mv rfl rfl (.tmp 0) rfl _ (hfr.off 0 (by simp)) hK
            · exact wpOp_mv rfl rfl (.tmp 9) rfl _ (hfr.off 9 (by simp)) hK
            · exact wpOp_val rfl rfl (exec_dec (.tmp 40) rfl m (by omega) (hdep 3 (by kernel_rfl) 40 _ rfl)) hK
            · exact wpOp_mv rfl rfl (.tmp 0) rfl _ (hfr.off 0 (by simp)) hK
            · exact wpOp_mv rfl rfl (.tmp 9) rfl _ (hfr.off 9 (by simp)) hK
            · exact wpOp_val rfl rfl (exec_dec (.tmp 43) rfl m (by omega) (hdep 6 (by kernel_rfl) 43 _ rfl)) hK
            · exact wpOp_ix rfl rfl 42 58 (.tmp 42) (.tmp 44) rfl Try.underlying42 35 sizWr g 0 n cap m (hdep 5 (by kernel_rfl) 42 _ rfl) (hdep 7 (by kernel_rfl) 44 _ rfl) hmn hK
            · have hk0 : k = 0 := by
                cases k with
                | zero => rfl
                | succ k => have := hkk 0 (by simp) (by omega); exact absurd this (by decide +kernel)
              subst hk0
              exact wpOp_ldr rfl rfl 58 (.tmp 45) rfl g (0 + m * 35) (wrC y) _ Try.underlying58 rfl (by rw [sizWr, wrC_len]) (hdep 8 (by kernel_rfl) 45 _ rfl) (by rw [HYe.out]; exact hC.2.range _ (by show m < dj.size; rw [HSj.out, ← HN.out]; omega)) hK
            · exact wpOp_mv rfl rfl (.tmp 0) rfl _ (hfr.off 0 (by simp)) hK
            · exact wpOp_mv rfl rfl (.tmp 9) rfl _ (hfr.off 9 (by simp)) hK
            · exact wpOp_ix rfl rfl 42 58 (.tmp 47) (.tmp 48) rfl Try.underlying42 35 sizWr g 0 n cap (m + 1) (hdep 10 (by kernel_rfl) 47 _ rfl) (hdep 11 (by kernel_rfl) 48 _ rfl) hjn hK
            · have hk0 : k = 0 := by
                cases k with
                | zero => rfl
                | succ k => have := hkk 0 (by simp) (by omega); exact absurd this (by decide +kernel)
              subst hk0
              exact wpOp_ldr rfl rfl 58 (.tmp 49) rfl g (0 + (m + 1) * 35) (wrC x) _ Try.underlying58 rfl (by rw [sizWr, wrC_len]) (hdep 12 (by kernel_rfl) 49 _ rfl) (by rw [HXe.out]; exact hC.2.range _ (by show m + 1 < dj.size; rw [HSj.out, ← HN.out]; omega)) hK
            · exact wpOp_ix rfl rfl 42 58 (.tmp 37) (.tmp 38) rfl Try.underlying42 35 sizWr g 0 n cap (m + 1) (hdep 0 (by kernel_rfl) 37 _ rfl) (hdep 1 (by kernel_rfl) 38 _ rfl) hjn hK
            · exact absurd (by simp) hE
            · exact wpOp_ix rfl rfl 42 58 (.tmp 39) (.tmp 41) rfl Try.underlying42 35 sizWr g 0 n cap m (hdep 2 (by kernel_rfl) 39 _ rfl) (hdep 4 (by kernel_rfl) 41 _ rfl) hmn hK
            · exact absurd (by simp) hE
          · intro r hr a v hfr hdep hC K hK
            have hr2 : r < 2 := hr
            obtain rfl | rfl : r = 0 ∨ r = 1 := by omega
            · exact wpOp_wr rfl rfl (.tmp 51) (.tmp 46) rfl g (m + 1) dj tail T y (by rw [HSj.out, ← HN.out]; omega) (hdep 14 (by kernel_rfl) 51 _ rfl) (hdep 9 (by kernel_rfl) 46 _ rfl) hC.2 (fun v2 h2 h3 => hK v2 ⟨hC.1.trans h3, h2⟩)
            · exact wpOp_wr rfl rfl (.tmp 52) (.tmp 50) rfl g m (dj.setIfInBounds (m + 1) y) tail T x (by rw [Array.size_setIfInBounds, HSj.out, ← HN.out]; omega) (hdep 16 (by kernel_rfl) 52 _ rfl) (hdep 13 (by kernel_rfl) 50 _ rfl) hC.2 (fun v2 h2 h3 => hK v2 ⟨hC.1.trans h3, by rw [HXe.out, HYe.out] at h2; exact h2⟩)
          · intro v hC
            have HW3 := Lib.hid hC.2
            have HT3 := Lib.hid hC.1
            clear hC
            simp only [puts, List.filterMap_cons, List.filterMap_nil, _root_.id, List.setIfInBounds_toArray, List.set_cons_zero, List.set_cons_succ]
            go_wp2_with fail
            go_roundw
            case rel => exact ⟨m, Sort.swp dj (m + 1) m, by go_num, by omega, by omega, by rw [size_swp]; exact HSj.out, HW3.out, HT3.out, by rw [← HI.out, insInner_go ltW a (m + 1) dj hja (by rw [← HXe.out]; exact (by simpa [← HYe.out] using hl))]; rfl⟩
            case measure => simp [intOf]
        · have hgA : decide ((a : Int) < (j : Int)) = false := decide_eq_false (by omega)
          go_upto_region 4 with fail
          refine wp_region_quiet_below (by kernel_rfl) (by kernel_rfl) ?_
          repeat (go_big_quiet_step (fail))
          refine wpQuiet_nil ?_
          rintro _ ⟨⟨dq, osq⟩, rfl⟩
          have hbel := below_regrown wr dq osq
          have HW2 := Lib.hid (HWj.out.turn (hbel.block _ (lt_heap HWj.out)))
          have HT2 := Lib.hid (HTj.out.trans (Turn.of_below hbel))
          clear hbel HWj HTj
          generalize Sort.grow (redrawn wr dq) osq = W2 at *
          go_wp2_with fail
          go_roundw
          case rel => exact ⟨i + 1, dj, by go_num, by omega, by omega, HSj, HW2, HT2, by rw [← HO.out, insOuter_go _ _ _ _ _ hlt, ← HI.out, insInner_stop _ _ _ _ (Or.inl (by omega))]; rfl⟩
          case measure => simp [intOf]; omega
    · go_wp2_with fail
      go_end0
      exact ⟨rfl, by unfold Sort.insertionSort; rw [← HO.out, insOuter_stop _ _ _ _ _ hlt]; exact HWk.out, HTk.out⟩
end Go.Proofs.Ytnafcbmpjjlhnaa
