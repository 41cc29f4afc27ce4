/- Insertion sort of a row of ints, by a closure. -/
import Derived.Test.YthimpgnagjgmdaaH8
import Derived.Sort.WalkA
namespace Go.Proofs.Ythimpgnagjgmdaa
open Go.RowKit Go.Sort

def IRow (w : World) (g : Nat) (d : Array Int) (tail : List Value) (T : TypeId) : Prop := w.heap[g]? = some (.cells (d.toList.flatMap eI ++ tail).toArray T (0, 0))
theorem eI_len (x : Int) : (eI x).length = 1 := rfl
theorem IRow.cell {w : World} {g : Nat} {d : Array Int} {tail : List Value} {T : TypeId} (h : IRow w g d tail T) (j : Nat) (hj : j < d.size) : w.cell? ⟨g, 0 + j * 1, none⟩ = some (.int .i64 d[j]!) := by
  have := range_nth eI_len (range_app_left (range_whole h)) j (by simpa using hj) 0 _ rfl
  rw [getElem!_pos d j hj]
  simpa using this
theorem IRow.turn {w w' : World} {g : Nat} {d : Array Int} {tail : List Value} {T : TypeId} (h : IRow w g d tail T) (hb : w'.heap[g]? = w.heap[g]?) : IRow w' g d tail T := hb.trans h
theorem i_set (xs : List Int) (tail : List Value) (j : Nat) (x : Int) (hj : j < xs.length) :
    (xs.flatMap eI ++ tail).take j ++ [.int .i64 x] ++ (xs.flatMap eI ++ tail).drop (j + 1) = (xs.set j x).flatMap eI ++ tail := by
  have h1 : j ≤ (xs.flatMap eI).length := by rw [flat_len eI_len]; omega
  have h2 : j + 1 ≤ (xs.flatMap eI).length := by rw [flat_len eI_len]; omega
  have e1 := flat_take eI_len xs j
  have e2 := flat_drop eI_len xs (j + 1)
  rw [Nat.mul_one] at e1 e2
  rw [List.take_append_of_le_length h1, List.drop_append_of_le_length h2, ← e1, ← e2, List.set_eq_take_append_cons_drop, if_pos hj]
  simp [List.append_assoc, eI]
theorem siz3 : (Try.prog.info? 3).map (·.size) = some 1 := by kernel_rfl
theorem exec_wI {o : Oper} {a : Act} {w : World} (x y : Operand) (ho : o.op = .store 3 x y) (g j : Nat) (d : Array Int) (tail : List Value) (T : TypeId) (v : Int) (hj : j < d.size)
    (hx : a.eval x = .pointer (some ⟨g, 0 + j * 1, none⟩)) (hy : a.eval y = .int .i64 v) (hg : IRow w g d tail T) :
    ∃ w', (execOp a.eval o).run Try.prog w = .ok .skip w' ∧ IRow w' g (d.setIfInBounds j v) tail T ∧ Turn [g] w w' := by
  have hjl : j < d.toList.length := by simpa using hj
  have hx' : a.eval x = .pointer (some ⟨g, j, none⟩) := by rw [hx, Nat.zero_add, Nat.mul_one]
  have h := exec_st1 (P := Try.prog) (a := a) (w := w) 3 siz3 x y ho g j (.int .i64 v) hx' hy rfl _ T hg (by rw [List.length_append, flat_len eI_len]; omega)
  rw [i_set _ _ _ _ hjl] at h
  refine ⟨_, h, ?_, ⟨rfl, rfl, rfl, by simp, fun k _ hr => setRow_other _ _ _ _ (by simpa using hr)⟩⟩
  unfold IRow
  rw [show (d.setIfInBounds j v).toList = d.toList.set j v by simp]
  exact setRow_at hg
theorem wpOp_wI {Q : Exit → Act → World → Prop} {ops : Array Oper} {i : Nat} {o : Oper} {a : Act} {w : World} {K : Act → World → Prop} (hi : ops[i]? = some o) (hg : o.guard = none) (x y : Operand) (ho : o.op = .store 3 x y) (g j : Nat) (d : Array Int) (tail : List Value) (T : TypeId) (v : Int) (hj : j < d.size)
    (hx : a.eval x = .pointer (some ⟨g, 0 + j * 1, none⟩)) (hy : a.eval y = .int .i64 v) (hr : IRow w g d tail T) (h : ∀ w', IRow w' g (d.setIfInBounds j v) tail T → Turn [g] w w' → K (a.put o.dst undef) w') : wpOp Try.prog ops Q i K a w :=
  have ⟨w', h1, h2, h3⟩ := exec_wI x y ho g j d tail T v hj hx hy hr
  wpOp_skip hi hg h1 (h w' h2 h3)
section
variable {W : World} {ops : Array Oper} {Q : Act → Prop} {a : Act} {o : Oper} {rest : List Oper}
theorem wq_ixI (C : World → Prop) (hw : Region.wanted o (yielded ops a.tmps) = true) (x y : Operand) (ho : o.op = .indexAddr 26 x y) (g n c j : Nat) (hx : a.eval x = .slice (some ⟨g, 0, none⟩) n c) (hy : a.eval y = .int .i64 (j : Int)) (hj : j < n)
    (h : wpQuiet Try.prog ops C Q rest (a.put o.dst (.pointer (some ⟨g, 0 + j * 1, none⟩)))) : wpQuiet Try.prog ops C Q (o :: rest) a := by
  refine wq_val (.pointer (some ⟨g, 0 + j * 1, none⟩)) hw (fun w => ?_) h
  cases hq : Try.prog.info? 3 with
  | none => have := siz3; simp [hq] at this
  | some i =>
    have hs : i.size = 1 := by have := siz3; simpa [hq] using this
    unfold execOp
    simp only [ho, hx, hy]
    simp [go_sem, Try.underlying26, sizeOf, typeInfo, hq, hs, hj]
end
theorem exec_dec {o : Oper} {a : Act} {w : World} (x : Operand) (ho : o.op = .binOp .sub 3 x (.const (.int .i64 1)) 3) (m : Nat) (hm : m ≤ 1000000) (hx : a.eval x = .int .i64 ((m + 1 : Nat) : Int)) : (execOp a.eval o).run Try.prog w = .ok (.value (.int .i64 (m : Int))) w := by
  have h1 : a.eval (.const (.int .i64 1)) = .int .i64 1 := rfl
  unfold execOp
  simp only [ho, hx, h1]
  simp [go_sem]
  rw [IntKind.wrap_i64]; omega
def ltF (cF : Int → Int → Int) (x y : Int) : Bool := decide (cF x y < 0)
/-- What the closure answers, wherever the row alone has turned. -/
def CloF (bx g : Nat) (cF : Int → Int → Int) (V : Int → Prop) (w : World) : Prop :=
  ∀ W x y, Turn [g] w W → V x → V y → Calls Try.prog 22 #[.int .i64 x, .int .i64 y, .pointer (some ⟨bx, 0, none⟩)] W fun e w' => e = .returned (.int .i64 (cF x y)) ∧ Below W.heap.size W w'
theorem swp_all {V : Int → Prop} {d : Array Int} {n i j : Nat} (h : ∀ k, k < n → V d[k]!) (hn : d.size = n) (hi : i < n) (hj : j < n) : ∀ k, k < n → V (Sort.swp d i j)[k]! := fun k hk => by
  rw [show (Sort.swp d i j)[k]! = ((d.setIfInBounds i d[j]!).setIfInBounds j d[i]!)[k]! from rfl, getElem!_pos _ k (by simp; omega), Array.getElem_setIfInBounds, Array.getElem_setIfInBounds]
  split
  · exact h i hi
  · split
    · exact h j hj
    · have := h k hk
      rwa [getElem!_pos d k (by omega)] at this
  · simp; omega
set_option maxRecDepth 100000 in
set_option maxHeartbeats 8000000 in
theorem insI_any (bx g cap a b : Nat) (cF : Int → Int → Int) (V : Int → Prop) (d : Array Int) (tail : List Value) (T : TypeId) (w : World) (hF : CloF bx g cF V w) (hV : ∀ i, i < d.size → V d[i]!) (hd : IRow w g d tail T) (hab : a ≤ b) (hb : b ≤ d.size) (hsz : d.size ≤ 1000000) :
    Calls Try.prog 36 #[.slice (some ⟨g, 0, none⟩) d.size cap, .int .i64 a, .int .i64 b, .func (.func 22) #[] #[.pointer (some ⟨bx, 0, none⟩)]] w fun e w' =>
      e = .returned (.tuple #[]) ∧ IRow w' g (Sort.insertionSort (ltF cF) d a b) tail T ∧ Turn [g] w w' := by
  obtain ⟨n, hn⟩ : ∃ n, n = d.size := ⟨_, rfl⟩
  rw [← hn]
  have HD := Lib.hid hd
  have HF := Lib.hid hF
  have HV0 : Hid (∀ i, i < d.size → V d[i]!) := hV
  have HN := Lib.hid hn
  clear hd hn hF hV
  go_enter Try.func36, Try.ntmps36
  go_wp2_with fail
  go_loopw [8] (fun vi wr => ∃ (i : Nat) (dk : Array Int), vi = .int .i64 i ∧ a < i ∧ i ≤ b + 1 ∧ Hid (dk.size = d.size) ∧ Hid (∀ i, i < d.size → V dk[i]!) ∧ Hid (IRow wr g dk tail T) ∧ Hid (Turn [g] w wr) ∧ Hid (insOuter (ltF cF) a b i dk = insOuter (ltF cF) a b (a + 1) d)) (fun vi _ => b + 1 - (intOf vi).toNat)
  case atStart => exact ⟨a + 1, d, by go_num, by omega, by omega, rfl, HV0, HD.out, Turn.refl _ _, rfl⟩
  case round =>
    obtain ⟨i, dk, rfl, hai, hib, HSk, HVk, HWk, HTk, HO⟩ := hrel
    by_cases hlt : i < b
    · go_wp2_with fail
      go_loopw [9] (fun vj wr2 => ∃ (j : Nat) (dj : Array Int), vj = .int .i64 j ∧ a ≤ j ∧ j ≤ i ∧ Hid (dj.size = d.size) ∧ Hid (∀ i, i < d.size → V dj[i]!) ∧ Hid (IRow wr2 g dj tail T) ∧ Hid (Turn [g] w wr2) ∧ Hid (insInner (ltF cF) a j dj = insInner (ltF cF) a i dk)) (fun vj _ => (intOf vj).toNat)
      case atStart => exact ⟨i, dk, rfl, by omega, Nat.le_refl _, HSk, HVk, HWk, HTk, rfl⟩
      case round =>
        obtain ⟨j, dj, rfl, haj, hji, HSj, HVj, HWj, HTj, HI⟩ := hrel
        by_cases hja : a < j
        · obtain ⟨m, rfl⟩ : ∃ m, j = m + 1 := ⟨j - 1, by omega⟩
          have hjn : m + 1 < n := by have := HN.out; omega
          have hmn : m < n := by omega
          have HX : Hid (wr.cell? ⟨g, 0 + (m + 1) * 1, none⟩ = some (.int .i64 dj[m + 1]!)) := HWj.out.cell _ (by rw [HSj.out, ← HN.out]; omega)
          have HY : Hid (wr.cell? ⟨g, 0 + m * 1, none⟩ = some (.int .i64 dj[m]!)) := HWj.out.cell m (by rw [HSj.out, ← HN.out]; omega)
          have hVx := HVj.out (m + 1) (by rw [← HN.out]; omega)
          have hVy := HVj.out m (by rw [← HN.out]; omega)
          obtain ⟨x, hx⟩ : ∃ x, x = dj[m + 1]! := ⟨_, rfl⟩
          obtain ⟨y, hy⟩ : ∃ y, y = dj[m]! := ⟨_, rfl⟩
          rw [← hx] at HX hVx
          rw [← hy] at HY hVy
          have HXe := Lib.hid hx
          have HYe := Lib.hid hy
          clear hx hy
          cases hl : (ltF cF) x y
          · obtain ⟨c, hc⟩ : ∃ c, c = cF x y := ⟨_, rfl⟩
            have hcn : ¬ c < 0 := by rw [hc]; exact of_decide_eq_false hl
            have hcd : decide (c < 0) = false := decide_eq_false hcn
            have HC : Hid (∀ W, Below wr.heap.size wr W → Calls Try.prog 22 #[.int .i64 x, .int .i64 y, .pointer (some ⟨bx, 0, none⟩)] W fun e w' => e = .returned (.int .i64 c) ∧ Below W.heap.size W w') := fun W hW => by have := HF.out W x y (HTj.out.trans (Turn.of_below hW)) hVx hVy; rwa [← hc] at this
            have hgA : decide ((a : Int) < (m : Int) + 1) = true := decide_eq_true (by omega)
            go_upto_region 4 with fail
            refine wp_region_quiet_below (by kernel_rfl) (by kernel_rfl) ?_
            repeat (first
              | (refine wq_ixI _ rfl (.tmp 23) (.tmp 24) rfl g n cap (m + 1) rfl rfl hjn ?_; simp only [Act.put, List.setIfInBounds_toArray, List.set_cons_zero, List.set_cons_succ])
              | (refine wq_one rfl 3 (.tmp 25) rfl g (0 + (m + 1) * 1) (.int .i64 x) ag3 rfl HX.out (lt_heap HWj.out) ?_; simp only [Act.put, List.setIfInBounds_toArray, List.set_cons_zero, List.set_cons_succ])
              | (refine wq_one rfl 3 (.tmp 30) rfl g (0 + m * 1) (.int .i64 y) ag3 rfl HY.out (lt_heap HWj.out) ?_; simp only [Act.put, List.setIfInBounds_toArray, List.set_cons_zero, List.set_cons_succ])
              | (refine wq_ixI _ rfl (.tmp 27) (.tmp 29) rfl g n cap m rfl rfl hmn ?_; simp only [Act.put, List.setIfInBounds_toArray, List.set_cons_zero, List.set_cons_succ])
              | (refine wq_val (.int .i64 (m : Int)) rfl (fun w => exec_dec (.tmp 28) rfl m (by omega) rfl) ?_; simp only [Act.put, List.setIfInBounds_toArray, List.set_cons_zero, List.set_cons_succ])
              | go_big_quiet_step (first | (with_reducible exact rg_callB HC.out _ _)))
            refine wpQuiet_nil ?_
            rintro _ ⟨⟨dq, osq⟩, rfl⟩
            have hbel := below_regrown wr dq osq
            have HW2 := Lib.hid (HWj.out.turn (hbel.block _ (lt_heap HWj.out)))
            have HT2 := Lib.hid (HTj.out.trans (Turn.of_below hbel))
            clear hbel HWj HTj HX HY HC hVx hVy
            generalize Sort.grow (redrawn wr dq) osq = W2 at *
            go_wp2_with fail
            go_roundw
            case rel => exact ⟨i + 1, dj, by go_num, by omega, by omega, HSj, HVj, HW2, HT2, by rw [← HO.out, insOuter_go _ _ _ _ _ hlt, ← HI.out, insInner_stop _ _ _ _ (Or.inr (by rw [← HXe.out]; exact (by simpa [← HYe.out] using hl)))]; rfl⟩
            case measure => simp [intOf]; omega
          obtain ⟨c, hc⟩ : ∃ c, c = cF x y := ⟨_, rfl⟩
          have hcn : c < 0 := by rw [hc]; exact of_decide_eq_true hl
          have hcd : decide (c < 0) = true := decide_eq_true hcn
          have HC : Hid (∀ W, Below wr.heap.size wr W → Calls Try.prog 22 #[.int .i64 x, .int .i64 y, .pointer (some ⟨bx, 0, none⟩)] W fun e w' => e = .returned (.int .i64 c) ∧ Below W.heap.size W w') := fun W hW => by have := HF.out W x y (HTj.out.trans (Turn.of_below hW)) hVx hVy; rwa [← hc] at this
          have hgA : decide ((a : Int) < (m : Int) + 1) = true := decide_eq_true (by omega)
          go_upto_region 4 with fail
          refine wp_region_quiet_below (by kernel_rfl) (by kernel_rfl) ?_
          repeat (first
            | (refine wq_ixI _ rfl (.tmp 23) (.tmp 24) rfl g n cap (m + 1) rfl rfl hjn ?_; simp only [Act.put, List.setIfInBounds_toArray, List.set_cons_zero, List.set_cons_succ])
            | (refine wq_one rfl 3 (.tmp 25) rfl g (0 + (m + 1) * 1) (.int .i64 x) ag3 rfl HX.out (lt_heap HWj.out) ?_; simp only [Act.put, List.setIfInBounds_toArray, List.set_cons_zero, List.set_cons_succ])
            | (refine wq_one rfl 3 (.tmp 30) rfl g (0 + m * 1) (.int .i64 y) ag3 rfl HY.out (lt_heap HWj.out) ?_; simp only [Act.put, List.setIfInBounds_toArray, List.set_cons_zero, List.set_cons_succ])
            | (refine wq_ixI _ rfl (.tmp 27) (.tmp 29) rfl g n cap m rfl rfl hmn ?_; simp only [Act.put, List.setIfInBounds_toArray, List.set_cons_zero, List.set_cons_succ])
            | (refine wq_val (.int .i64 (m : Int)) rfl (fun w => exec_dec (.tmp 28) rfl m (by omega) rfl) ?_; simp only [Act.put, List.setIfInBounds_toArray, List.set_cons_zero, List.set_cons_succ])
            | go_big_quiet_step (first | (with_reducible exact rg_callB HC.out _ _)))
          refine wpQuiet_nil ?_
          rintro _ ⟨⟨dq, osq⟩, rfl⟩
          have hbel := below_regrown wr dq osq
          have HW2 := Lib.hid (HWj.out.turn (hbel.block _ (lt_heap HWj.out)))
          have HT2 := Lib.hid (HTj.out.trans (Turn.of_below hbel))
          clear hbel HWj HTj HX HY HC hVx hVy
          generalize Sort.grow (redrawn wr dq) osq = W2 at *
          go_upto_region 6 with fail
          refine wp_region_chain (fun k v => Turn [g] w v ∧ IRow v g (match k with | 0 => dj | 1 => dj.setIfInBounds (m + 1) y | _ => Sort.swp dj (m + 1) m) tail T)
            [some (37, .slice (some ⟨g, 0, none⟩) n cap), some (38, .int .i64 ((m + 1 : Nat) : Int)), some (39, .slice (some ⟨g, 0, none⟩) n cap), some (40, .int .i64 ((m + 1 : Nat) : Int)), some (41, .int .i64 (m : Int)), some (42, .slice (some ⟨g, 0, none⟩) n cap), some (43, .int .i64 ((m + 1 : Nat) : Int)), some (44, .int .i64 (m : Int)), some (45, .pointer (some ⟨g, 0 + m * 1, none⟩)), some (46, .int .i64 y), some (47, .slice (some ⟨g, 0, none⟩) n cap), some (48, .int .i64 ((m + 1 : Nat) : Int)), some (49, .pointer (some ⟨g, 0 + (m + 1) * 1, none⟩)), some (50, .int .i64 x), some (51, .pointer (some ⟨g, 0 + (m + 1) * 1, none⟩)), none, some (52, .pointer (some ⟨g, 0 + m * 1, none⟩)), none] [15, 17]
            (by kernel_rfl) (by kernel_rfl) rfl (by simp) (by simp) (by decide) (by decide) (fun r hr => by have h2 : r + 1 < 2 := hr; obtain rfl : r = 0 := (by omega); show _ = true; kernel_rfl) ⟨HT2.out.trans (Turn.drew _ _), HW2.out⟩ ?_ ?_ ?_
          · intro i hi hE a v k hfr hdep hC hkk K hK
            have hi18 : i < 18 := hi
            obtain rfl | rfl | rfl | rfl | rfl | rfl | rfl | rfl | rfl | rfl | rfl | rfl | rfl | rfl | rfl | rfl | rfl | rfl : i = 0 ∨ i = 1 ∨ i = 2 ∨ i = 3 ∨ i = 4 ∨ i = 5 ∨ i = 6 ∨ i = 7 ∨ i = 8 ∨ i = 9 ∨ i = 10 ∨ i = 11 ∨ i = 12 ∨ i = 13 ∨ i = 14 ∨ i = 15 ∨ i = 16 ∨ i = 17 := by omega
            · exact wpOp_mv rfl rfl (.tmp 0) rfl _ (hfr.off 0 (by simp)) hK
            · exact wpOp_mv rfl rfl (.tmp 9) rfl _ (hfr.off 9 (by simp)) hK
            · exact wpOp_mv rfl rfl (.tmp 0) rfl _ (hfr.off 0 (by simp)) hK
            · exact wpOp_mv rfl rfl (.tmp 9) rfl _ (hfr.off 9 (by simp)) hK
            · exact wpOp_val rfl rfl (exec_dec (.tmp 40) rfl m (by omega) (hdep 3 (by kernel_rfl) 40 _ rfl)) hK
            · exact wpOp_mv rfl rfl (.tmp 0) rfl _ (hfr.off 0 (by simp)) hK
            · exact wpOp_mv rfl rfl (.tmp 9) rfl _ (hfr.off 9 (by simp)) hK
            · exact wpOp_val rfl rfl (exec_dec (.tmp 43) rfl m (by omega) (hdep 6 (by kernel_rfl) 43 _ rfl)) hK
            · exact wpOp_ix rfl rfl 26 3 (.tmp 42) (.tmp 44) rfl Try.underlying26 1 siz3 g 0 n cap m (hdep 5 (by kernel_rfl) 42 _ rfl) (hdep 7 (by kernel_rfl) 44 _ rfl) hmn hK
            · have hk0 : k = 0 := by
                cases k with
                | zero => rfl
                | succ k => have := hkk 0 (by simp) (by omega); exact absurd this (by decide +kernel)
              subst hk0
              exact wpOp_val rfl rfl (exec_ld1 3 ag3 (.tmp 45) rfl g (0 + m * 1) (.int .i64 y) (hdep 8 (by kernel_rfl) 45 _ rfl) (by rw [HYe.out]; exact hC.2.cell _ (by show m < dj.size; rw [HSj.out, ← HN.out]; omega))) hK
            · exact wpOp_mv rfl rfl (.tmp 0) rfl _ (hfr.off 0 (by simp)) hK
            · exact wpOp_mv rfl rfl (.tmp 9) rfl _ (hfr.off 9 (by simp)) hK
            · exact wpOp_ix rfl rfl 26 3 (.tmp 47) (.tmp 48) rfl Try.underlying26 1 siz3 g 0 n cap (m + 1) (hdep 10 (by kernel_rfl) 47 _ rfl) (hdep 11 (by kernel_rfl) 48 _ rfl) hjn hK
            · have hk0 : k = 0 := by
                cases k with
                | zero => rfl
                | succ k => have := hkk 0 (by simp) (by omega); exact absurd this (by decide +kernel)
              subst hk0
              exact wpOp_val rfl rfl (exec_ld1 3 ag3 (.tmp 49) rfl g (0 + (m + 1) * 1) (.int .i64 x) (hdep 12 (by kernel_rfl) 49 _ rfl) (by rw [HXe.out]; exact hC.2.cell _ (by show m + 1 < dj.size; rw [HSj.out, ← HN.out]; omega))) hK
            · exact wpOp_ix rfl rfl 26 3 (.tmp 37) (.tmp 38) rfl Try.underlying26 1 siz3 g 0 n cap (m + 1) (hdep 0 (by kernel_rfl) 37 _ rfl) (hdep 1 (by kernel_rfl) 38 _ rfl) hjn hK
            · exact absurd (by simp) hE
            · exact wpOp_ix rfl rfl 26 3 (.tmp 39) (.tmp 41) rfl Try.underlying26 1 siz3 g 0 n cap m (hdep 2 (by kernel_rfl) 39 _ rfl) (hdep 4 (by kernel_rfl) 41 _ rfl) hmn hK
            · exact absurd (by simp) hE
          · intro r hr a v hfr hdep hC K hK
            have hr2 : r < 2 := hr
            obtain rfl | rfl : r = 0 ∨ r = 1 := by omega
            · exact wpOp_wI rfl rfl (.tmp 51) (.tmp 46) rfl g (m + 1) dj tail T y (by rw [HSj.out, ← HN.out]; omega) (hdep 14 (by kernel_rfl) 51 _ rfl) (hdep 9 (by kernel_rfl) 46 _ rfl) hC.2 (fun v2 h2 h3 => hK v2 ⟨hC.1.trans h3, h2⟩)
            · exact wpOp_wI rfl rfl (.tmp 52) (.tmp 50) rfl g m (dj.setIfInBounds (m + 1) y) tail T x (by rw [Array.size_setIfInBounds, HSj.out, ← HN.out]; omega) (hdep 16 (by kernel_rfl) 52 _ rfl) (hdep 13 (by kernel_rfl) 50 _ rfl) hC.2 (fun v2 h2 h3 => hK v2 ⟨hC.1.trans h3, by rw [HXe.out, HYe.out] at h2; exact h2⟩)
          · intro v hC
            have HW3 := Lib.hid hC.2
            have HT3 := Lib.hid hC.1
            clear hC
            simp only [puts, List.filterMap_cons, List.filterMap_nil, _root_.id, List.setIfInBounds_toArray, List.set_cons_zero, List.set_cons_succ]
            go_wp2_with fail
            go_roundw
            case rel => exact ⟨m, Sort.swp dj (m + 1) m, by go_num, by omega, by omega, by rw [size_swp]; exact HSj.out, swp_all HVj.out HSj.out (by rw [← HN.out]; omega) (by rw [← HN.out]; omega), HW3.out, HT3.out, by rw [← HI.out, insInner_go (ltF cF) a (m + 1) dj hja (by rw [← HXe.out]; exact (by simpa [← HYe.out] using hl))]; rfl⟩
            case measure => simp [intOf]
        · have hgA : decide ((a : Int) < (j : Int)) = false := decide_eq_false (by omega)
          go_upto_region 4 with fail
          refine wp_region_quiet_below (by kernel_rfl) (by kernel_rfl) ?_
          repeat (go_big_quiet_step (fail))
          refine wpQuiet_nil ?_
          rintro _ ⟨⟨dq, osq⟩, rfl⟩
          have hbel := below_regrown wr dq osq
          have HW2 := Lib.hid (HWj.out.turn (hbel.block _ (lt_heap HWj.out)))
          have HT2 := Lib.hid (HTj.out.trans (Turn.of_below hbel))
          clear hbel HWj HTj
          generalize Sort.grow (redrawn wr dq) osq = W2 at *
          go_wp2_with fail
          go_roundw
          case rel => exact ⟨i + 1, dj, by go_num, by omega, by omega, HSj, HVj, HW2, HT2, by rw [← HO.out, insOuter_go _ _ _ _ _ hlt, ← HI.out, insInner_stop _ _ _ _ (Or.inl (by omega))]; rfl⟩
          case measure => simp [intOf]; omega
    · go_wp2_with fail
      go_end0
      exact ⟨rfl, by unfold Sort.insertionSort; rw [← HO.out, insOuter_stop _ _ _ _ _ hlt]; exact HWk.out, HTk.out⟩
end Go.Proofs.Ythimpgnagjgmdaa
