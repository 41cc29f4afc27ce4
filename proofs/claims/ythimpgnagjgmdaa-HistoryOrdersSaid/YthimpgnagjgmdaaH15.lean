/- Exchange of two ranges of a row of ints; rotation. -/
import Derived.Test.YthimpgnagjgmdaaH11
import Derived.Test.YthimpgnagjgmdaaSM
namespace Go.Proofs.Ythimpgnagjgmdaa
open Go.RowKit Go.Sort

theorem exec_addI {o : Oper} {a : Act} {w : World} (x y : Operand) (ho : o.op = .binOp .add 3 x y 3) (m n : Nat) (hm : m + n ≤ 1000000) (hx : a.eval x = .int .i64 (m : Int)) (hy : a.eval y = .int .i64 (n : Int)) : (execOp a.eval o).run Try.prog w = .ok (.value (.int .i64 ((m + n : Nat) : Int))) w := by
  unfold execOp
  simp only [ho, hx, hy]
  simp [go_sem]
  rw [IntKind.wrap_i64]; omega
set_option maxRecDepth 100000 in
set_option maxHeartbeats 8000000 in
theorem swapI_any (g cap n a b c : Nat) (fv : Value) (d : Array Int) (tail : List Value) (T : TypeId) (w : World) (hd : IRow w g d tail T) (hn : d.size = n) (hab : a + c ≤ b) (hb : b + c ≤ n) (hsz : n ≤ 1000000) :
    Calls Try.prog 39 #[.slice (some ⟨g, 0, none⟩) n cap, .int .i64 a, .int .i64 b, .int .i64 c, fv] w fun e w' =>
      e = .returned (.tuple #[]) ∧ ∃ d', SwR a b c d d' ∧ IRow w' g d' tail T ∧ Turn [g] w w' := by
  have HD := Lib.hid hd
  have HN := Lib.hid hn
  clear hd hn
  go_enter Try.func39, Try.ntmps39
  go_wp2_with fail
  go_loopw [10] (fun vi wr => ∃ (i : Nat) (dk : Array Int), vi = .int .i64 i ∧ i ≤ c ∧ Hid (SwR a b i d dk) ∧ Hid (IRow wr g dk tail T) ∧ Hid (Turn [g] w wr)) (fun vi _ => c - (intOf vi).toNat)
  case atStart => exact ⟨0, d, rfl, Nat.zero_le _, SwR.refl _ _ _, HD, Turn.refl _ _⟩
  case round =>
    obtain ⟨i, dk, rfl, hic, HSk, HWk, HTk⟩ := hrel
    by_cases hlt : i < c
    · have hai : a + i < n := by omega
      have hbi : b + i < n := by omega
      have hdn : dk.size = n := by rw [HSk.out.1]; exact HN.out
      obtain ⟨x, hx⟩ : ∃ x, x = dk[a + i]! := ⟨_, rfl⟩
      obtain ⟨y, hy⟩ : ∃ y, y = dk[b + i]! := ⟨_, rfl⟩
      have HXe := Lib.hid hx
      have HYe := Lib.hid hy
      have HDn := Lib.hid hdn
      clear hx hy hdn
      go_upto_region 3 with fail
      refine wp_region_chain (fun k v => Turn [g] w v ∧ IRow v g (match k with | 0 => dk | 1 => dk.setIfInBounds (a + i) y | _ => Sort.swp dk (a + i) (b + i)) tail T)
        [some (16, .slice (some ⟨g, 0, none⟩) n cap), some (17, .int .i64 (a : Int)), some (18, .int .i64 (i : Int)), some (19, .int .i64 ((a + i : Nat) : Int)),
         some (20, .slice (some ⟨g, 0, none⟩) n cap), some (21, .int .i64 (b : Int)), some (22, .int .i64 (i : Int)), some (23, .int .i64 ((b + i : Nat) : Int)),
         some (24, .slice (some ⟨g, 0, none⟩) n cap), some (25, .int .i64 (b : Int)), some (26, .int .i64 (i : Int)), some (27, .int .i64 ((b + i : Nat) : Int)), some (28, .pointer (some ⟨g, 0 + (b + i) * 1, none⟩)), some (29, .int .i64 y),
         some (30, .slice (some ⟨g, 0, none⟩) n cap), some (31, .int .i64 (a : Int)), some (32, .int .i64 (i : Int)), some (33, .int .i64 ((a + i : Nat) : Int)), some (34, .pointer (some ⟨g, 0 + (a + i) * 1, none⟩)), some (35, .int .i64 x),
         some (36, .pointer (some ⟨g, 0 + (a + i) * 1, none⟩)), none, some (37, .pointer (some ⟨g, 0 + (b + i) * 1, none⟩)), none] [21, 23]
        (by kernel_rfl) (by kernel_rfl) rfl (by simp) (by simp) (by decide) (by decide) (fun r hr => by have h2 : r + 1 < 2 := hr; obtain rfl : r = 0 := (by omega); show _ = true; kernel_rfl) ⟨HTk.out.trans (Turn.drew _ _), HWk.out⟩ ?_ ?_ ?_
      · intro i' hi hE a' v k hfr hdep hC hkk K hK
        have hi18 : i' < 24 := hi
        obtain rfl | rfl | rfl | rfl | rfl | rfl | rfl | rfl | rfl | rfl | rfl | rfl | rfl | rfl | rfl | rfl | rfl | rfl | rfl | rfl | rfl | rfl | rfl | rfl : i' = 0 ∨ i' = 1 ∨ i' = 2 ∨ i' = 3 ∨ i' = 4 ∨ i' = 5 ∨ i' = 6 ∨ i' = 7 ∨ i' = 8 ∨ i' = 9 ∨ i' = 10 ∨ i' = 11 ∨ i' = 12 ∨ i' = 13 ∨ i' = 14 ∨ i' = 15 ∨ i' = 16 ∨ i' = 17 ∨ i' = 18 ∨ i' = 19 ∨ i' = 20 ∨ i' = 21 ∨ i' = 22 ∨ i' = 23 := by omega
        · exact wpOp_mv rfl rfl (.tmp 0) rfl _ (hfr.off 0 (by simp)) hK
        · exact wpOp_mv rfl rfl (.tmp 1) rfl _ (hfr.off 1 (by simp)) hK
        · exact wpOp_mv rfl rfl (.tmp 10) rfl _ (hfr.off 10 (by simp)) hK
        · exact wpOp_val rfl rfl (exec_addI (.tmp 17) (.tmp 18) rfl a i (by omega) (hdep 1 (by kernel_rfl) 17 _ rfl) (hdep 2 (by kernel_rfl) 18 _ rfl)) hK
        · exact wpOp_mv rfl rfl (.tmp 0) rfl _ (hfr.off 0 (by simp)) hK
        · exact wpOp_mv rfl rfl (.tmp 2) rfl _ (hfr.off 2 (by simp)) hK
        · exact wpOp_mv rfl rfl (.tmp 10) rfl _ (hfr.off 10 (by simp)) hK
        · exact wpOp_val rfl rfl (exec_addI (.tmp 21) (.tmp 22) rfl b i (by omega) (hdep 5 (by kernel_rfl) 21 _ rfl) (hdep 6 (by kernel_rfl) 22 _ rfl)) hK
        · exact wpOp_mv rfl rfl (.tmp 0) rfl _ (hfr.off 0 (by simp)) hK
        · exact wpOp_mv rfl rfl (.tmp 2) rfl _ (hfr.off 2 (by simp)) hK
        · exact wpOp_mv rfl rfl (.tmp 10) rfl _ (hfr.off 10 (by simp)) hK
        · exact wpOp_val rfl rfl (exec_addI (.tmp 25) (.tmp 26) rfl b i (by omega) (hdep 9 (by kernel_rfl) 25 _ rfl) (hdep 10 (by kernel_rfl) 26 _ rfl)) hK
        · exact wpOp_ix rfl rfl 26 3 (.tmp 24) (.tmp 27) rfl Try.underlying26 1 siz3 g 0 n cap (b + i) (hdep 8 (by kernel_rfl) 24 _ rfl) (hdep 11 (by kernel_rfl) 27 _ rfl) hbi hK
        · have hk0 : k = 0 := by
            cases k with
            | zero => rfl
            | succ k => have := hkk 0 (by simp) (by omega); exact absurd this (by decide +kernel)
          subst hk0
          exact wpOp_val rfl rfl (exec_ld1 3 ag3 (.tmp 28) rfl g (0 + (b + i) * 1) (.int .i64 y) (hdep 12 (by kernel_rfl) 28 _ rfl) (by rw [HYe.out]; exact hC.2.cell _ (by show b + i < dk.size; rw [HDn.out]; exact hbi))) hK
        · exact wpOp_mv rfl rfl (.tmp 0) rfl _ (hfr.off 0 (by simp)) hK
        · exact wpOp_mv rfl rfl (.tmp 1) rfl _ (hfr.off 1 (by simp)) hK
        · exact wpOp_mv rfl rfl (.tmp 10) rfl _ (hfr.off 10 (by simp)) hK
        · exact wpOp_val rfl rfl (exec_addI (.tmp 31) (.tmp 32) rfl a i (by omega) (hdep 15 (by kernel_rfl) 31 _ rfl) (hdep 16 (by kernel_rfl) 32 _ rfl)) hK
        · exact wpOp_ix rfl rfl 26 3 (.tmp 30) (.tmp 33) rfl Try.underlying26 1 siz3 g 0 n cap (a + i) (hdep 14 (by kernel_rfl) 30 _ rfl) (hdep 17 (by kernel_rfl) 33 _ rfl) hai hK
        · have hk0 : k = 0 := by
            cases k with
            | zero => rfl
            | succ k => have := hkk 0 (by simp) (by omega); exact absurd this (by decide +kernel)
          subst hk0
          exact wpOp_val rfl rfl (exec_ld1 3 ag3 (.tmp 34) rfl g (0 + (a + i) * 1) (.int .i64 x) (hdep 18 (by kernel_rfl) 34 _ rfl) (by rw [HXe.out]; exact hC.2.cell _ (by show a + i < dk.size; rw [HDn.out]; exact hai))) hK
        · exact wpOp_ix rfl rfl 26 3 (.tmp 16) (.tmp 19) rfl Try.underlying26 1 siz3 g 0 n cap (a + i) (hdep 0 (by kernel_rfl) 16 _ rfl) (hdep 3 (by kernel_rfl) 19 _ rfl) hai hK
        · exact absurd (by simp) hE
        · exact wpOp_ix rfl rfl 26 3 (.tmp 20) (.tmp 23) rfl Try.underlying26 1 siz3 g 0 n cap (b + i) (hdep 4 (by kernel_rfl) 20 _ rfl) (hdep 7 (by kernel_rfl) 23 _ rfl) hbi hK
        · exact absurd (by simp) hE
      · intro r hr a' v hfr hdep hC K hK
        have hr2 : r < 2 := hr
        obtain rfl | rfl : r = 0 ∨ r = 1 := by omega
        · exact wpOp_wI rfl rfl (.tmp 36) (.tmp 29) rfl g (a + i) dk tail T y (by rw [HDn.out]; exact hai) (hdep 20 (by kernel_rfl) 36 _ rfl) (hdep 13 (by kernel_rfl) 29 _ rfl) hC.2 (fun v2 h2 h3 => hK v2 ⟨hC.1.trans h3, h2⟩)
        · exact wpOp_wI rfl rfl (.tmp 37) (.tmp 35) rfl g (b + i) (dk.setIfInBounds (a + i) y) tail T x (by rw [Array.size_setIfInBounds, HDn.out]; exact hbi) (hdep 22 (by kernel_rfl) 37 _ rfl) (hdep 19 (by kernel_rfl) 35 _ rfl) hC.2 (fun v2 h2 h3 => hK v2 ⟨hC.1.trans h3, by rw [HXe.out, HYe.out] at h2; exact h2⟩)
      · intro v hC
        have HW3 := Lib.hid hC.2
        have HT3 := Lib.hid hC.1
        clear hC
        simp only [puts, List.filterMap_cons, List.filterMap_nil, _root_.id, List.setIfInBounds_toArray, List.set_cons_zero, List.set_cons_succ]
        go_wp2_with fail
        go_roundw
        case rel => exact ⟨i + 1, Sort.swp dk (a + i) (b + i), by go_num, by omega, HSk.out.step (by omega) (by rw [HN.out]; omega), HW3, HT3⟩
        case measure => simp [intOf]; omega
    · go_wp2_with fail
      go_end0
      have e : i = c := by omega
      exact ⟨rfl, dk, e ▸ HSk.out, HWk.out, HTk.out⟩
end Go.Proofs.Ythimpgnagjgmdaa
