/- The merge in place of two runs of ints: the second of one place. -/
import Derived.Test.YthimpgnagjgmdaaH17
namespace Go.Proofs.Ythimpgnagjgmdaa
open Go.RowKit Go.Sort

theorem rot_none (m e : Nat) (d : Array Int) (x : Nat) : d[x]! = rotF m m e d x := by
  unfold rotF
  by_cases c : m ≤ x ∧ x < m + (e - m)
  · rw [if_pos c]; congr 1; omega
  · rw [if_neg c]
    by_cases c2 : m + (e - m) ≤ x ∧ x < e
    · omega
    · rw [if_neg c2]
set_option maxRecDepth 100000 in
set_option maxHeartbeats 8000000 in
theorem sym2_any (bx g cap n a m : Nat) (cF : Int → Int → Int) (V : Int → Prop) (d : Array Int) (tail : List Value) (T : TypeId) (w : World) (hF : CloF bx g cF V w) (hV : ∀ i, i < n → V d[i]!) (hd : IRow w g d tail T) (hn : d.size = n) (ham : a + 1 < m) (hb : m + 1 ≤ n) (hsz : n ≤ 1000000) (hS : SWO (ltF cF))
    (hlate : ∀ q, a ≤ q → q < m → d[q]! < d[m]!) (hs1 : SortedIn (lt2 (ltF cF)) a m d) :
    Calls Try.prog 37 #[.slice (some ⟨g, 0, none⟩) n cap, .int .i64 a, .int .i64 m, .int .i64 ((m + 1 : Nat) : Int), .func (.func 22) #[] #[.pointer (some ⟨bx, 0, none⟩)]] w fun e w' =>
      e = .returned (.tuple #[]) ∧ ∃ d', (PermIn a (m + 1) d d' ∧ SortedIn (lt2 (ltF cF)) a (m + 1) d') ∧ IRow w' g d' tail T ∧ Turn [g] w w' := by
  have HD := Lib.hid hd
  have HN := Lib.hid hn
  have HF := Lib.hid hF
  have HV := Lib.hid hV
  have HL := Lib.hid hlate
  have HS1 := Lib.hid hs1
  have HS := Lib.hid hS
  clear hd hn hF hV hlate hs1 hS
  have hm1 : ((m : Int) - (a : Int) == 1) = false := by simp; omega
  go_enter Try.func37, Try.ntmps37
  go_wp2_with fail
  go_loopw [14, 15, 16] (fun vi vj vh wr => ∃ (i j : Nat), vi = .int .i64 i ∧ vj = .int .i64 j ∧ a ≤ i ∧ i ≤ j ∧ j ≤ m ∧ Hid (i = a ∨ ltF cF d[m]! d[i - 1]! = false) ∧ Hid (j = m ∨ ltF cF d[m]! d[j]! = true) ∧ Hid (IRow wr g d tail T) ∧ Hid (Turn [g] w wr)) (fun vi vj _ _ => (intOf vj).toNat - (intOf vi).toNat)
  case atStart => exact ⟨a, m, rfl, rfl, by omega, by omega, by omega, Or.inl rfl, Or.inl rfl, HD, Turn.refl _ _⟩
  case round =>
    obtain ⟨i, j, rfl, rfl, hai, hij, hjb, HI, HJ, HW, HT⟩ := hrel
    by_cases hlt : i < j
    · go_upto_region 17 with fail
      obtain ⟨h, hh⟩ : ∃ h : Nat, h = (i + j) / 2 := ⟨_, rfl⟩
      have he : ((i : Int) + (j : Int)) / 2 = (h : Int) := by omega
      rw [he]
      have hih : i ≤ h := by omega
      have hhj : h < j := by omega
      have hhn : h < n := by omega
      clear he hh
      have hmn : m < n := by omega
      have HX : Hid (wr.cell? ⟨g, 0 + m * 1, none⟩ = some (.int .i64 d[m]!)) := HW.out.cell m (by rw [HN.out]; exact hmn)
      have HY : Hid (wr.cell? ⟨g, 0 + h * 1, none⟩ = some (.int .i64 d[h]!)) := HW.out.cell h (by rw [HN.out]; exact hhn)
      have hVx := HV.out m hmn
      have hVy := HV.out h hhn
      obtain ⟨x, hx⟩ : ∃ x, x = d[m]! := ⟨_, rfl⟩
      obtain ⟨y, hy⟩ : ∃ y, y = d[h]! := ⟨_, rfl⟩
      rw [← hx] at HX hVx
      rw [← hy] at HY hVy
      have HXe := Lib.hid hx
      have HYe := Lib.hid hy
      clear hx hy
      obtain ⟨c, hc⟩ : ∃ c, c = cF x y := ⟨_, rfl⟩
      have HC := clo_at HF.out HT.out hVx hVy hc
      have HL0 : Hid (ltF cF x y = decide (c < 0)) := by rw [hc]; rfl
      clear hc
      cases hl : decide (c < 0)
      all_goals
        refine wp_region_quiet_below (by kernel_rfl) (by kernel_rfl) ?_
        repeat (first
          | (refine wq_ixI _ rfl (.tmp 93) (.tmp 94) rfl g n cap m rfl rfl hmn ?_; simp only [Act.put, List.setIfInBounds_toArray, List.set_cons_zero, List.set_cons_succ])
          | (refine wq_one rfl 3 (.tmp 95) rfl g (0 + m * 1) (.int .i64 x) ag3 rfl HX.out (lt_heap HW.out) ?_; simp only [Act.put, List.setIfInBounds_toArray, List.set_cons_zero, List.set_cons_succ])
          | (refine wq_one rfl 3 (.tmp 99) rfl g (0 + h * 1) (.int .i64 y) ag3 rfl HY.out (lt_heap HW.out) ?_; simp only [Act.put, List.setIfInBounds_toArray, List.set_cons_zero, List.set_cons_succ])
          | (refine wq_ixI _ rfl (.tmp 97) (.tmp 98) rfl g n cap h rfl rfl hhn ?_; simp only [Act.put, List.setIfInBounds_toArray, List.set_cons_zero, List.set_cons_succ])
          | go_big_quiet_step (first | (with_reducible exact rg_callB HC.out _ _)))
        refine wpQuiet_nil ?_
        rintro _ ⟨⟨dq, osq⟩, rfl⟩
        have hbel := below_regrown wr dq osq
        have HW2 := Lib.hid (HW.out.turn (hbel.block _ (lt_heap HW.out)))
        have HT2 := Lib.hid (HT.out.trans (Turn.of_below hbel))
        clear hbel HW HT HX HY HC hVx hVy
        generalize Sort.grow (redrawn wr dq) osq = W2 at *
        go_wp2_with fail
        go_roundw
      case rel => exact ⟨h + 1, j, by go_num, rfl, by omega, by omega, hjb, Or.inr (by rw [show h + 1 - 1 = h from rfl, ← HXe.out, ← HYe.out, HL0.out]; exact hl), HJ, HW2, HT2⟩
      case measure => simp [intOf]; omega
      case rel => exact ⟨i, h, rfl, rfl, hai, hih, by omega, HI, Or.inr (by rw [← HXe.out, ← HYe.out, HL0.out]; exact hl), HW2, HT2⟩
      case measure => simp [intOf]; omega
    · obtain rfl : j = i := by omega
      go_wp2_with fail
      go_loopw [17] (fun vk wr2 => ∃ (t : Nat) (dk : Array Int), vk = .int .i64 ((m - t : Nat) : Int) ∧ j + t ≤ m ∧ Hid (dk.size = n) ∧ Hid (∀ x, dk[x]! = rotF (m - t) m (m + 1) d x) ∧ Hid (IRow wr2 g dk tail T) ∧ Hid (Turn [g] w wr2)) (fun vk _ => (intOf vk).toNat)
      case atStart => exact ⟨0, d, rfl, by omega, HN, rot_none m (m + 1) d, HW, HT⟩
      case round =>
        clear HW HT
        obtain ⟨t, dk, rfl, htj, HDn, HR, HWk, HTk⟩ := hrel
        obtain ⟨p, hp⟩ : ∃ p, p = m - t := ⟨_, rfl⟩
        rw [← hp]
        by_cases hlt2 : j < p
        · obtain ⟨k, rfl⟩ : ∃ k, p = k + 1 := ⟨p - 1, by omega⟩
          have hk0n : k < n := by omega
          have hk1n : k + 1 < n := by omega
          obtain ⟨x, hx⟩ : ∃ x, x = dk[k + 1]! := ⟨_, rfl⟩
          obtain ⟨y, hy⟩ : ∃ y, y = dk[k]! := ⟨_, rfl⟩
          have HXe := Lib.hid hx
          have HYe := Lib.hid hy
          clear hx hy
          go_upto_region 23 with fail
          refine wp_region_chain (fun j v => Turn [g] w v ∧ IRow v g (match j with | 0 => dk | 1 => dk.setIfInBounds (k + 1) y | _ => Sort.swp dk (k + 1) k) tail T)
            [some (113, .slice (some ⟨g, 0, none⟩) n cap), some (114, .int .i64 (((k + 1) : Nat) : Int)), some (115, .slice (some ⟨g, 0, none⟩) n cap), some (116, .int .i64 (((k + 1) : Nat) : Int)), some (117, .int .i64 (k : Int)), some (118, .slice (some ⟨g, 0, none⟩) n cap), some (119, .int .i64 (((k + 1) : Nat) : Int)), some (120, .int .i64 (k : Int)), some (121, .pointer (some ⟨g, 0 + k * 1, none⟩)), some (122, .int .i64 y), some (123, .slice (some ⟨g, 0, none⟩) n cap), some (124, .int .i64 (((k + 1) : Nat) : Int)), some (125, .pointer (some ⟨g, 0 + (k + 1) * 1, none⟩)), some (126, .int .i64 x), some (127, .pointer (some ⟨g, 0 + (k + 1) * 1, none⟩)), none, some (128, .pointer (some ⟨g, 0 + k * 1, none⟩)), none] [15, 17]
            (by kernel_rfl) (by kernel_rfl) rfl (by simp) (by simp) (by decide) (by decide) (fun r hr => by have h2 : r + 1 < 2 := hr; obtain rfl : r = 0 := (by omega); show _ = true; kernel_rfl) ⟨HTk.out.trans (Turn.drew _ _), HWk.out⟩ ?_ ?_ ?_
          · intro i hi hE a2 v j hfr hdep hC hkk K hK
            have hi18 : i < 18 := hi
            obtain rfl | rfl | rfl | rfl | rfl | rfl | rfl | rfl | rfl | rfl | rfl | rfl | rfl | rfl | rfl | rfl | rfl | rfl : i = 0 ∨ i = 1 ∨ i = 2 ∨ i = 3 ∨ i = 4 ∨ i = 5 ∨ i = 6 ∨ i = 7 ∨ i = 8 ∨ i = 9 ∨ i = 10 ∨ i = 11 ∨ i = 12 ∨ i = 13 ∨ i = 14 ∨ i = 15 ∨ i = 16 ∨ i = 17 := by omega
            · exact wpOp_mv rfl rfl (.tmp 0) rfl _ (hfr.off 0 (by simp)) hK
            · exact wpOp_mv rfl rfl (.tmp 17) rfl _ (hfr.off 17 (by simp)) hK
            · exact wpOp_mv rfl rfl (.tmp 0) rfl _ (hfr.off 0 (by simp)) hK
            · exact wpOp_mv rfl rfl (.tmp 17) rfl _ (hfr.off 17 (by simp)) hK
            · exact wpOp_val rfl rfl (exec_dec (.tmp 116) rfl k (by omega) (hdep 3 (by kernel_rfl) 116 _ rfl)) hK
            · exact wpOp_mv rfl rfl (.tmp 0) rfl _ (hfr.off 0 (by simp)) hK
            · exact wpOp_mv rfl rfl (.tmp 17) rfl _ (hfr.off 17 (by simp)) hK
            · exact wpOp_val rfl rfl (exec_dec (.tmp 119) rfl k (by omega) (hdep 6 (by kernel_rfl) 119 _ rfl)) hK
            · exact wpOp_ix rfl rfl 26 3 (.tmp 118) (.tmp 120) rfl Try.underlying26 1 siz3 g 0 n cap k (hdep 5 (by kernel_rfl) 118 _ rfl) (hdep 7 (by kernel_rfl) 120 _ rfl) hk0n hK
            · have hk0 : j = 0 := by
                cases j with
                | zero => rfl
                | succ j => have := hkk 0 (by simp) (by omega); exact absurd this (by decide +kernel)
              subst hk0
              exact wpOp_val rfl rfl (exec_ld1 3 ag3 (.tmp 121) rfl g (0 + k * 1) (.int .i64 y) (hdep 8 (by kernel_rfl) 121 _ rfl) (by rw [HYe.out]; exact hC.2.cell _ (by show k < dk.size; rw [HDn.out]; exact hk0n))) hK
            · exact wpOp_mv rfl rfl (.tmp 0) rfl _ (hfr.off 0 (by simp)) hK
            · exact wpOp_mv rfl rfl (.tmp 17) rfl _ (hfr.off 17 (by simp)) hK
            · exact wpOp_ix rfl rfl 26 3 (.tmp 123) (.tmp 124) rfl Try.underlying26 1 siz3 g 0 n cap (k + 1) (hdep 10 (by kernel_rfl) 123 _ rfl) (hdep 11 (by kernel_rfl) 124 _ rfl) hk1n hK
            · have hk0 : j = 0 := by
                cases j with
                | zero => rfl
                | succ j => have := hkk 0 (by simp) (by omega); exact absurd this (by decide +kernel)
              subst hk0
              exact wpOp_val rfl rfl (exec_ld1 3 ag3 (.tmp 125) rfl g (0 + (k + 1) * 1) (.int .i64 x) (hdep 12 (by kernel_rfl) 125 _ rfl) (by rw [HXe.out]; exact hC.2.cell _ (by show (k + 1) < dk.size; rw [HDn.out]; exact hk1n))) hK
            · exact wpOp_ix rfl rfl 26 3 (.tmp 113) (.tmp 114) rfl Try.underlying26 1 siz3 g 0 n cap (k + 1) (hdep 0 (by kernel_rfl) 113 _ rfl) (hdep 1 (by kernel_rfl) 114 _ rfl) hk1n hK
            · exact absurd (by simp) hE
            · exact wpOp_ix rfl rfl 26 3 (.tmp 115) (.tmp 117) rfl Try.underlying26 1 siz3 g 0 n cap k (hdep 2 (by kernel_rfl) 115 _ rfl) (hdep 4 (by kernel_rfl) 117 _ rfl) hk0n hK
            · exact absurd (by simp) hE
          · intro r hr a2 v hfr hdep hC K hK
            have hr2 : r < 2 := hr
            obtain rfl | rfl : r = 0 ∨ r = 1 := by omega
            · exact wpOp_wI rfl rfl (.tmp 127) (.tmp 122) rfl g (k + 1) dk tail T y (by rw [HDn.out]; exact hk1n) (hdep 14 (by kernel_rfl) 127 _ rfl) (hdep 9 (by kernel_rfl) 122 _ rfl) hC.2 (fun v2 h2 h3 => hK v2 ⟨hC.1.trans h3, h2⟩)
            · exact wpOp_wI rfl rfl (.tmp 128) (.tmp 126) rfl g k (dk.setIfInBounds (k + 1) y) tail T x (by rw [Array.size_setIfInBounds, HDn.out]; exact hk0n) (hdep 16 (by kernel_rfl) 128 _ rfl) (hdep 13 (by kernel_rfl) 126 _ rfl) hC.2 (fun v2 h2 h3 => hK v2 ⟨hC.1.trans h3, by rw [HXe.out, HYe.out] at h2; exact h2⟩)
          · intro v hC
            have HW3 := Lib.hid hC.2
            have HT3 := Lib.hid hC.1
            clear hC
            simp only [puts, List.filterMap_cons, List.filterMap_nil, _root_.id, List.setIfInBounds_toArray, List.set_cons_zero, List.set_cons_succ]
            go_wp2_with fail
            go_roundw
            case rel => exact ⟨t + 1, Sort.swp dk (k + 1) k, by rw [show m - (t + 1) = k by omega]; go_num, by omega, by rw [size_swp]; exact HDn.out, (by have := bub_down (by rw [HDn.out, HN.out]) (show t < m by omega) (by rw [HN.out]; omega) HR.out; rw [← hp] at this; exact this), HW3, HT3⟩
            case measure => simp [intOf]; omega
        · go_wp2_with fail
          refine bodyPost_ret (results_none rfl _ _ _) rfl ?_
          have ej : m - t = j := by omega
          have hr : ∀ x, dk[x]! = rotF j m (m + 1) d x := by rw [← ej]; exact HR.out
          have hlq : ∀ q, a ≤ q → q < m → lt2 (ltF cF) d[m]! d[q]! = ltF cF d[m]! d[q]! := fun q h1 h2 => lt2_late (HL.out q h1 h2)
          have hS2 := lt2_swo HS.out
          refine ⟨rfl, dk, ⟨permIn_mono _ _ j (m + 1) a (m + 1) hai (Nat.le_refl _) (by rw [HN.out]; exact hb) (rot_perm hjb (by omega) (by rw [HN.out]; omega) (by rw [HDn.out, HN.out]) hr), down_sorted hS2 HS1.out hai hjb (fun q h1 h2 => ?_) (fun q h1 h2 => ?_) hr⟩, HWk.out, HTk.out⟩
          · rcases HI.out with h3 | h3
            · omega
            · rw [← hlq _ (by omega) (by omega)] at h3
              by_cases e : q = j - 1
              · rw [e]; exact h3
              · exact hS2.ntrans _ _ _ h3 (HS1.out q (j - 1) h1 (by omega) (by omega))
          · rcases HJ.out with h3 | h3
            · omega
            · rw [← hlq _ (by omega) (by omega)] at h3
              by_cases e : q = j
              · rw [e]; exact h3
              · cases h5 : lt2 (ltF cF) d[m]! d[q]! with
                | true => rfl
                | false =>
                  have h6 := hS2.ntrans _ _ _ h5 (HS1.out j q hai (by omega) h2)
                  rw [h3] at h6
                  cases h6
end Go.Proofs.Ythimpgnagjgmdaa
