/- The merge in place of two runs of ints: the first of one place. -/
import Derived.Test.YthimpgnagjgmdaaH16
namespace Go.Proofs.Ythimpgnagjgmdaa
open Go.RowKit Go.Sort

theorem rot_perm {s m e : Nat} {d d2 : Array Int} (hsm : s ≤ m) (hme : m ≤ e) (he : e ≤ d.size) (hs : d2.size = d.size) (hr : ∀ k, d2[k]! = rotF s m e d k) : PermIn s e d d2 := by
  refine ⟨hs, fun i hi => by rw [hr, rotF, if_neg (by omega), if_neg (by omega)], ?_⟩
  have e1 : (d2.extract s e).toList = (d.extract m e).toList ++ (d.extract s m).toList := by
    rw [← Array.toList_append]
    congr 1
    apply Array.ext
    · simp; omega
    · intro i h1 h2
      have hi : i < e - s := by simp at h1; omega
      rw [Array.getElem_extract, Array.getElem_append]
      have h3 := hr (s + i)
      rw [getElem!_pos d2 (s + i) (by omega)] at h3
      rw [h3]
      unfold rotF
      by_cases c : i < e - m
      · have c1 : s ≤ s + i ∧ s + i < s + (e - m) := by omega
        rw [if_pos c1, dif_pos (by simp; omega), Array.getElem_extract, getElem!_pos d _ (by omega)]
        congr 1; omega
      · have c1 : ¬ (s ≤ s + i ∧ s + i < s + (e - m)) := by omega
        have c2 : s + (e - m) ≤ s + i ∧ s + i < e := by omega
        rw [if_neg c1, if_pos c2, dif_neg (by simp; omega), Array.getElem_extract, getElem!_pos d _ (by omega)]
        congr 1; simp; omega
  have e2 : (d.extract s e).toList = (d.extract s m).toList ++ (d.extract m e).toList := by
    rw [← Array.toList_append]
    congr 1
    rw [Array.extract_append_extract]
    congr 1 <;> omega
  rw [e1, e2]
  exact List.perm_append_comm
theorem clo_at {bx g : Nat} {cF : Int → Int → Int} {V : Int → Prop} {w wr : World} (hF : CloF bx g cF V w) (hT : Turn [g] w wr) {x y c : Int} (hx : V x) (hy : V y) (hc : c = cF x y) :
    Hid (∀ W, RowKit.Below wr.heap.size wr W → Calls Try.prog 22 #[.int .i64 x, .int .i64 y, .pointer (some ⟨bx, 0, none⟩)] W fun e w' => e = .returned (.int .i64 c) ∧ RowKit.Below W.heap.size W w') := fun W hW => by
  have := hF W x y (hT.trans (Turn.of_below hW)) hx hy
  rwa [← hc] at this
set_option maxRecDepth 100000 in
set_option maxHeartbeats 8000000 in
theorem sym1_any (bx g cap n a b : Nat) (cF : Int → Int → Int) (V : Int → Prop) (d : Array Int) (tail : List Value) (T : TypeId) (w : World) (hF : CloF bx g cF V w) (hV : ∀ i, i < n → V d[i]!) (hd : IRow w g d tail T) (hn : d.size = n) (hab : a + 1 < b) (hb : b ≤ n) (hsz : n ≤ 1000000) (hS : SWO (ltF cF))
    (hlate : ∀ q, a + 1 ≤ q → q < b → d[a]! < d[q]!) (hs2 : SortedIn (lt2 (ltF cF)) (a + 1) b d) :
    Calls Try.prog 37 #[.slice (some ⟨g, 0, none⟩) n cap, .int .i64 a, .int .i64 ((a + 1 : Nat) : Int), .int .i64 b, .func (.func 22) #[] #[.pointer (some ⟨bx, 0, none⟩)]] w fun e w' =>
      e = .returned (.tuple #[]) ∧ ∃ d', (PermIn a b d d' ∧ SortedIn (lt2 (ltF cF)) a b d') ∧ IRow w' g d' tail T ∧ Turn [g] w w' := by
  have HD := Lib.hid hd
  have HN := Lib.hid hn
  have HF := Lib.hid hF
  have HV := Lib.hid hV
  have HL := Lib.hid hlate
  have HS2 := Lib.hid hs2
  have HS := Lib.hid hS
  clear hd hn hF hV hlate hs2 hS
  go_enter Try.func37, Try.ntmps37
  go_wp2_with fail
  go_loopw [10, 11, 12] (fun vi vj vh wr => ∃ (i j : Nat), vi = .int .i64 i ∧ vj = .int .i64 j ∧ a + 1 ≤ i ∧ i ≤ j ∧ j ≤ b ∧ Hid (i = a + 1 ∨ ltF cF d[i - 1]! d[a]! = true) ∧ Hid (j = b ∨ ltF cF d[j]! d[a]! = false) ∧ Hid (IRow wr g d tail T) ∧ Hid (Turn [g] w wr)) (fun vi vj _ _ => (intOf vj).toNat - (intOf vi).toNat)
  case atStart => exact ⟨a + 1, b, by go_num, rfl, by omega, by omega, by omega, Or.inl rfl, Or.inl rfl, HD, Turn.refl _ _⟩
  case round =>
    obtain ⟨i, j, rfl, rfl, hai, hij, hjb, HI, HJ, HW, HT⟩ := hrel
    by_cases hlt : i < j
    · go_upto_region 5 with fail
      obtain ⟨h, hh⟩ : ∃ h : Nat, h = (i + j) / 2 := ⟨_, rfl⟩
      have he : ((i : Int) + (j : Int)) / 2 = (h : Int) := by omega
      rw [he]
      have hih : i ≤ h := by omega
      have hhj : h < j := by omega
      have hhn : h < n := by omega
      clear he hh
      have han : a < n := by omega
      have HX : Hid (wr.cell? ⟨g, 0 + h * 1, none⟩ = some (.int .i64 d[h]!)) := HW.out.cell h (by rw [HN.out]; exact hhn)
      have HY : Hid (wr.cell? ⟨g, 0 + a * 1, none⟩ = some (.int .i64 d[a]!)) := HW.out.cell a (by rw [HN.out]; exact han)
      have hVx := HV.out h hhn
      have hVy := HV.out a han
      obtain ⟨x, hx⟩ : ∃ x, x = d[h]! := ⟨_, rfl⟩
      obtain ⟨y, hy⟩ : ∃ y, y = d[a]! := ⟨_, rfl⟩
      rw [← hx] at HX hVx
      rw [← hy] at HY hVy
      have HXe := Lib.hid hx
      have HYe := Lib.hid hy
      clear hx hy
      obtain ⟨c, hc⟩ : ∃ c, c = cF x y := ⟨_, rfl⟩
      have HC := clo_at HF.out HT.out hVx hVy hc
      have HL0 : Hid (ltF cF x y = decide (c < 0)) := by rw [hc]; rfl
      clear hc
      cases hl : decide (c < 0)
      all_goals
        refine wp_region_quiet_below (by kernel_rfl) (by kernel_rfl) ?_
        repeat (first
          | (refine wq_ixI _ rfl (.tmp 41) (.tmp 42) rfl g n cap h rfl rfl hhn ?_; simp only [Act.put, List.setIfInBounds_toArray, List.set_cons_zero, List.set_cons_succ])
          | (refine wq_one rfl 3 (.tmp 43) rfl g (0 + h * 1) (.int .i64 x) ag3 rfl HX.out (lt_heap HW.out) ?_; simp only [Act.put, List.setIfInBounds_toArray, List.set_cons_zero, List.set_cons_succ])
          | (refine wq_one rfl 3 (.tmp 47) rfl g (0 + a * 1) (.int .i64 y) ag3 rfl HY.out (lt_heap HW.out) ?_; simp only [Act.put, List.setIfInBounds_toArray, List.set_cons_zero, List.set_cons_succ])
          | (refine wq_ixI _ rfl (.tmp 45) (.tmp 46) rfl g n cap a rfl rfl han ?_; simp only [Act.put, List.setIfInBounds_toArray, List.set_cons_zero, List.set_cons_succ])
          | go_big_quiet_step (first | (with_reducible exact rg_callB HC.out _ _)))
        refine wpQuiet_nil ?_
        rintro _ ⟨⟨dq, osq⟩, rfl⟩
        have hbel := below_regrown wr dq osq
        have HW2 := Lib.hid (HW.out.turn (hbel.block _ (lt_heap HW.out)))
        have HT2 := Lib.hid (HT.out.trans (Turn.of_below hbel))
        clear hbel HW HT HX HY HC hVx hVy
        generalize Sort.grow (redrawn wr dq) osq = W2 at *
        go_wp2_with fail
        go_roundw
      case rel => exact ⟨i, h, rfl, rfl, hai, hih, by omega, HI, Or.inr (by rw [← HXe.out, ← HYe.out, HL0.out]; exact hl), HW2, HT2⟩
      case measure => simp [intOf]; omega
      case rel => exact ⟨h + 1, j, by go_num, rfl, by omega, by omega, hjb, Or.inr (by rw [show h + 1 - 1 = h from rfl, ← HXe.out, ← HYe.out, HL0.out]; exact hl), HJ, HW2, HT2⟩
      case measure => simp [intOf]; omega
    · obtain rfl : j = i := by omega
      go_wp2_with fail
      go_loopw [13] (fun vk wr2 => ∃ (t : Nat) (dk : Array Int), vk = .int .i64 ((a + t : Nat) : Int) ∧ a + 1 + t ≤ j ∧ Hid (dk.size = n) ∧ Hid (∀ x, dk[x]! = rotF a (a + 1) (a + 1 + t) d x) ∧ Hid (IRow wr2 g dk tail T) ∧ Hid (Turn [g] w wr2)) (fun vk _ => j - (intOf vk).toNat)
      case atStart => exact ⟨0, d, rfl, by omega, HN, rot_nil a (a + 1) d (by omega), HW, HT⟩
      case round =>
        clear HW HT
        obtain ⟨t, dk, rfl, htj, HDn, HR, HWk, HTk⟩ := hrel
        obtain ⟨k, hk⟩ : ∃ k, k = a + t := ⟨_, rfl⟩
        rw [← hk]
        by_cases hlt2 : k + 1 < j
        · have hcd : decide ((k : Int) < (j : Int) - 1) = true := decide_eq_true (by omega)
          have hk0n : k < n := by omega
          have hk1n : k + 1 < n := by omega
          obtain ⟨x, hx⟩ : ∃ x, x = dk[k]! := ⟨_, rfl⟩
          obtain ⟨y, hy⟩ : ∃ y, y = dk[k + 1]! := ⟨_, rfl⟩
          have HXe := Lib.hid hx
          have HYe := Lib.hid hy
          clear hx hy
          go_upto_region 11 with fail
          refine wp_region_chain (fun j v => Turn [g] w v ∧ IRow v g (match j with | 0 => dk | 1 => dk.setIfInBounds k y | _ => Sort.swp dk k (k + 1)) tail T)
            [some (61, .slice (some ⟨g, 0, none⟩) n cap), some (62, .int .i64 (k : Int)), some (63, .slice (some ⟨g, 0, none⟩) n cap), some (64, .int .i64 (k : Int)), some (65, .int .i64 ((k + 1 : Nat) : Int)), some (66, .slice (some ⟨g, 0, none⟩) n cap), some (67, .int .i64 (k : Int)), some (68, .int .i64 ((k + 1 : Nat) : Int)), some (69, .pointer (some ⟨g, 0 + (k + 1) * 1, none⟩)), some (70, .int .i64 y), some (71, .slice (some ⟨g, 0, none⟩) n cap), some (72, .int .i64 (k : Int)), some (73, .pointer (some ⟨g, 0 + k * 1, none⟩)), some (74, .int .i64 x), some (75, .pointer (some ⟨g, 0 + k * 1, none⟩)), none, some (76, .pointer (some ⟨g, 0 + (k + 1) * 1, none⟩)), none] [15, 17]
            (by kernel_rfl) (by kernel_rfl) rfl (by simp) (by simp) (by decide) (by decide) (fun r hr => by have h2 : r + 1 < 2 := hr; obtain rfl : r = 0 := (by omega); show _ = true; kernel_rfl) ⟨HTk.out.trans (Turn.drew _ _), HWk.out⟩ ?_ ?_ ?_
          · intro i hi hE a2 v j hfr hdep hC hkk K hK
            have hi18 : i < 18 := hi
            obtain rfl | rfl | rfl | rfl | rfl | rfl | rfl | rfl | rfl | rfl | rfl | rfl | rfl | rfl | rfl | rfl | rfl | rfl : i = 0 ∨ i = 1 ∨ i = 2 ∨ i = 3 ∨ i = 4 ∨ i = 5 ∨ i = 6 ∨ i = 7 ∨ i = 8 ∨ i = 9 ∨ i = 10 ∨ i = 11 ∨ i = 12 ∨ i = 13 ∨ i = 14 ∨ i = 15 ∨ i = 16 ∨ i = 17 := by omega
            · exact wpOp_mv rfl rfl (.tmp 0) rfl _ (hfr.off 0 (by simp)) hK
            · exact wpOp_mv rfl rfl (.tmp 13) rfl _ (hfr.off 13 (by simp)) hK
            · exact wpOp_mv rfl rfl (.tmp 0) rfl _ (hfr.off 0 (by simp)) hK
            · exact wpOp_mv rfl rfl (.tmp 13) rfl _ (hfr.off 13 (by simp)) hK
            · exact wpOp_val rfl rfl (exec_addI (.tmp 64) (.const (.int .i64 1)) rfl k 1 (by omega) (hdep 3 (by kernel_rfl) 64 _ rfl) rfl) hK
            · exact wpOp_mv rfl rfl (.tmp 0) rfl _ (hfr.off 0 (by simp)) hK
            · exact wpOp_mv rfl rfl (.tmp 13) rfl _ (hfr.off 13 (by simp)) hK
            · exact wpOp_val rfl rfl (exec_addI (.tmp 67) (.const (.int .i64 1)) rfl k 1 (by omega) (hdep 6 (by kernel_rfl) 67 _ rfl) rfl) hK
            · exact wpOp_ix rfl rfl 26 3 (.tmp 66) (.tmp 68) rfl Try.underlying26 1 siz3 g 0 n cap (k + 1) (hdep 5 (by kernel_rfl) 66 _ rfl) (hdep 7 (by kernel_rfl) 68 _ rfl) hk1n hK
            · have hk0 : j = 0 := by
                cases j with
                | zero => rfl
                | succ j => have := hkk 0 (by simp) (by omega); exact absurd this (by decide +kernel)
              subst hk0
              exact wpOp_val rfl rfl (exec_ld1 3 ag3 (.tmp 69) rfl g (0 + (k + 1) * 1) (.int .i64 y) (hdep 8 (by kernel_rfl) 69 _ rfl) (by rw [HYe.out]; exact hC.2.cell _ (by show (k + 1) < dk.size; rw [HDn.out]; exact hk1n))) hK
            · exact wpOp_mv rfl rfl (.tmp 0) rfl _ (hfr.off 0 (by simp)) hK
            · exact wpOp_mv rfl rfl (.tmp 13) rfl _ (hfr.off 13 (by simp)) hK
            · exact wpOp_ix rfl rfl 26 3 (.tmp 71) (.tmp 72) rfl Try.underlying26 1 siz3 g 0 n cap k (hdep 10 (by kernel_rfl) 71 _ rfl) (hdep 11 (by kernel_rfl) 72 _ rfl) hk0n hK
            · have hk0 : j = 0 := by
                cases j with
                | zero => rfl
                | succ j => have := hkk 0 (by simp) (by omega); exact absurd this (by decide +kernel)
              subst hk0
              exact wpOp_val rfl rfl (exec_ld1 3 ag3 (.tmp 73) rfl g (0 + k * 1) (.int .i64 x) (hdep 12 (by kernel_rfl) 73 _ rfl) (by rw [HXe.out]; exact hC.2.cell _ (by show k < dk.size; rw [HDn.out]; exact hk0n))) hK
            · exact wpOp_ix rfl rfl 26 3 (.tmp 61) (.tmp 62) rfl Try.underlying26 1 siz3 g 0 n cap k (hdep 0 (by kernel_rfl) 61 _ rfl) (hdep 1 (by kernel_rfl) 62 _ rfl) hk0n hK
            · exact absurd (by simp) hE
            · exact wpOp_ix rfl rfl 26 3 (.tmp 63) (.tmp 65) rfl Try.underlying26 1 siz3 g 0 n cap (k + 1) (hdep 2 (by kernel_rfl) 63 _ rfl) (hdep 4 (by kernel_rfl) 65 _ rfl) hk1n hK
            · exact absurd (by simp) hE
          · intro r hr a2 v hfr hdep hC K hK
            have hr2 : r < 2 := hr
            obtain rfl | rfl : r = 0 ∨ r = 1 := by omega
            · exact wpOp_wI rfl rfl (.tmp 75) (.tmp 70) rfl g k dk tail T y (by rw [HDn.out]; exact hk0n) (hdep 14 (by kernel_rfl) 75 _ rfl) (hdep 9 (by kernel_rfl) 70 _ rfl) hC.2 (fun v2 h2 h3 => hK v2 ⟨hC.1.trans h3, h2⟩)
            · exact wpOp_wI rfl rfl (.tmp 76) (.tmp 74) rfl g (k + 1) (dk.setIfInBounds k y) tail T x (by rw [Array.size_setIfInBounds, HDn.out]; exact hk1n) (hdep 16 (by kernel_rfl) 76 _ rfl) (hdep 13 (by kernel_rfl) 74 _ rfl) hC.2 (fun v2 h2 h3 => hK v2 ⟨hC.1.trans h3, by rw [HXe.out, HYe.out] at h2; exact h2⟩)
          · intro v hC
            have HW3 := Lib.hid hC.2
            have HT3 := Lib.hid hC.1
            clear hC
            simp only [puts, List.filterMap_cons, List.filterMap_nil, _root_.id, List.setIfInBounds_toArray, List.set_cons_zero, List.set_cons_succ]
            go_wp2_with fail
            go_roundw
            case rel => exact ⟨t + 1, Sort.swp dk k (k + 1), by rw [show a + (t + 1) = k + 1 by omega]; go_num, by omega, by rw [size_swp]; exact HDn.out, by rw [hk]; exact bub_up (by rw [HDn.out, HN.out]) (by rw [HN.out]; omega) HR.out, HW3, HT3⟩
            case measure => simp [intOf]; omega
        · have hcd : decide ((k : Int) < (j : Int) - 1) = false := decide_eq_false (by omega)
          go_wp2_with fail
          refine bodyPost_ret (results_none rfl _ _ _) rfl ?_
          have ej : a + 1 + t = j := by omega
          have hr : ∀ x, dk[x]! = rotF a (a + 1) j d x := by rw [← ej]; exact HR.out
          have hlq : ∀ q, a + 1 ≤ q → q < b → lt2 (ltF cF) d[q]! d[a]! = ltF cF d[q]! d[a]! := fun q h1 h2 => lt2_late (HL.out q h1 h2)
          have hS2 := lt2_swo HS.out
          refine ⟨rfl, dk, ⟨permIn_mono _ _ a j a b (Nat.le_refl _) hjb (by rw [HN.out]; exact hb) (rot_perm (by omega) (by omega) (by rw [HN.out]; omega) (by rw [HDn.out, HN.out]) hr), up_sorted hS2 HS2.out (by omega) hjb (fun q h1 h2 => ?_) (fun h1 => ?_) hr⟩, HWk.out, HTk.out⟩
          · rcases HI.out with h3 | h3
            · omega
            · by_cases e : q = j - 1
              · rw [e, hlq _ (by omega) (by omega)]; exact h3
              · have h4 := HS2.out q (j - 1) h1 (by omega) (by omega)
                cases h5 : lt2 (ltF cF) d[q]! d[a]! with
                | true => rfl
                | false =>
                  have h6 := hS2.ntrans _ _ _ h4 h5
                  rw [hlq _ (by omega) (by omega), h3] at h6
                  cases h6
          · rcases HJ.out with h3 | h3
            · omega
            · rw [hlq _ (by omega) h1]; exact h3
end Go.Proofs.Ythimpgnagjgmdaa
