/- The document's Times: the walk. -/
import Derived.Test.YtmdhlpnieimdaaaZI
namespace Go.Proofs.Ytmdhlpnieimdaaa
open Go.RowKit

set_option maxRecDepth 100000 in
set_option maxHeartbeats 8000000 in
theorem refTimes_any (u : Nat) (ts : List Nat) (w : World) (hl : ts.length = 64) :
    Calls Try.prog 22 #[.agg (dC u ts)] w (TimP (dT u ts 64) w) := by
  have HD0 : Hid (DT (w.alloc (.cells (dC u ts) 43)) w.heap.size u ts) := heap_alloc_new _ _
  have HB0 : Hid (Below w.heap.size w (w.alloc (.cells (dC u ts) 43))) := below_alloc1 _ _
  have HO0 : Hid (OwnE uE 23 1 (w.alloc (.cells (dC u ts) 43)) (w.heap.size + 1) (.slice none 0 0) []) := OwnE.nil _ _
  go_enter Try.func22, Try.ntmps22
  go_wp2_with fail
  generalize w.alloc (.cells (dC u ts) 43) = W0 at *
  go_loopw [3, 4] (fun vo vi wr => ∃ (j : Nat) (l : List Nat), j ≤ 64 ∧ l.length ≤ j ∧ vi = .int .i64 j ∧ Hid (l = dT u ts j) ∧ Hid (Below w.heap.size w wr) ∧ Hid (DT wr w.heap.size u ts) ∧ Hid (OwnE uE 23 1 wr (w.heap.size + 1) vo l)) (fun _ vi _ => 64 - (intOf vi).toNat)
  case atStart => exact ⟨0, [], Nat.zero_le _, Nat.le_refl _, rfl, Lib.hid rfl, HB0.out, HD0.out, HO0.out⟩
  case round =>
    obtain ⟨j, l, hj, hlj, rfl, HL, HB, HD, HO⟩ := hrel
    clear HD0 HB0 HO0
    obtain ⟨q, c, rfl, hlc, hcm, hat⟩ := HO.out.at uE_len
    unfold maxLen at hcm
    have hqc : q = none → c = 0 := HO.out.none_cap
    obtain ⟨n, hnl⟩ : ∃ n, l.length = n := ⟨_, rfl⟩
    by_cases hj64 : j < 64
    · have hjI : (j : Int) < 64 := by omega
      have hci := HD.out.is hj64
      have hca := HD.out.at_ hl hj64
      obtain ⟨x, hxj⟩ : ∃ x, ts.getD j 0 = x := ⟨_, rfl⟩
      rw [hxj] at hca
      cases hb : u.testBit j with
      | false =>
        rw [hb] at hci
        have HLn : Hid (l = dT u ts (j + 1)) := by show _ = _; rw [dT, hb]; exact HL.out
        clear hb hat hca
        rw [hnl] at HO
        go_wp2_with fail
        go_roundw
        case rel => exact ⟨j + 1, l, by omega, by omega, by go_num, HLn.out, HB.out, HD.out, by rw [hnl]; exact HO.out⟩
        case measure => simp [intOf]; omega
      | true =>
        rw [hb] at hci
        have HNX : Hid (dT u ts (j + 1) = insU x l) := by show _ = _; rw [dT, hb, if_pos rfl, hxj, HL.out]
        have HAT := Lib.hid hat.1
        have hBl : w.heap.size < wr.heap.size := lt_heap HD.out
        clear hb hat HL
        rw [hnl]
        go_wp2_with fail
        generalize wr = W2 at *
        go_loopw [5] (fun vm wz => ∃ m : Nat, m ≤ n ∧ vm = .int .i64 m ∧ Hid (Below W2.heap.size W2 wz) ∧ Hid (∀ i (h : i < l.length), i < m → l[i] < x)) (fun vm _ => n - (intOf vm).toNat)
        case atStart => exact ⟨0, Nat.zero_le _, rfl, Below.refl _ _, fun i _ h => absurd h (by omega)⟩
        case round =>
          obtain ⟨m, hm, rfl, HBz, HLT⟩ := hrel
          have HDz := Lib.hid (HD.out.below hBl HBz.out)
          have hcz := HDz.out.at_ hl hj64
          rw [hxj] at hcz
          by_cases hmn : m < n
          · have hmnI : (m : Int) < (n : Int) := by omega
            obtain ⟨y, hy⟩ : ∃ y, l[m]'(by omega) = y := ⟨_, rfl⟩
            obtain ⟨gb, go, rfl, hgb, hcy0⟩ := slat_cell HAT.out m (by omega)
            have hcy := (cell_of (HBz.out.block gb hgb) (go + m)).trans hcy0
            rw [hy] at hcy
            have HCY : Hid (W2.cell? ⟨gb, go + m, none⟩ = some (.int .u64 (y : Int))) := (cell_of (HBz.out.block gb hgb) (go + m)).symm.trans hcy
            have HY := Lib.hid hy
            clear hy
            by_cases hyx : y < x
            · have hd : decide ((y : Int) < (x : Int)) = true := by simpa using hyx
              go_wp2_with fail
              go_quiet (fail)
              have HBq : Hid (Below W2.heap.size W2 (wr.drewN nq)) := HBz.out.trans ((below_drewN wr nq).mono HBz.out.size)
              clear HBz 
              generalize wr.drewN nq = Wq at *
              go_wp2_with fail
              go_roundw
              case rel => exact ⟨m + 1, by omega, by go_num, HBq.out, fun i hi him => by
                rcases Nat.lt_succ_iff_lt_or_eq.1 him with h | h
                · exact HLT.out i hi h
                · subst h; rw [HY.out]; exact hyx⟩
              case measure => simp [intOf]; omega
            · have hd : decide ((y : Int) < (x : Int)) = false := by simpa using hyx
              go_wp2_with fail
              go_quiet (fail)
              have HBq : Hid (Below W2.heap.size W2 (wr.drewN nq)) := HBz.out.trans ((below_drewN wr nq).mono HBz.out.size)
              clear HBz hd
              generalize wr.drewN nq = Wq at *
              have hne : ((m : Int) == (n : Int)) = false := by simp; omega
              have hcy2 := (cell_of (HBq.out.block gb (by have := hgb; omega)) (go + m)).trans HCY.out
              have hcz2 := (HD.out.below hBl HBq.out).at_ hl hj64
              rw [hxj] at hcz2
              by_cases hyx2 : y = x
              · have HS : Hid (insU x l = l) := insU_has x l m (by omega) HLT.out (by rw [HY.out, hyx2])
                have hq : ((y : Int) == (x : Int)) = true := by simp [hyx2]
                go_wp2_with fail
                go_quiet (fail)
                have HBw : Hid (Below W2.heap.size W2 (Wq.drewN nq)) := HBq.out.trans ((below_drewN Wq nq).mono HBq.out.size)
                have HBx : Hid (Below w.heap.size w (Wq.drewN nq)) := HB.out.trans (HBw.out.mono HB.out.size)
                clear HBq HLT
                generalize Wq.drewN nq = Wx at *
                have HDx : Hid (DT Wx w.heap.size u ts) := HD.out.below hBl HBw.out
                have HOx : Hid (OwnE uE 23 1 Wx (w.heap.size + 1) (.slice (some ⟨gb, go, none⟩) l.length c) l) := HO.out.below HBw.out
                clear HD HO HB HAT hci hca
                rw [hnl] at HOx
                go_wp2_with fail
                go_roundw
                case rel => exact ⟨j + 1, l, by omega, by omega, by go_num, (HNX.out.trans HS.out).symm, HBx.out, HDx.out, HOx.out⟩
                case measure => simp [intOf]; omega
              · have HIN : Hid (insU x l = l.take m ++ [x] ++ l.drop m) := insU_at x l m (by omega) HLT.out (fun h => by rw [HY.out]; omega)
                have hq : ((y : Int) == (x : Int)) = false := by simp; omega
                go_wp2_with fail
                go_quiet (fail)
                have HBw : Hid (Below W2.heap.size W2 (Wq.drewN nq)) := HBq.out.trans ((below_drewN Wq nq).mono HBq.out.size)
                have HBx : Hid (Below w.heap.size w (Wq.drewN nq)) := HB.out.trans (HBw.out.mono HB.out.size)
                clear HBq HLT
                generalize Wq.drewN nq = Wx at *
                have hDx : DT Wx w.heap.size u ts := HD.out.below hBl HBw.out
                have HRx : Hid (SlAt uE 1 Wx (some ⟨gb, go, none⟩) l) := HAT.out.below HBw.out
                have hBx : w.heap.size < Wx.heap.size := Nat.lt_of_lt_of_le hBl HBw.out.size
                have hmc : m ≤ c := by omega
                have hmnn : m ≤ n := by omega
                clear HD HO HB HAT HBw hci hca
                go_upto_region 10 with fail
                refine wp_region_held_drew (S := fun w' => DT w' w.heap.size u ts) (by kernel_rfl) (hDx.below hBx (below_drew Wx)) (fun hS0 => ?_)
                show wpAnyH Try.prog Region.Mode.any _ _ _ 16 #[false, false, false, false, false, false, false, false, false, false, false, false, false, false, false, false] _ _
                have HRd : Hid (SlAt uE 1 Wx.drew (some ⟨gb, go, none⟩) l) := (HRx.out).below (below_drew Wx)
                have HBd : Hid (Below w.heap.size w Wx.drew) := HBx.out.trans ((below_drew Wx).mono HBx.out.size)
                have hBd : w.heap.size < Wx.drew.heap.size := hBx
                have hSb : ∀ w', Below Wx.drew.heap.size Wx.drew w' → DT w' w.heap.size u ts := fun w' h => hS0.below hBd h
                clear HRx hDx HBx hBx
                generalize Wx.drew = Wd at *
                refine takeD (i := 1) (v := .slice (some ⟨gb, go, none⟩) n c) 48 rfl rfl (by kernel_rfl) (by kernel_rfl) (by kernel_rfl) (fun _ _ _ h => h) (Or.inl ⟨rfl, fun w' hS => rfl⟩) hS0 ?_
                simp only [Act.put, List.setIfInBounds_toArray, List.set_cons_zero, List.set_cons_succ]
                refine takeD (i := 2) (v := .int .i64 (m : Int)) 49 rfl rfl (by kernel_rfl) (by kernel_rfl) (by kernel_rfl) (fun _ _ _ h => h) (Or.inl ⟨rfl, fun w' hS => rfl⟩) hS0 ?_
                simp only [Act.put, List.setIfInBounds_toArray, List.set_cons_zero, List.set_cons_succ]
                refine takeD (i := 3) (v := .slice (some ⟨gb, go, none⟩) m c) 50 rfl rfl (by kernel_rfl) (by kernel_rfl) (by kernel_rfl) (fun _ _ _ h => h) (Or.inl ⟨rfl, fun w' hS => exec_hi Try.underlying52 siz23 (.tmp 48) (.tmp 49) rfl (some ⟨gb, go, none⟩) n c m rfl rfl hmc⟩) hS0 ?_
                simp only [Act.put, List.setIfInBounds_toArray, List.set_cons_zero, List.set_cons_succ]
                refine takeD (i := 5) (v := .int .i64 (j : Int)) 52 rfl rfl (by kernel_rfl) (by kernel_rfl) (by kernel_rfl) (fun _ _ _ h => h) (Or.inl ⟨rfl, fun w' hS => rfl⟩) hS0 ?_
                simp only [Act.put, List.setIfInBounds_toArray, List.set_cons_zero, List.set_cons_succ]
                refine takeD (i := 6) (v := .pointer (some ⟨w.heap.size, 64, none⟩)) 53 rfl rfl (by kernel_rfl) (by kernel_rfl) (by kernel_rfl) (fun _ _ _ h => h) (Or.inl ⟨rfl, fun w' hS => exec_f43 (.tmp 1) rfl w.heap.size rfl⟩) hS0 ?_
                simp only [Act.put, List.setIfInBounds_toArray, List.set_cons_zero, List.set_cons_succ]
                refine takeD (i := 7) (v := .pointer (some ⟨w.heap.size, 64 + j, none⟩)) 54 rfl rfl (by kernel_rfl) (by kernel_rfl) (by kernel_rfl) (fun _ _ _ h => h) (Or.inl ⟨rfl, fun w' hS => exec_i24 (.tmp 53) (.tmp 52) rfl w.heap.size 64 j rfl rfl hj64⟩) hS0 ?_
                simp only [Act.put, List.setIfInBounds_toArray, List.set_cons_zero, List.set_cons_succ]
                refine takeD (i := 8) (v := .int .u64 (x : Int)) 55 rfl rfl (by kernel_rfl) (by kernel_rfl) (by kernel_rfl) (fun _ _ _ h => h) (Or.inl ⟨rfl, fun w' hS => exec_ld1G 23 ag23 (.tmp 54) rfl w.heap.size (64 + j) _ rfl (by rw [hS.at_ hl hj64, hxj])⟩) hS0 ?_
                simp only [Act.put, List.setIfInBounds_toArray, List.set_cons_zero, List.set_cons_succ]
                refine takeD (i := 11) (v := .slice (some ⟨gb, go, none⟩) n c) 58 rfl rfl (by kernel_rfl) (by kernel_rfl) (by kernel_rfl) (fun _ _ _ h => h) (Or.inl ⟨rfl, fun w' hS => rfl⟩) hS0 ?_
                simp only [Act.put, List.setIfInBounds_toArray, List.set_cons_zero, List.set_cons_succ]
                refine takeD (i := 12) (v := .int .i64 (m : Int)) 59 rfl rfl (by kernel_rfl) (by kernel_rfl) (by kernel_rfl) (fun _ _ _ h => h) (Or.inl ⟨rfl, fun w' hS => rfl⟩) hS0 ?_
                simp only [Act.put, List.setIfInBounds_toArray, List.set_cons_zero, List.set_cons_succ]
                refine takeD (i := 13) (v := .slice (cutQ 1 (some ⟨gb, go, none⟩) m c) (n - m) (c - m)) 60 rfl rfl (by kernel_rfl) (by kernel_rfl) (by kernel_rfl) (fun _ _ _ h => h) (Or.inl ⟨rfl, fun w' hS => exec_lo Try.underlying52 siz23 (.tmp 58) (.tmp 59) rfl (some ⟨gb, go, none⟩) n c m rfl rfl hmnn⟩) hS0 ?_
                simp only [Act.put, List.setIfInBounds_toArray, List.set_cons_zero, List.set_cons_succ]
                have hbr : Below Wd.heap.size Wd Wd := Below.refl _ _
                have hbA := below_alloc1 Wd (.cells (uE x).toArray 23)
                refine twoH 0 9 (by kernel_rfl) (wpOp_wp rfl rfl (op_bs0 (enc := uE) (k := 1) 52 23 Try.underlying52 siz23 rfl Wd.heap.size hbr.size (fun v1 w1 ho1 hg1 hv1 => ⟨hSb _ (hbr.grown hg1 hbr.size (fun k e => by cases e)), ?_⟩))) (wpOp_val rfl rfl (exec_bsU (.tmp 55) rfl x rfl) ⟨hSb _ (hbr.trans ((below_alloc1 Wd _).mono hbr.size)), ?_⟩)
                · have hb1 : Below Wd.heap.size Wd w1 := hbr.grown hg1 hbr.size (fun k e => by cases e)
                  have hbA1 := hb1.trans ((below_alloc1 w1 (.cells (uE x).toArray 23)).mono hb1.size)
                  refine twoH 4 9 (by kernel_rfl) (wpOp_wp rfl rfl (op_app (enc := uE) (k := 1) 52 23 8 _ Try.underlying52 infoU uZ_sz (by omega) uE_len uE_one (.tmp 47) (.tmp 50) rfl Wd.heap.size v1 [] rfl ho1 (some ⟨gb, go, none⟩) m c (l.take m) rfl (by rw [List.length_take]; omega) ((HRd.out.take m).below hb1) hqc (by simp; omega) (by unfold maxLen; simp; omega) hb1.size (fun v4 w4 ho4 hg4 _ => ⟨hSb _ (hb1.trans (grown_below hg4 (fun g e => ((ho1).lt g e).1) hb1.size)), ?_⟩))) (wpOp_val rfl rfl (exec_bsU (.tmp 55) rfl x rfl) ⟨hSb _ (hb1.trans ((below_alloc1 w1 _).mono hb1.size)), ?_⟩)
                  · simp only [List.nil_append] at ho4
                    have hb4 := hb1.trans (grown_below hg4 (fun g e => (ho1.lt g e).1) hb1.size)
                    refine oneH 9 (by kernel_rfl) (wpOp_val rfl rfl (exec_bsU (.tmp 55) rfl x rfl) ⟨hSb _ (hb4.trans ((below_alloc1 w4 _).mono hb4.size)), ?_⟩)
                    obtain ⟨bF, hbFe⟩ : ∃ bF, bF = w4.heap.size := ⟨_, rfl⟩
                    have hbF := hb4.trans ((below_alloc1 w4 (.cells (uE x).toArray 23)).mono hb4.size)
                    have hoF := ho4.below (below_alloc1 w4 (.cells (uE x).toArray 23))
                    have hyF := slat1 (enc := uE) (k := 1) w4 x 23
                    rw [← hbFe] at hyF ⊢
                    refine oneH 10 (by kernel_rfl) (wpOp_wp rfl rfl (op_app (enc := uE) (k := 1) 52 23 8 _ Try.underlying52 infoU uZ_sz (by omega) uE_len uE_one (.tmp 51) (.tmp 56) rfl Wd.heap.size v4 (l.take m) rfl hoF (some ⟨bF, 0, none⟩) 1 1 [x] rfl rfl hyF (fun e => by cases e) (by rw [List.length_take]; omega) (by unfold maxLen; rw [List.length_take]; omega) hbF.size (fun v9 w9 ho9 hg9 _ => ⟨hSb _ (hbF.trans (grown_below hg9 (fun g e => (hoF.lt g e).1) hbF.size)), ?_⟩)))
                    have hb9 := hbF.trans (grown_below hg9 (fun g e => (hoF.lt g e).1) hbF.size)
                    have hqs : SlAt uE 1 w9 (cutQ 1 (some ⟨gb, go, none⟩) m c) (l.drop m) := (HRd.out.below hb9).cut m c hlc
                    refine oneH 14 (by kernel_rfl) (wpOp_wp rfl rfl (op_app (enc := uE) (k := 1) 52 23 8 _ Try.underlying52 infoU uZ_sz (by omega) uE_len uE_one (.tmp 57) (.tmp 60) rfl Wd.heap.size v9 (l.take m ++ [x]) rfl ho9 (cutQ 1 (some ⟨gb, go, none⟩) m c) (n - m) (c - m) (l.drop m) rfl (by rw [List.length_drop, hnl]) hqs (fun e => by rw [hqc (cutQ_isNone e)]; omega) (by simp only [List.length_append, List.length_take, List.length_singleton]; omega) (by unfold maxLen; simp only [List.length_append, List.length_take, List.length_singleton]; omega) hb9.size (fun v14 w14 ho14 hg14 _ => ⟨hSb _ (hb9.trans (grown_below hg14 (fun g e => (ho9.lt g e).1) hb9.size)), ?_⟩)))
                    have hb14 := hb9.trans (grown_below hg14 (fun g e => (ho9.lt g e).1) hb9.size)
                    refine oneH 15 (by kernel_rfl) (wpOp_as rfl rfl (.tmp 61) rfl v14 rfl ⟨hSb _ hb14, ?_⟩)
                    refine wpAnyH_done (by kernel_rfl) ?_ _
                    have HO14 : Hid (OwnE uE 23 1 w14 (w.heap.size + 1) v14 (insU x l)) := by show OwnE _ _ _ _ _ _ _; rw [HIN.out]; exact ho14.base hBd
                    have HB14 : Hid (Below w.heap.size w w14) := HBd.out.trans (hb14.mono HBd.out.size)
                    have HD14 : Hid (DT w14 w.heap.size u ts) := hSb _ hb14
                    clear hqs hyF hbF hoF hb9 ho9 hg9 hSb hS0 HRd HBd ho14 hg14 hb14
                    simp only [Act.put, List.getElem_toArray, List.getElem_cons_zero, List.getElem_cons_succ, List.setIfInBounds_toArray, List.set_cons_zero, List.set_cons_succ]
                    go_wp2_with fail
                    go_roundw
                    case rel => exact ⟨j + 1, insU x l, by omega, by have := insU_len x l; omega, by go_num, HNX.out.symm, HB14.out, HD14.out, HO14.out⟩
                    case measure => simp [intOf]; omega
                  · refine oneH 4 (by kernel_rfl) (wpOp_wp rfl rfl (op_app (enc := uE) (k := 1) 52 23 8 _ Try.underlying52 infoU uZ_sz (by omega) uE_len uE_one (.tmp 47) (.tmp 50) rfl Wd.heap.size v1 [] rfl (ho1.below (below_alloc1 w1 (.cells (uE x).toArray 23))) (some ⟨gb, go, none⟩) m c (l.take m) rfl (by rw [List.length_take]; omega) ((HRd.out.take m).below hbA1) hqc (by simp; omega) (by unfold maxLen; simp; omega) hbA1.size (fun v4 w4 ho4 hg4 _ => ⟨hSb _ (hbA1.trans (grown_below hg4 (fun g e => (((ho1.below (below_alloc1 w1 (.cells (uE x).toArray 23)))).lt g e).1) hbA1.size)), ?_⟩)))
                    simp only [List.nil_append] at ho4
                    have hgb := grown_below hg4 (fun g e => ((ho1.below (below_alloc1 w1 (.cells (uE x).toArray 23))).lt g e).1) hbA1.size
                    obtain ⟨bF, hbFe⟩ : ∃ bF, bF = w1.heap.size := ⟨_, rfl⟩
                    have hbF := hbA1.trans hgb
                    have hoF := ho4
                    have hyF : SlAt uE 1 w4 (some ⟨w1.heap.size, 0, none⟩) [x] := slat_kept (slat1 (enc := uE) (k := 1) w1 x 23) (hg4.block _ (by simp) (fun e => by have := (ho1.lt _ e.symm).2; omega)) (by have := hg4.size; simp at this; omega)
                    rw [← hbFe] at hyF ⊢
                    refine oneH 10 (by kernel_rfl) (wpOp_wp rfl rfl (op_app (enc := uE) (k := 1) 52 23 8 _ Try.underlying52 infoU uZ_sz (by omega) uE_len uE_one (.tmp 51) (.tmp 56) rfl Wd.heap.size v4 (l.take m) rfl hoF (some ⟨bF, 0, none⟩) 1 1 [x] rfl rfl hyF (fun e => by cases e) (by rw [List.length_take]; omega) (by unfold maxLen; rw [List.length_take]; omega) hbF.size (fun v9 w9 ho9 hg9 _ => ⟨hSb _ (hbF.trans (grown_below hg9 (fun g e => (hoF.lt g e).1) hbF.size)), ?_⟩)))
                    have hb9 := hbF.trans (grown_below hg9 (fun g e => (hoF.lt g e).1) hbF.size)
                    have hqs : SlAt uE 1 w9 (cutQ 1 (some ⟨gb, go, none⟩) m c) (l.drop m) := (HRd.out.below hb9).cut m c hlc
                    refine oneH 14 (by kernel_rfl) (wpOp_wp rfl rfl (op_app (enc := uE) (k := 1) 52 23 8 _ Try.underlying52 infoU uZ_sz (by omega) uE_len uE_one (.tmp 57) (.tmp 60) rfl Wd.heap.size v9 (l.take m ++ [x]) rfl ho9 (cutQ 1 (some ⟨gb, go, none⟩) m c) (n - m) (c - m) (l.drop m) rfl (by rw [List.length_drop, hnl]) hqs (fun e => by rw [hqc (cutQ_isNone e)]; omega) (by simp only [List.length_append, List.length_take, List.length_singleton]; omega) (by unfold maxLen; simp only [List.length_append, List.length_take, List.length_singleton]; omega) hb9.size (fun v14 w14 ho14 hg14 _ => ⟨hSb _ (hb9.trans (grown_below hg14 (fun g e => (ho9.lt g e).1) hb9.size)), ?_⟩)))
                    have hb14 := hb9.trans (grown_below hg14 (fun g e => (ho9.lt g e).1) hb9.size)
                    refine oneH 15 (by kernel_rfl) (wpOp_as rfl rfl (.tmp 61) rfl v14 rfl ⟨hSb _ hb14, ?_⟩)
                    refine wpAnyH_done (by kernel_rfl) ?_ _
                    have HO14 : Hid (OwnE uE 23 1 w14 (w.heap.size + 1) v14 (insU x l)) := by show OwnE _ _ _ _ _ _ _; rw [HIN.out]; exact ho14.base hBd
                    have HB14 : Hid (Below w.heap.size w w14) := HBd.out.trans (hb14.mono HBd.out.size)
                    have HD14 : Hid (DT w14 w.heap.size u ts) := hSb _ hb14
                    clear hqs hyF hbF hoF hb9 ho9 hg9 hSb hS0 HRd HBd ho14 hg14 hb14
                    simp only [Act.put, List.getElem_toArray, List.getElem_cons_zero, List.getElem_cons_succ, List.setIfInBounds_toArray, List.set_cons_zero, List.set_cons_succ]
                    go_wp2_with fail
                    go_roundw
                    case rel => exact ⟨j + 1, insU x l, by omega, by have := insU_len x l; omega, by go_num, HNX.out.symm, HB14.out, HD14.out, HO14.out⟩
                    case measure => simp [intOf]; omega
                · refine oneH 0 (by kernel_rfl) (wpOp_wp rfl rfl (op_bs0 (enc := uE) (k := 1) 52 23 Try.underlying52 siz23 rfl Wd.heap.size hbA.size (fun v1 w1 ho1 hg1 hv1 => ⟨hSb _ (hbA.grown hg1 hbA.size (fun k e => by cases e)), ?_⟩)))
                  have hb1 := hbA.grown hg1 hbA.size (fun k e => by cases e)
                  refine oneH 4 (by kernel_rfl) (wpOp_wp rfl rfl (op_app (enc := uE) (k := 1) 52 23 8 _ Try.underlying52 infoU uZ_sz (by omega) uE_len uE_one (.tmp 47) (.tmp 50) rfl Wd.heap.size v1 [] rfl ho1 (some ⟨gb, go, none⟩) m c (l.take m) rfl (by rw [List.length_take]; omega) ((HRd.out.take m).below hb1) hqc (by simp; omega) (by unfold maxLen; simp; omega) hb1.size (fun v4 w4 ho4 hg4 _ => ⟨hSb _ (hb1.trans (grown_below hg4 (fun g e => ((ho1).lt g e).1) hb1.size)), ?_⟩)))
                  simp only [List.nil_append] at ho4
                  have hgb := grown_below hg4 (fun g e => (ho1.lt g e).1) hb1.size
                  obtain ⟨bF, hbFe⟩ : ∃ bF, bF = Wd.heap.size := ⟨_, rfl⟩
                  have hbF := hb1.trans hgb
                  have hoF := ho4
                  have hyF : SlAt uE 1 w4 (some ⟨Wd.heap.size, 0, none⟩) [x] := slat_kept (slat1 (enc := uE) (k := 1) Wd x 23) ((hg4.block _ (Nat.lt_of_lt_of_le (by simp) hg1.size) (fun e => by rw [hv1] at e; simp at e)).trans (hg1.block _ (by simp) (by simp))) (Nat.lt_of_lt_of_le (Nat.lt_of_lt_of_le (by simp) hg1.size) hg4.size)
                  rw [← hbFe] at hyF ⊢
                  refine oneH 10 (by kernel_rfl) (wpOp_wp rfl rfl (op_app (enc := uE) (k := 1) 52 23 8 _ Try.underlying52 infoU uZ_sz (by omega) uE_len uE_one (.tmp 51) (.tmp 56) rfl Wd.heap.size v4 (l.take m) rfl hoF (some ⟨bF, 0, none⟩) 1 1 [x] rfl rfl hyF (fun e => by cases e) (by rw [List.length_take]; omega) (by unfold maxLen; rw [List.length_take]; omega) hbF.size (fun v9 w9 ho9 hg9 _ => ⟨hSb _ (hbF.trans (grown_below hg9 (fun g e => (hoF.lt g e).1) hbF.size)), ?_⟩)))
                  have hb9 := hbF.trans (grown_below hg9 (fun g e => (hoF.lt g e).1) hbF.size)
                  have hqs : SlAt uE 1 w9 (cutQ 1 (some ⟨gb, go, none⟩) m c) (l.drop m) := (HRd.out.below hb9).cut m c hlc
                  refine oneH 14 (by kernel_rfl) (wpOp_wp rfl rfl (op_app (enc := uE) (k := 1) 52 23 8 _ Try.underlying52 infoU uZ_sz (by omega) uE_len uE_one (.tmp 57) (.tmp 60) rfl Wd.heap.size v9 (l.take m ++ [x]) rfl ho9 (cutQ 1 (some ⟨gb, go, none⟩) m c) (n - m) (c - m) (l.drop m) rfl (by rw [List.length_drop, hnl]) hqs (fun e => by rw [hqc (cutQ_isNone e)]; omega) (by simp only [List.length_append, List.length_take, List.length_singleton]; omega) (by unfold maxLen; simp only [List.length_append, List.length_take, List.length_singleton]; omega) hb9.size (fun v14 w14 ho14 hg14 _ => ⟨hSb _ (hb9.trans (grown_below hg14 (fun g e => (ho9.lt g e).1) hb9.size)), ?_⟩)))
                  have hb14 := hb9.trans (grown_below hg14 (fun g e => (ho9.lt g e).1) hb9.size)
                  refine oneH 15 (by kernel_rfl) (wpOp_as rfl rfl (.tmp 61) rfl v14 rfl ⟨hSb _ hb14, ?_⟩)
                  refine wpAnyH_done (by kernel_rfl) ?_ _
                  have HO14 : Hid (OwnE uE 23 1 w14 (w.heap.size + 1) v14 (insU x l)) := by show OwnE _ _ _ _ _ _ _; rw [HIN.out]; exact ho14.base hBd
                  have HB14 : Hid (Below w.heap.size w w14) := HBd.out.trans (hb14.mono HBd.out.size)
                  have HD14 : Hid (DT w14 w.heap.size u ts) := hSb _ hb14
                  clear hqs hyF hbF hoF hb9 ho9 hg9 hSb hS0 HRd HBd ho14 hg14 hb14
                  simp only [Act.put, List.getElem_toArray, List.getElem_cons_zero, List.getElem_cons_succ, List.setIfInBounds_toArray, List.set_cons_zero, List.set_cons_succ]
                  go_wp2_with fail
                  go_roundw
                  case rel => exact ⟨j + 1, insU x l, by omega, by have := insU_len x l; omega, by go_num, HNX.out.symm, HB14.out, HD14.out, HO14.out⟩
                  case measure => simp [intOf]; omega
          · obtain rfl : n = m := by omega
            have hmnI : ¬ (n : Int) < (n : Int) := by omega
            have HIN : Hid (insU x l = l.take n ++ [x] ++ l.drop n) := insU_at x l n (by omega) HLT.out (fun h => by omega)
            go_wp2_with fail
            go_quiet (fail)
            have HBq : Hid (Below W2.heap.size W2 (wr.drewN nq)) := HBz.out.trans ((below_drewN wr nq).mono HBz.out.size)
            clear HBz 
            generalize wr.drewN nq = Wq at *
            go_wp2_with fail
            go_quiet (fail)
            have HBw : Hid (Below W2.heap.size W2 (Wq.drewN nq)) := HBq.out.trans ((below_drewN Wq nq).mono HBq.out.size)
            have HBx : Hid (Below w.heap.size w (Wq.drewN nq)) := HB.out.trans (HBw.out.mono HB.out.size)
            clear HBq HLT
            generalize Wq.drewN nq = Wx at *
            have hDx : DT Wx w.heap.size u ts := HD.out.below hBl HBw.out
            have HRx : Hid (SlAt uE 1 Wx q l) := HAT.out.below HBw.out
            have hBx : w.heap.size < Wx.heap.size := Nat.lt_of_lt_of_le hBl HBw.out.size
            have hmc : n ≤ c := by omega
            have hmnn : n ≤ n := by omega
            clear HD HO HB HAT HBw hci hca
            go_upto_region 10 with fail
            refine wp_region_held_drew (S := fun w' => DT w' w.heap.size u ts) (by kernel_rfl) (hDx.below hBx (below_drew Wx)) (fun hS0 => ?_)
            show wpAnyH Try.prog Region.Mode.any _ _ _ 16 #[false, false, false, false, false, false, false, false, false, false, false, false, false, false, false, false] _ _
            have HRd : Hid (SlAt uE 1 Wx.drew q l) := (HRx.out).below (below_drew Wx)
            have HBd : Hid (Below w.heap.size w Wx.drew) := HBx.out.trans ((below_drew Wx).mono HBx.out.size)
            have hBd : w.heap.size < Wx.drew.heap.size := hBx
            have hSb : ∀ w', Below Wx.drew.heap.size Wx.drew w' → DT w' w.heap.size u ts := fun w' h => hS0.below hBd h
            clear HRx hDx HBx hBx
            generalize Wx.drew = Wd at *
            refine takeD (i := 1) (v := .slice q n c) 48 rfl rfl (by kernel_rfl) (by kernel_rfl) (by kernel_rfl) (fun _ _ _ h => h) (Or.inl ⟨rfl, fun w' hS => rfl⟩) hS0 ?_
            simp only [Act.put, List.setIfInBounds_toArray, List.set_cons_zero, List.set_cons_succ]
            refine takeD (i := 2) (v := .int .i64 (n : Int)) 49 rfl rfl (by kernel_rfl) (by kernel_rfl) (by kernel_rfl) (fun _ _ _ h => h) (Or.inl ⟨rfl, fun w' hS => rfl⟩) hS0 ?_
            simp only [Act.put, List.setIfInBounds_toArray, List.set_cons_zero, List.set_cons_succ]
            refine takeD (i := 3) (v := .slice q n c) 50 rfl rfl (by kernel_rfl) (by kernel_rfl) (by kernel_rfl) (fun _ _ _ h => h) (Or.inl ⟨rfl, fun w' hS => exec_hi Try.underlying52 siz23 (.tmp 48) (.tmp 49) rfl q n c n rfl rfl hmc⟩) hS0 ?_
            simp only [Act.put, List.setIfInBounds_toArray, List.set_cons_zero, List.set_cons_succ]
            refine takeD (i := 5) (v := .int .i64 (j : Int)) 52 rfl rfl (by kernel_rfl) (by kernel_rfl) (by kernel_rfl) (fun _ _ _ h => h) (Or.inl ⟨rfl, fun w' hS => rfl⟩) hS0 ?_
            simp only [Act.put, List.setIfInBounds_toArray, List.set_cons_zero, List.set_cons_succ]
            refine takeD (i := 6) (v := .pointer (some ⟨w.heap.size, 64, none⟩)) 53 rfl rfl (by kernel_rfl) (by kernel_rfl) (by kernel_rfl) (fun _ _ _ h => h) (Or.inl ⟨rfl, fun w' hS => exec_f43 (.tmp 1) rfl w.heap.size rfl⟩) hS0 ?_
            simp only [Act.put, List.setIfInBounds_toArray, List.set_cons_zero, List.set_cons_succ]
            refine takeD (i := 7) (v := .pointer (some ⟨w.heap.size, 64 + j, none⟩)) 54 rfl rfl (by kernel_rfl) (by kernel_rfl) (by kernel_rfl) (fun _ _ _ h => h) (Or.inl ⟨rfl, fun w' hS => exec_i24 (.tmp 53) (.tmp 52) rfl w.heap.size 64 j rfl rfl hj64⟩) hS0 ?_
            simp only [Act.put, List.setIfInBounds_toArray, List.set_cons_zero, List.set_cons_succ]
            refine takeD (i := 8) (v := .int .u64 (x : Int)) 55 rfl rfl (by kernel_rfl) (by kernel_rfl) (by kernel_rfl) (fun _ _ _ h => h) (Or.inl ⟨rfl, fun w' hS => exec_ld1G 23 ag23 (.tmp 54) rfl w.heap.size (64 + j) _ rfl (by rw [hS.at_ hl hj64, hxj])⟩) hS0 ?_
            simp only [Act.put, List.setIfInBounds_toArray, List.set_cons_zero, List.set_cons_succ]
            refine takeD (i := 11) (v := .slice q n c) 58 rfl rfl (by kernel_rfl) (by kernel_rfl) (by kernel_rfl) (fun _ _ _ h => h) (Or.inl ⟨rfl, fun w' hS => rfl⟩) hS0 ?_
            simp only [Act.put, List.setIfInBounds_toArray, List.set_cons_zero, List.set_cons_succ]
            refine takeD (i := 12) (v := .int .i64 (n : Int)) 59 rfl rfl (by kernel_rfl) (by kernel_rfl) (by kernel_rfl) (fun _ _ _ h => h) (Or.inl ⟨rfl, fun w' hS => rfl⟩) hS0 ?_
            simp only [Act.put, List.setIfInBounds_toArray, List.set_cons_zero, List.set_cons_succ]
            refine takeD (i := 13) (v := .slice (cutQ 1 q n c) (n - n) (c - n)) 60 rfl rfl (by kernel_rfl) (by kernel_rfl) (by kernel_rfl) (fun _ _ _ h => h) (Or.inl ⟨rfl, fun w' hS => exec_lo Try.underlying52 siz23 (.tmp 58) (.tmp 59) rfl q n c n rfl rfl hmnn⟩) hS0 ?_
            simp only [Act.put, List.setIfInBounds_toArray, List.set_cons_zero, List.set_cons_succ]
            have hbr : Below Wd.heap.size Wd Wd := Below.refl _ _
            have hbA := below_alloc1 Wd (.cells (uE x).toArray 23)
            refine twoH 0 9 (by kernel_rfl) (wpOp_wp rfl rfl (op_bs0 (enc := uE) (k := 1) 52 23 Try.underlying52 siz23 rfl Wd.heap.size hbr.size (fun v1 w1 ho1 hg1 hv1 => ⟨hSb _ (hbr.grown hg1 hbr.size (fun k e => by cases e)), ?_⟩))) (wpOp_val rfl rfl (exec_bsU (.tmp 55) rfl x rfl) ⟨hSb _ (hbr.trans ((below_alloc1 Wd _).mono hbr.size)), ?_⟩)
            · have hb1 : Below Wd.heap.size Wd w1 := hbr.grown hg1 hbr.size (fun k e => by cases e)
              have hbA1 := hb1.trans ((below_alloc1 w1 (.cells (uE x).toArray 23)).mono hb1.size)
              refine twoH 4 9 (by kernel_rfl) (wpOp_wp rfl rfl (op_app (enc := uE) (k := 1) 52 23 8 _ Try.underlying52 infoU uZ_sz (by omega) uE_len uE_one (.tmp 47) (.tmp 50) rfl Wd.heap.size v1 [] rfl ho1 q n c (l.take n) rfl (by rw [List.length_take]; omega) ((HRd.out.take n).below hb1) hqc (by simp; omega) (by unfold maxLen; simp; omega) hb1.size (fun v4 w4 ho4 hg4 _ => ⟨hSb _ (hb1.trans (grown_below hg4 (fun g e => ((ho1).lt g e).1) hb1.size)), ?_⟩))) (wpOp_val rfl rfl (exec_bsU (.tmp 55) rfl x rfl) ⟨hSb _ (hb1.trans ((below_alloc1 w1 _).mono hb1.size)), ?_⟩)
              · simp only [List.nil_append] at ho4
                have hb4 := hb1.trans (grown_below hg4 (fun g e => (ho1.lt g e).1) hb1.size)
                refine oneH 9 (by kernel_rfl) (wpOp_val rfl rfl (exec_bsU (.tmp 55) rfl x rfl) ⟨hSb _ (hb4.trans ((below_alloc1 w4 _).mono hb4.size)), ?_⟩)
                obtain ⟨bF, hbFe⟩ : ∃ bF, bF = w4.heap.size := ⟨_, rfl⟩
                have hbF := hb4.trans ((below_alloc1 w4 (.cells (uE x).toArray 23)).mono hb4.size)
                have hoF := ho4.below (below_alloc1 w4 (.cells (uE x).toArray 23))
                have hyF := slat1 (enc := uE) (k := 1) w4 x 23
                rw [← hbFe] at hyF ⊢
                refine oneH 10 (by kernel_rfl) (wpOp_wp rfl rfl (op_app (enc := uE) (k := 1) 52 23 8 _ Try.underlying52 infoU uZ_sz (by omega) uE_len uE_one (.tmp 51) (.tmp 56) rfl Wd.heap.size v4 (l.take n) rfl hoF (some ⟨bF, 0, none⟩) 1 1 [x] rfl rfl hyF (fun e => by cases e) (by rw [List.length_take]; omega) (by unfold maxLen; rw [List.length_take]; omega) hbF.size (fun v9 w9 ho9 hg9 _ => ⟨hSb _ (hbF.trans (grown_below hg9 (fun g e => (hoF.lt g e).1) hbF.size)), ?_⟩)))
                have hb9 := hbF.trans (grown_below hg9 (fun g e => (hoF.lt g e).1) hbF.size)
                have hqs : SlAt uE 1 w9 (cutQ 1 q n c) (l.drop n) := (HRd.out.below hb9).cut n c hlc
                refine oneH 14 (by kernel_rfl) (wpOp_wp rfl rfl (op_app (enc := uE) (k := 1) 52 23 8 _ Try.underlying52 infoU uZ_sz (by omega) uE_len uE_one (.tmp 57) (.tmp 60) rfl Wd.heap.size v9 (l.take n ++ [x]) rfl ho9 (cutQ 1 q n c) (n - n) (c - n) (l.drop n) rfl (by rw [List.length_drop, hnl]) hqs (fun e => by rw [hqc (cutQ_isNone e)]; omega) (by simp only [List.length_append, List.length_take, List.length_singleton]; omega) (by unfold maxLen; simp only [List.length_append, List.length_take, List.length_singleton]; omega) hb9.size (fun v14 w14 ho14 hg14 _ => ⟨hSb _ (hb9.trans (grown_below hg14 (fun g e => (ho9.lt g e).1) hb9.size)), ?_⟩)))
                have hb14 := hb9.trans (grown_below hg14 (fun g e => (ho9.lt g e).1) hb9.size)
                refine oneH 15 (by kernel_rfl) (wpOp_as rfl rfl (.tmp 61) rfl v14 rfl ⟨hSb _ hb14, ?_⟩)
                refine wpAnyH_done (by kernel_rfl) ?_ _
                have HO14 : Hid (OwnE uE 23 1 w14 (w.heap.size + 1) v14 (insU x l)) := by show OwnE _ _ _ _ _ _ _; rw [HIN.out]; exact ho14.base hBd
                have HB14 : Hid (Below w.heap.size w w14) := HBd.out.trans (hb14.mono HBd.out.size)
                have HD14 : Hid (DT w14 w.heap.size u ts) := hSb _ hb14
                clear hqs hyF hbF hoF hb9 ho9 hg9 hSb hS0 HRd HBd ho14 hg14 hb14
                simp only [Act.put, List.getElem_toArray, List.getElem_cons_zero, List.getElem_cons_succ, List.setIfInBounds_toArray, List.set_cons_zero, List.set_cons_succ]
                go_wp2_with fail
                go_roundw
                case rel => exact ⟨j + 1, insU x l, by omega, by have := insU_len x l; omega, by go_num, HNX.out.symm, HB14.out, HD14.out, HO14.out⟩
                case measure => simp [intOf]; omega
              · refine oneH 4 (by kernel_rfl) (wpOp_wp rfl rfl (op_app (enc := uE) (k := 1) 52 23 8 _ Try.underlying52 infoU uZ_sz (by omega) uE_len uE_one (.tmp 47) (.tmp 50) rfl Wd.heap.size v1 [] rfl (ho1.below (below_alloc1 w1 (.cells (uE x).toArray 23))) q n c (l.take n) rfl (by rw [List.length_take]; omega) ((HRd.out.take n).below hbA1) hqc (by simp; omega) (by unfold maxLen; simp; omega) hbA1.size (fun v4 w4 ho4 hg4 _ => ⟨hSb _ (hbA1.trans (grown_below hg4 (fun g e => (((ho1.below (below_alloc1 w1 (.cells (uE x).toArray 23)))).lt g e).1) hbA1.size)), ?_⟩)))
                simp only [List.nil_append] at ho4
                have hgb := grown_below hg4 (fun g e => ((ho1.below (below_alloc1 w1 (.cells (uE x).toArray 23))).lt g e).1) hbA1.size
                obtain ⟨bF, hbFe⟩ : ∃ bF, bF = w1.heap.size := ⟨_, rfl⟩
                have hbF := hbA1.trans hgb
                have hoF := ho4
                have hyF : SlAt uE 1 w4 (some ⟨w1.heap.size, 0, none⟩) [x] := slat_kept (slat1 (enc := uE) (k := 1) w1 x 23) (hg4.block _ (by simp) (fun e => by have := (ho1.lt _ e.symm).2; omega)) (by have := hg4.size; simp at this; omega)
                rw [← hbFe] at hyF ⊢
                refine oneH 10 (by kernel_rfl) (wpOp_wp rfl rfl (op_app (enc := uE) (k := 1) 52 23 8 _ Try.underlying52 infoU uZ_sz (by omega) uE_len uE_one (.tmp 51) (.tmp 56) rfl Wd.heap.size v4 (l.take n) rfl hoF (some ⟨bF, 0, none⟩) 1 1 [x] rfl rfl hyF (fun e => by cases e) (by rw [List.length_take]; omega) (by unfold maxLen; rw [List.length_take]; omega) hbF.size (fun v9 w9 ho9 hg9 _ => ⟨hSb _ (hbF.trans (grown_below hg9 (fun g e => (hoF.lt g e).1) hbF.size)), ?_⟩)))
                have hb9 := hbF.trans (grown_below hg9 (fun g e => (hoF.lt g e).1) hbF.size)
                have hqs : SlAt uE 1 w9 (cutQ 1 q n c) (l.drop n) := (HRd.out.below hb9).cut n c hlc
                refine oneH 14 (by kernel_rfl) (wpOp_wp rfl rfl (op_app (enc := uE) (k := 1) 52 23 8 _ Try.underlying52 infoU uZ_sz (by omega) uE_len uE_one (.tmp 57) (.tmp 60) rfl Wd.heap.size v9 (l.take n ++ [x]) rfl ho9 (cutQ 1 q n c) (n - n) (c - n) (l.drop n) rfl (by rw [List.length_drop, hnl]) hqs (fun e => by rw [hqc (cutQ_isNone e)]; omega) (by simp only [List.length_append, List.length_take, List.length_singleton]; omega) (by unfold maxLen; simp only [List.length_append, List.length_take, List.length_singleton]; omega) hb9.size (fun v14 w14 ho14 hg14 _ => ⟨hSb _ (hb9.trans (grown_below hg14 (fun g e => (ho9.lt g e).1) hb9.size)), ?_⟩)))
                have hb14 := hb9.trans (grown_below hg14 (fun g e => (ho9.lt g e).1) hb9.size)
                refine oneH 15 (by kernel_rfl) (wpOp_as rfl rfl (.tmp 61) rfl v14 rfl ⟨hSb _ hb14, ?_⟩)
                refine wpAnyH_done (by kernel_rfl) ?_ _
                have HO14 : Hid (OwnE uE 23 1 w14 (w.heap.size + 1) v14 (insU x l)) := by show OwnE _ _ _ _ _ _ _; rw [HIN.out]; exact ho14.base hBd
                have HB14 : Hid (Below w.heap.size w w14) := HBd.out.trans (hb14.mono HBd.out.size)
                have HD14 : Hid (DT w14 w.heap.size u ts) := hSb _ hb14
                clear hqs hyF hbF hoF hb9 ho9 hg9 hSb hS0 HRd HBd ho14 hg14 hb14
                simp only [Act.put, List.getElem_toArray, List.getElem_cons_zero, List.getElem_cons_succ, List.setIfInBounds_toArray, List.set_cons_zero, List.set_cons_succ]
                go_wp2_with fail
                go_roundw
                case rel => exact ⟨j + 1, insU x l, by omega, by have := insU_len x l; omega, by go_num, HNX.out.symm, HB14.out, HD14.out, HO14.out⟩
                case measure => simp [intOf]; omega
            · refine oneH 0 (by kernel_rfl) (wpOp_wp rfl rfl (op_bs0 (enc := uE) (k := 1) 52 23 Try.underlying52 siz23 rfl Wd.heap.size hbA.size (fun v1 w1 ho1 hg1 hv1 => ⟨hSb _ (hbA.grown hg1 hbA.size (fun k e => by cases e)), ?_⟩)))
              have hb1 := hbA.grown hg1 hbA.size (fun k e => by cases e)
              refine oneH 4 (by kernel_rfl) (wpOp_wp rfl rfl (op_app (enc := uE) (k := 1) 52 23 8 _ Try.underlying52 infoU uZ_sz (by omega) uE_len uE_one (.tmp 47) (.tmp 50) rfl Wd.heap.size v1 [] rfl ho1 q n c (l.take n) rfl (by rw [List.length_take]; omega) ((HRd.out.take n).below hb1) hqc (by simp; omega) (by unfold maxLen; simp; omega) hb1.size (fun v4 w4 ho4 hg4 _ => ⟨hSb _ (hb1.trans (grown_below hg4 (fun g e => ((ho1).lt g e).1) hb1.size)), ?_⟩)))
              simp only [List.nil_append] at ho4
              have hgb := grown_below hg4 (fun g e => (ho1.lt g e).1) hb1.size
              obtain ⟨bF, hbFe⟩ : ∃ bF, bF = Wd.heap.size := ⟨_, rfl⟩
              have hbF := hb1.trans hgb
              have hoF := ho4
              have hyF : SlAt uE 1 w4 (some ⟨Wd.heap.size, 0, none⟩) [x] := slat_kept (slat1 (enc := uE) (k := 1) Wd x 23) ((hg4.block _ (Nat.lt_of_lt_of_le (by simp) hg1.size) (fun e => by rw [hv1] at e; simp at e)).trans (hg1.block _ (by simp) (by simp))) (Nat.lt_of_lt_of_le (Nat.lt_of_lt_of_le (by simp) hg1.size) hg4.size)
              rw [← hbFe] at hyF ⊢
              refine oneH 10 (by kernel_rfl) (wpOp_wp rfl rfl (op_app (enc := uE) (k := 1) 52 23 8 _ Try.underlying52 infoU uZ_sz (by omega) uE_len uE_one (.tmp 51) (.tmp 56) rfl Wd.heap.size v4 (l.take n) rfl hoF (some ⟨bF, 0, none⟩) 1 1 [x] rfl rfl hyF (fun e => by cases e) (by rw [List.length_take]; omega) (by unfold maxLen; rw [List.length_take]; omega) hbF.size (fun v9 w9 ho9 hg9 _ => ⟨hSb _ (hbF.trans (grown_below hg9 (fun g e => (hoF.lt g e).1) hbF.size)), ?_⟩)))
              have hb9 := hbF.trans (grown_below hg9 (fun g e => (hoF.lt g e).1) hbF.size)
              have hqs : SlAt uE 1 w9 (cutQ 1 q n c) (l.drop n) := (HRd.out.below hb9).cut n c hlc
              refine oneH 14 (by kernel_rfl) (wpOp_wp rfl rfl (op_app (enc := uE) (k := 1) 52 23 8 _ Try.underlying52 infoU uZ_sz (by omega) uE_len uE_one (.tmp 57) (.tmp 60) rfl Wd.heap.size v9 (l.take n ++ [x]) rfl ho9 (cutQ 1 q n c) (n - n) (c - n) (l.drop n) rfl (by rw [List.length_drop, hnl]) hqs (fun e => by rw [hqc (cutQ_isNone e)]; omega) (by simp only [List.length_append, List.length_take, List.length_singleton]; omega) (by unfold maxLen; simp only [List.length_append, List.length_take, List.length_singleton]; omega) hb9.size (fun v14 w14 ho14 hg14 _ => ⟨hSb _ (hb9.trans (grown_below hg14 (fun g e => (ho9.lt g e).1) hb9.size)), ?_⟩)))
              have hb14 := hb9.trans (grown_below hg14 (fun g e => (ho9.lt g e).1) hb9.size)
              refine oneH 15 (by kernel_rfl) (wpOp_as rfl rfl (.tmp 61) rfl v14 rfl ⟨hSb _ hb14, ?_⟩)
              refine wpAnyH_done (by kernel_rfl) ?_ _
              have HO14 : Hid (OwnE uE 23 1 w14 (w.heap.size + 1) v14 (insU x l)) := by show OwnE _ _ _ _ _ _ _; rw [HIN.out]; exact ho14.base hBd
              have HB14 : Hid (Below w.heap.size w w14) := HBd.out.trans (hb14.mono HBd.out.size)
              have HD14 : Hid (DT w14 w.heap.size u ts) := hSb _ hb14
              clear hqs hyF hbF hoF hb9 ho9 hg9 hSb hS0 HRd HBd ho14 hg14 hb14
              simp only [Act.put, List.getElem_toArray, List.getElem_cons_zero, List.getElem_cons_succ, List.setIfInBounds_toArray, List.set_cons_zero, List.set_cons_succ]
              go_wp2_with fail
              go_roundw
              case rel => exact ⟨j + 1, insU x l, by omega, by have := insU_len x l; omega, by go_num, HNX.out.symm, HB14.out, HD14.out, HO14.out⟩
              case measure => simp [intOf]; omega
    · obtain rfl : 64 = j := by omega
      have hrd : RdU wr (.slice q n c) l := ⟨q, c, by rw [hnl], fun i hi => by
        obtain ⟨b, o, e1, e2, e3⟩ := slat_cell hat.1 i hi
        have h0 : o = 0 := by
          obtain ⟨_, h | ⟨g, cap, cur, hv, _⟩⟩ := HO.out
          · have := h.2; omega
          · rw [e1] at hv; simp at hv; exact hv.1.2
        subst h0
        exact ⟨b, e1, e2, by simpa using e3⟩⟩
      have HR : Hid (RdU wr (.slice q n c) (dT u ts 64)) := by show RdU _ _ _; rw [← HL.out]; exact hrd
      clear hat hrd HO
      rw [hnl]
      go_wp2_with fail
      go_ret
      exact ⟨HB.out, _, rfl, HR.out⟩
end Go.Proofs.Ytmdhlpnieimdaaa
