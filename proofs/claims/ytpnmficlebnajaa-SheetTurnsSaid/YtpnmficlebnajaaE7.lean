/- Print. -/
import Derived.Test.YtpnmficlebnajaaE6
namespace Go.Proofs.Ytpnmficlebnajaa
open Go.RowKit

theorem textL_le (x : Ent) : (textL x.n).length ≤ 12 := by
  unfold textL; split
  · have := front_length x.n; rw [x.hn] at this; exact this
  · simp
theorem line_cells (A : List UInt8) (x : Ent) : Lib.byteCells A ++ Lib.strCells ((⟨(textL x.n).toArray⟩ : ByteArray) ++ ⟨#[61]⟩ ++ ⟨(escL x.t.data.toList).toArray⟩ ++ ⟨#[10]⟩) = Lib.byteCells (A ++ lineL x) := by
  simp [Lib.strCells_eq, Lib.byteCells, lineL]
theorem line_size (x : Ent) : ((⟨(textL x.n).toArray⟩ : ByteArray) ++ ⟨#[61]⟩ ++ ⟨(escL x.t.data.toList).toArray⟩ ++ ⟨#[10]⟩).size = (lineL x).length := by
  rw [show ((⟨(textL x.n).toArray⟩ : ByteArray) ++ ⟨#[61]⟩ ++ ⟨(escL x.t.data.toList).toArray⟩ ++ ⟨#[10]⟩) = ⟨(lineL x).toArray⟩ by
    apply ByteArray.ext; simp [lineL]]
  exact List.size_toArray

set_option maxRecDepth 100000 in
set_option maxHeartbeats 4000000 in
theorem print_any (q : Option Addr) (l : List Ent) (n cap : Nat) (w : World) (hn : l.length = n) (hc : n ≤ cap) (hm : cap ≤ maxLen) (hq : SlAt entC 13 w q l) (hs : ∀ x ∈ l, x.t.size ≤ maxLen) :
    Calls Try.prog 8 #[.slice q n cap] w fun e w' => e = .returned (.tuple #[.string ⟨(printT l).toArray⟩, .int .i64 (printE l : Nat)]) ∧ Below w.heap.size w w' := by
  have HM := Lib.hid hm
  unfold maxLen at hm
  have HQ := Lib.hid hq
  have HS := Lib.hid hs
  have HN := Lib.hid hn
  clear hq hs hn
  have HB0 := Lib.hid (IsB.fresh w)
  have HW0 : Hid (Below w.heap.size w (w.alloc (.cells #[.pointer none, .slice none 0 0] 67))) := below_alloc1 _ _
  go_enter Try.func8, Try.ntmps8
  go_wp2_with fail
  generalize w.alloc (.cells #[.pointer none, .slice none 0 0] 67) = W0 at *
  go_loopw [10] (fun i wr => ∃ k : Nat, k ≤ n ∧ i = .int .i64 k ∧ Hid (errF l k = 0) ∧ Hid (IsB w.heap.size w.heap.size (Lib.byteCells (linesL (l.take k))) wr) ∧ Hid (Below w.heap.size w wr)) (fun i _ => n - (intOf i).toNat)
  case atStart => exact ⟨0, Nat.zero_le _, rfl, rfl, HB0.out, HW0.out⟩
  case round =>
    obtain ⟨k, hk, rfl, HE, HB, HW⟩ := hrel
    by_cases hlt : k < n
    · have hlt' : (k : Int) < n := by omega
      have hk2 : k < l.length := by rw [HN.out]; exact hlt
      have hkc : (k : Int) ≤ cap := by omega
      obtain ⟨b, ob, hqb, hb, hr⟩ := HQ.out k hk2
      have HQW : Hid (∀ W, Below w.heap.size w W → SlAt entC 13 W q (l.take k)) := fun W hW => (HQ.out.belowB hW (fun a ha => by rw [hqb] at ha; cases ha; exact hb)).take k
      have HR : Hid (wr.rangeAt b (ob + k * 13) (entC l[k])) := range_of_block hr (HW.out.block b hb)
      have hsz := HS.out _ (List.getElem_mem hk2)
      have HLN := Lib.hid (linesL_snoc l k hk2)
      have HES := Lib.hid (errF_step hk2 HE.out)
      have HST : Hid (∀ e, behindE (l.take k) l[k] = e → e ≠ 0 → printE l = e ∧ printT l = []) := fun e he hne => printE_stop hk2 HE.out he hne
      have HX60 : Hid (errF l (k + 1) = 0 → l[k].t.size ≤ 60) := fun h => ((err_text (k := k + 1) (by omega) h).2 k hk2 (by omega)).1
      have HK16 : Hid (errF l (k + 1) = 0 → k + 1 ≤ 16) := fun h => (err_text (k := k + 1) (by omega) h).1
      have HLk : Hid ((l.take k).length = k) := by show (l.take k).length = k; rw [List.length_take]; omega
      have HLL := Lib.hid (lines_le (by omega) HE.out)
      have h1 : (wr.alloc (.cells (entC l[k]).toArray 44)).rangeAt wr.heap.size 0 (entC l[k]) := range_whole (heap_alloc_new _ _)
      have HXR := Lib.hid h1
      have HBW : Hid (Below w.heap.size w (wr.alloc (.cells (entC l[k]).toArray 44))) := HW.out.alloc HW.out.size _
      have HBB : Hid (IsB w.heap.size w.heap.size (Lib.byteCells (linesL (l.take k))) (wr.alloc (.cells (entC l[k]).toArray 44))) := HB.out.below (below_alloc1 _ _)
      have hgl : wr.heap.size < (wr.alloc (.cells (entC l[k]).toArray 44)).heap.size := by simp
      have HGL := Lib.hid hgl
      clear hr h1 hgl HB HW
      subst hqb
      generalize l[k] = x at *
      generalize linesL (l.take k) = A at *
      go_upto_region 5 with (first
        | (with_reducible refine ld_E rfl _ rfl b (ob + k * 13) x rfl HR.out ?_)
        | (refine wl_strn rfl 44 _ _ rfl (entC x).toArray _ _ (sizE'' x) (entC_sz x) (entC_all x) rfl rfl ?_))
      generalize wr.alloc (.cells (entC x).toArray 44) = W1 at *
      generalize wr.heap.size = g at *
      have HBh : Hid (∀ W, Below w.heap.size w W → Calls Try.prog 26 #[.slice (some ⟨b, ob, none⟩) k cap, .agg (entC x).toArray] W fun e w' => e = .returned (.int .i64 (behindE (l.take k) x : Nat)) ∧ Below W.heap.size W w') := fun W hW => behind_any _ (l.take k) x k cap W HLk.out (by omega) HM.out (HQW.out W hW) hsz
      obtain ⟨ee, hee⟩ : ∃ ee, behindE (l.take k) x = ee := ⟨_, rfl⟩
      rw [hee] at HBh HES
      have HST2 := Lib.hid (HST.out ee hee)
      clear hee HST
      simp only [Act.put]
      refine wp_region_quiet_below (by kernel_rfl) (by kernel_rfl) ?_
      repeat (first
        | (with_reducible refine wq_ldr rfl 44 _ rfl g 0 (entC x) _ Try.underlying44 rfl (sizE' x) rfl HXR.out HGL.out ?_; simp only [Act.put, List.setIfInBounds_toArray, List.set_cons_zero, List.set_cons_succ])
        | go_big_quiet_step (with_reducible exact Calls.regrown_of (HBh.out _ (HBW.out.trans ((below_regrown _ _ _).mono HBW.out.size)))))
      refine wpQuiet_nil ?_
      rintro _ ⟨⟨dq, osq⟩, rfl⟩
      have HBW2 : Hid (Below w.heap.size w (Sort.grow (redrawn W1 dq) osq)) := HBW.out.trans ((below_regrown W1 dq osq).mono HBW.out.size)
      have HBB2 : Hid (IsB w.heap.size w.heap.size (Lib.byteCells A) (Sort.grow (redrawn W1 dq) osq)) := HBB.out.below (below_regrown _ _ _)
      have HXR2 : Hid ((Sort.grow (redrawn W1 dq) osq).rangeAt g 0 (entC x)) := range_of_block HXR.out ((below_regrown W1 dq osq).block g HGL.out)
      have HGL2 : Hid (g < (Sort.grow (redrawn W1 dq) osq).heap.size) := Nat.lt_of_lt_of_le HGL.out (below_regrown W1 dq osq).size
      clear HBW HBB HXR HGL HBh HR HQW
      generalize Sort.grow (redrawn W1 dq) osq = W2 at *
      rcases Nat.eq_zero_or_pos ee with rfl | hpos
      · clear HST2
        have hx60 : x.t.size ≤ 60 := HX60.out HES.out
        have HT : Hid (∀ W : World, Calls Try.prog 28 #[.agg (bC x.n)] W fun e w' => e = .returned (.string ⟨(textL x.n).toArray⟩) ∧ Below W.heap.size W w') := fun W => text_any x.n W x.hn
        have HEs : Hid (∀ W : World, Calls Try.prog 29 #[.string x.t] W fun e w' => e = .returned (.string ⟨(escL x.t.data.toList).toArray⟩) ∧ Below W.heap.size W w') := fun W => escape_any x.t W (by omega)
        have HXN := Lib.hid x.hn
        have HXN2 := Lib.hid (ent_name HXR2.out)
        have hxt : W2.cell? ⟨g, 12, none⟩ = some (.string x.t) := by have := ent_text HXR2.out; simpa using this
        have hxt2 := fun d os => cell_regrown hxt d os
        have ht12 : ((⟨(textL x.n).toArray⟩ : ByteArray).size : Int) ≤ 12 := by have := textL_le x; show ((textL x.n).toArray.size : Int) ≤ 12; simp; omega
        have he120 : ((⟨(escL x.t.data.toList).toArray⟩ : ByteArray).size : Int) ≤ 120 := by
          have := escL_le x.t.data.toList
          have h3 : x.t.data.toList.length = x.t.size := by simp
          show ((escL x.t.data.toList).toArray.size : Int) ≤ 120; simp; omega
        have HLC := Lib.hid (line_cells A x)
        have HLS := Lib.hid (line_size x)
        have HLL2 := Lib.hid (line_le x hx60)
        generalize (⟨(textL x.n).toArray⟩ : ByteArray) = tx at *
        generalize (⟨(escL x.t.data.toList).toArray⟩ : ByteArray) = ex at *
        go_upto_region 8 with fail
        refine wp_region_below_tail 9 (by kernel_rfl) (by kernel_rfl) ?_
        simp only [List.take_succ_cons, List.take_zero, List.drop_succ_cons, List.drop_zero]
        repeat (first
          | (with_reducible refine wq_N rfl _ rfl g 0 x.n HXN.out rfl HXN2.out HGL2.out ?_; simp only [Act.put, List.setIfInBounds_toArray, List.set_cons_zero, List.set_cons_succ])
          | go_big_quiet_step (first | (with_reducible exact rg_call HT.out _ _) | (with_reducible exact rg_call HEs.out _ _)))
        refine wpQuiet_nil ?_
        rintro _ ⟨⟨dq2, osq2⟩, rfl⟩
        have HBW3 : Hid (Below w.heap.size w (Sort.grow (redrawn W2 dq2) osq2)) := HBW2.out.trans ((below_regrown W2 dq2 osq2).mono HBW2.out.size)
        have HBB3 : Hid (IsB w.heap.size w.heap.size (Lib.byteCells A) (Sort.grow (redrawn W2 dq2) osq2)) := HBB2.out.below (below_regrown _ _ _)
        clear HBW2 HBB2 HXN2 hxt2 hxt HXR2 HGL2 HT HEs
        generalize Sort.grow (redrawn W2 dq2) osq2 = W3 at *
        have hAl : (Lib.byteCells A).length ≤ 16 * 134 := by
          rw [Lib.byteCells_length]
          have h1 := HLL.out
          have h2 := HK16.out HES.out
          have : k * 134 ≤ 16 * 134 := Nat.mul_le_mul_right _ (by omega)
          omega
        have hls : (tx ++ ⟨#[61]⟩ ++ ex ++ ⟨#[10]⟩ : ByteArray).size ≤ 134 := by rw [HLS.out]; exact HLL2.out
        go_wp2_with (go_at_call 27; (refine (writeStr_any _ _ _ _ _ HBB3.out (by omega)).mono ?_); rintro e w4 ⟨rfl, hu4, hb4⟩)
        go_roundw
        case rel => exact ⟨k + 1, by omega, by go_num, HES.out, .inr (by rw [HLN.out, ← HLC.out]; exact hu4), HBW3.out.trans hb4⟩
        case measure => simp [intOf]; omega
      · obtain ⟨HP1, HP2⟩ := HST2.out (by omega)
        have hne : ¬ (ee : Int) = 0 := by omega
        clear HST2
        go_wp2_with fail
        refine bodyPost_ret (results_tmp2 rfl _ _ _) rfl ?_
        exact ⟨by rw [HP1, HP2]; rfl, HBW2.out⟩
    · obtain rfl : k = n := by omega
      have hll : (linesL (l.take k)).length ≤ k * 134 := lines_le (by rw [HN.out]; exact Nat.le_refl _) HE.out
      have hk16 := (err_text (by rw [HN.out]; exact Nat.le_refl _) HE.out).1
      have hE : Hid (errF l l.length = 0) := by show errF l l.length = 0; rw [HN.out]; exact HE.out
      have hL : l.take k = l := List.take_of_length_le (by rw [HN.out]; exact Nat.le_refl _)
      rw [hL] at HB hll
      clear hL
      have HLen : Hid (∀ W, IsB w.heap.size w.heap.size (Lib.byteCells (linesL l)) W → Calls Try.prog 30 #[.pointer (some ⟨w.heap.size, 0, none⟩)] W fun e w' => e = .returned (.int .i64 ((linesL l).length : Nat)) ∧ w' = W) := fun W hW => by
        have := Try.Builder_Len _ _ _ W hW
        rw [Lib.byteCells_length] at this; exact this
      by_cases h12 : 1200 < (linesL l).length
      · have HP : Hid (printE l = 2 ∧ printT l = []) := by
          have : printE l = 2 := by rw [printE, hE.out, if_pos rfl, if_pos h12]
          exact ⟨this, by rw [printT, this]; rfl⟩
        have h12' : (1200 : Int) < ((linesL l).length : Nat) := by omega
        generalize (linesL l).length = z at *
        go_wp2_with (go_at_call 30; (refine (HLen.out _ HB.out).mono ?_); rintro e w' ⟨rfl, rfl⟩)
        refine bodyPost_ret (results_tmp2 rfl _ _ _) rfl ?_
        exact ⟨by rw [HP.out.1, HP.out.2]; rfl, HW.out⟩
      · have HP : Hid (printE l = 0 ∧ printT l = linesL l) := by
          have : printE l = 0 := by rw [printE, hE.out, if_pos rfl, if_neg h12]
          exact ⟨this, by rw [printT, this]; rfl⟩
        have h12' : ¬ (1200 : Int) < ((linesL l).length : Nat) := by omega
        go_wp2_with (first
          | (go_at_call 30; (refine (HLen.out _ HB.out).mono ?_); rintro e w' ⟨rfl, rfl⟩)
          | (go_at_call 31; (refine (Try.Builder_String_any _ _ _ _ HB.out HW.out.size).mono ?_); rintro e w2 ⟨rfl, hb2⟩))
        refine bodyPost_ret (results_tmp2 rfl _ _ _) rfl ?_
        exact ⟨by rw [HP.out.1, HP.out.2]; rfl, HW.out.trans hb2⟩
end Go.Proofs.Ytpnmficlebnajaa
