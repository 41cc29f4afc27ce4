/- Parse. -/
import Derived.Test.YtpnmficlebnajaaF5
import Derived.Test.YtpnmficlebnajaaE10
import Derived.WalkMore
namespace Go.Proofs.Ytpnmficlebnajaa
open Go.RowKit

/-- Behind a call of Parse. -/
def ParPost (w : World) (r : List Ent × Nat × Nat) (e : Ending) (w' : World) : Prop :=
  Below w.heap.size w w' ∧ ∃ v', e = .returned (.tuple #[v', .int .i64 (r.2.1 : Nat), .int .i64 (r.2.2 : Nat)]) ∧ OwnE entC 44 13 w' w.heap.size v' r.1
theorem par_bad {w w' : World} {s : List UInt8} {n e : Nat} (h : parseS s = ([], n, e)) (hb : Below w.heap.size w w') : ParPost w (parseS s) (.returned (.tuple #[.slice none 0 0, .int .i64 (n : Nat), .int .i64 (e : Nat)])) w' :=
  ⟨hb, _, by rw [h], by rw [h]; exact OwnE.nil _ _⟩
def strLen : Value → Nat
  | .string s => s.size
  | _ => 0
theorem size_len (t : ByteArray) : t.data.toList.length = t.size := by simp
theorem ba_nil {t : ByteArray} (h : t.size = 0) : t = ⟨#[]⟩ := by
  apply ByteArray.ext; exact Array.size_eq_zero_iff.1 h
theorem ba_ne {t : ByteArray} (h : 0 < t.size) : t.data.toList ≠ [] := fun e => by
  have := size_len t; rw [e] at this; simp at this; omega
theorem ba_list {t : ByteArray} (h : 0 < t.size) : t.toList.isEmpty = false := by
  rw [ByteArray.toList_eq]
  cases hl : t.data.toList with
  | nil => exact absurd hl (ba_ne h)
  | cons a l => rfl
theorem ext_front (t : ByteArray) (k : Nat) : (t.extract 0 k).data.toList = t.data.toList.take k := by rw [Lib.extract_data, List.drop_zero, Nat.sub_zero]
theorem ext_back (t : ByteArray) (k : Nat) : (t.extract k t.size).data.toList = t.data.toList.drop k := by rw [Lib.extract_data, List.take_of_length_le (by simp)]
theorem lineX_small (l : List UInt8) (h : lineE l = 0) : (lineX l).t.size ≤ l.length := by
  obtain ⟨_, _, h3⟩ := lineE_ok h
  have := unesc_le _ _ _ (Nat.le_refl _) (unOk_some h3)
  rw [size_len, List.length_drop] at this
  show (unT _).size ≤ _
  omega

set_option maxRecDepth 100000 in
set_option maxHeartbeats 4000000 in
theorem sheetParse_any (s : ByteArray) (w : World) (hs : s.size ≤ 1000000) :
    Calls Try.prog 13 #[.string s] w fun e w' => ParPost w (parseS s.data.toList) e w' := by
  by_cases hbig : 1200 < s.size
  · have HP : Hid (parseS s.data.toList = ([], 0, 2)) := by show parseS _ = _; rw [parseS, if_pos (by rw [size_len]; exact hbig)]
    have hbig' : (1200 : Int) < s.size := by omega
    go_enter Try.func13, Try.ntmps13
    go_wp2_with fail
    try go_step3
    go_wp2_with fail
    try rw [Exit.noGoto_ret]
    refine bodyPost_ret (results_tmp3 rfl _ _ _) rfl ?_
    exact par_bad HP.out (Below.refl _ _)
  have hP0 : parseS s.data.toList = parR s.data.toList.length [] s.data.toList := by rw [parseS, if_neg (by rw [size_len]; exact hbig)]
  have HP0 := Lib.hid hP0
  have hbig' : ¬ (1200 : Int) < s.size := by omega
  clear hP0
  go_enter Try.func13, Try.ntmps13
  go_wp2_with fail
  go_step3
  go_wp2_with fail
  go_step3
  go_wp2_with fail
  go_loopw [0, 5] (fun t o wr => ∃ (st : ByteArray) (out : List Ent), t = .string st ∧ st.size ≤ s.size ∧ out.length ≤ 16 ∧ Hid (OwnE entC 44 13 wr w.heap.size o out) ∧ Hid (parseS s.data.toList = parR st.data.toList.length out st.data.toList) ∧ Hid (Below w.heap.size w wr)) (fun t _ _ => strLen t)
  case atStart => exact ⟨s, [], rfl, Nat.le_refl _, Nat.zero_le _, OwnE.nil _ _, HP0.out, Below.refl _ _⟩
  case round =>
    obtain ⟨st, out, rfl, hst, hol, HO, HP, HW⟩ := hrel
    clear HP0
    rcases Nat.eq_zero_or_pos st.size with h0 | hpos
    · obtain rfl := ba_nil h0
      have HP' : Hid (parseS s.data.toList = (out, 0, 0)) := HP.out
      go_wp2_with fail
      try rw [Exit.noGoto_ret]
      refine bodyPost_ret (results_tmp3 rfl _ _ _) rfl ?_
      exact ⟨HW.out, _, by rw [HP'.out]; rfl, by rw [HP'.out]; exact HO.out⟩
    have hpos' : (0 : Int) < st.size := by omega
    have hne := ba_list hpos
    have HNE := Lib.hid (ba_ne hpos)
    have HI : Hid (∀ W, Calls Try.prog 36 #[.string st, .int .u8 10] W fun e w' => e = .returned (.int .i64 (Lib.indexByte st.data.toList 10)) ∧ W = w') := fun W => (Try.strings_IndexByte st 10 W).mono fun _ _ ⟨h1, h2⟩ => ⟨h1, h2.symm⟩
    have HSt : Hid (stepE out st.data.toList = if Lib.indexByte st.data.toList 10 < 0 then 4 else if 16 ≤ out.length then 2 else if lineE (st.data.toList.take (cutAt st.data.toList)) ≠ 0 then lineE (st.data.toList.take (cutAt st.data.toList)) else behindE out (lineX (st.data.toList.take (cutAt st.data.toList)))) := rfl
    have HBad : Hid (∀ e, stepE out st.data.toList = e → e ≠ 0 → parseS s.data.toList = ([], out.length, e)) := fun e he hne => by rw [HP.out, parR_bad HNE.out he hne]
    obtain ⟨q, cap, rfl, hoc, hom, hoq, hoq'⟩ := HO.out.at entC_len
    have HOQ := Lib.hid hoq
    clear hoq hoq' hpos
    have hol' : (out.length : Int) ≤ 16 := by omega
    by_cases h1 : Lib.indexByte st.data.toList 10 < 0
    · rw [if_pos h1] at HSt
      have HB := Lib.hid (HBad.out 4 HSt.out (by omega))
      have h1' := h1
      clear h1
      generalize Lib.indexByte st.data.toList 10 = p at *
      go_wp2_with (go_at_call 36; (refine (HI.out _).mono ?_); rintro e w1 ⟨rfl, rfl⟩)
      try rw [Exit.noGoto_ret]
      refine bodyPost_ret (results_tmp3 rfl _ _ _) rfl ?_
      exact par_bad HB.out HW.out
    rw [if_neg h1] at HSt
    obtain ⟨k, k1, k2, k3, k4, k5⟩ := idx_some h1
    have hcut : cutAt st.data.toList = k := k2
    rw [k1] at HI
    rw [hcut] at HSt
    have hks : k < st.size := by simpa using k3
    have hks' : (k : Int) < st.size := by omega
    by_cases h16 : 16 ≤ out.length
    · rw [if_pos h16] at HSt
      have HB := Lib.hid (HBad.out 2 HSt.out (by omega))
      have h16' : (16 : Int) ≤ out.length := by omega
      clear k1 k2 k3 k4 k5 h1 hcut
      go_wp2_with (go_at_call 36; (refine (HI.out _).mono ?_); rintro e w1 ⟨rfl, rfl⟩)
      try rw [Exit.noGoto_ret]
      refine bodyPost_ret (results_tmp3 rfl _ _ _) rfl ?_
      exact par_bad HB.out HW.out
    rw [if_neg h16] at HSt
    have h16' : (out.length : Int) < 16 := by omega
    have HL : Hid (∀ W, Calls Try.prog 37 #[.string (st.extract 0 k)] W fun e w' => e = .returned (.tuple #[.agg (entC (lineR (st.data.toList.take k))).toArray, .int .i64 (lineE (st.data.toList.take k) : Nat)]) ∧ Below W.heap.size W w') := fun W => by
      have := line_any (st.extract 0 k) W (by rw [ByteArray.size_extract]; omega)
      rwa [ext_front] at this
    have HXs := Lib.hid (lineX_small (st.data.toList.take k))
    have hlk : (st.data.toList.take k).length ≤ 1000000 := by rw [List.length_take]; omega
    have HOk : Hid (stepE out st.data.toList = 0 → parseS s.data.toList = parR (st.extract (k + 1) st.size).data.toList.length (out ++ [lineX (st.data.toList.take k)]) (st.extract (k + 1) st.size).data.toList) := fun h => by
      rw [HP.out, parR_ok HNE.out h, hcut, ext_back]
    have hsz2 : (st.extract (k + 1) st.size).size < st.size := by rw [ByteArray.size_extract]; omega
    clear k1 k2 k3 k4 k5 h1 hcut HP HNE h16
    generalize st.data.toList.take k = l at *
    by_cases hle : lineE l = 0
    case neg =>
      rw [if_pos hle] at HSt
      have HB := Lib.hid (HBad.out _ HSt.out hle)
      have hle' : (((lineE l : Nat) : Int) == 0) = false := by simpa using hle
      clear hle HOk HSt HBad HXs
      generalize lineE l = le at *
      go_wp2_with (first
        | (go_at_call 36; (refine (HI.out _).mono ?_); rintro e w1 ⟨rfl, rfl⟩)
        | (go_at_call 37; (refine (HL.out _).mono ?_); rintro e w1 ⟨rfl, hb1⟩)
        | ((with_reducible refine gate_st 44 _ _ rfl ?_); refine wl_strn rfl 44 _ _ rfl (entC (lineR l)).toArray _ _ (sizE'' _) (entC_sz _) (entC_all _) rfl rfl ?_))
      try rw [Exit.noGoto_ret]
      refine bodyPost_ret (results_tmp3 rfl _ _ _) rfl ?_
      exact par_bad HB.out (HW.out.trans ((hb1.mono HW.out.size).alloc (Nat.le_trans HW.out.size hb1.size) _))
    case pos =>
    rw [if_neg (by simpa using hle)] at HSt
    have HXs' := HXs.out hle
    rw [hle, lineR, if_pos hle] at HL
    have HL' : Hid (∀ W, Calls Try.prog 37 #[.string (st.extract 0 k)] W fun e w' => e = .returned (.tuple #[.agg (entC (lineX l)).toArray, .int .i64 0]) ∧ Below W.heap.size W w') := HL.out
    clear HL hle HXs
    generalize lineX l = x at *
    have hxm : x.t.size ≤ maxLen := by unfold maxLen; omega
    have HBh : Hid (∀ W, Below wr.heap.size wr W → Calls Try.prog 26 #[.slice q out.length cap, .agg (entC x).toArray] W fun e w' => e = .returned (.int .i64 (behindE out x : Nat)) ∧ Below W.heap.size W w') := fun W hW => behind_any q out x out.length cap W rfl hoc hom (HOQ.out.below hW) hxm
    by_cases hbe : behindE out x = 0
    case neg =>
      have HB := Lib.hid (HBad.out _ HSt.out hbe)
      have hbe' : (((behindE out x : Nat) : Int) == 0) = false := by simpa using hbe
      clear hbe HOk HSt HBad
      generalize behindE out x = be at *
      go_wp2_with (first
        | (go_at_call 36; (refine (HI.out _).mono ?_); rintro e w1 ⟨rfl, rfl⟩)
        | (go_at_call 37; (refine (HL'.out _).mono ?_); rintro e w1 ⟨rfl, hb1⟩; have HB1 : Hid (Below wr.heap.size wr (w1.alloc (.cells (entC x).toArray 44))) := hb1.alloc hb1.size _; clear hb1)
        | ((with_reducible refine gate_st 44 _ _ rfl ?_); refine wl_strn rfl 44 _ _ rfl (entC x).toArray _ _ (sizE'' _) (entC_sz _) (entC_all _) rfl rfl ?_)
        | ((with_reducible refine gate_ld 44 _ rfl ?_); refine ld_E rfl _ rfl w1.heap.size 0 x rfl (range_whole (heap_alloc_new _ _)) ?_)
        | (go_at_call 26; (refine (HBh.out _ HB1.out).mono ?_); rintro e w2 ⟨rfl, hb2⟩; have HB2 : Hid (Below wr.heap.size wr w2) := HB1.out.trans (hb2.mono HB1.out.size); clear hb2))
      try rw [Exit.noGoto_ret]
      refine bodyPost_ret (results_tmp3 rfl _ _ _) rfl ?_
      exact par_bad HB.out (HW.out.trans (HB2.out.mono HW.out.size))
    case pos =>
    have HP2 := Lib.hid (HOk.out (HSt.out.trans hbe))
    rw [hbe] at HBh
    have HBh' : Hid (∀ W, Below wr.heap.size wr W → Calls Try.prog 26 #[.slice q out.length cap, .agg (entC x).toArray] W fun e w' => e = .returned (.int .i64 0) ∧ Below W.heap.size W w') := HBh.out
    clear hbe HOk HSt HBad HBh
    go_wp2_with (first
      | (go_at_call 36; (refine (HI.out _).mono ?_); rintro e w1 ⟨rfl, rfl⟩)
      | (go_at_call 37; (refine (HL'.out _).mono ?_); rintro e w1 ⟨rfl, hb1⟩; have HB1 : Hid (Below wr.heap.size wr (w1.alloc (.cells (entC x).toArray 44))) := hb1.alloc hb1.size _; clear hb1)
      | ((with_reducible refine gate_st 44 _ _ rfl ?_); refine wl_strn rfl 44 _ _ rfl (entC x).toArray _ _ (sizE'' _) (entC_sz _) (entC_all _) rfl rfl ?_)
      | ((with_reducible refine gate_ld 44 (.tmp 7) rfl ?_); refine ld_E rfl _ rfl w1.heap.size 0 x rfl (by first | exact range_whole (heap_alloc_new _ _) | exact HX2.out) ?_)
      | (go_at_call 26; (refine (HBh'.out _ HB1.out).mono ?_); rintro e w2 ⟨rfl, hb2⟩; have HB2 : Hid (Below wr.heap.size wr w2) := HB1.out.trans (hb2.mono HB1.out.size); have HX2 : Hid (w2.rangeAt w1.heap.size 0 (entC x)) := range_of_block (range_whole (heap_alloc_new _ _)) (hb2.block _ (by simp)); clear hb2)
      | ((with_reducible refine bs_E rfl _ rfl x rfl ?_))
      | (at_builtin; (refine app_E rfl _ _ rfl w.heap.size _ out rfl ((HO.out.below HB2.out).below (below_alloc1 _ _)) w2.heap.size 1 x rfl (range_whole (heap_alloc_new _ _)) (by omega) (Nat.le_trans HW.out.size (Nat.le_trans HB2.out.size (by simp))) ?_); intro v' w3 ho3 hg3))
    have hb3 : Below w.heap.size w w3 := ((HW.out.trans (HB2.out.mono HW.out.size)).trans ((below_alloc1 w2 _).mono (Nat.le_trans HW.out.size HB2.out.size))).trans (grown_below hg3 (fun g hg => (HO.out.lt g hg).1) (Nat.le_trans HW.out.size (Nat.le_trans HB2.out.size (by simp))))
    go_roundw
    case rel => exact ⟨_, _, rfl, by omega, by simp; omega, ho3, HP2.out, hb3⟩
    case measure => simp only [strLen]; exact hsz2
end Go.Proofs.Ytpnmficlebnajaa
