/- The document's Parse. -/
import Derived.Test.YtpnmficlebnajaaF6
namespace Go.Proofs.Ytpnmficlebnajaa
open Go.RowKit

/-- Behind a call of the document's Parse. -/
def RParPost (w : World) (r : List Ent × Nat × Nat) (e : Ending) (w' : World) : Prop :=
  Below w.heap.size w w' ∧ ∃ v', e = .returned (.tuple #[v', .int .i64 (r.2.1 : Nat), .int .i64 (r.2.2 : Nat)]) ∧ OwnE rentC 77 2 w' w.heap.size v' (r.1.map toR)
theorem rpar_bad {w w' : World} {s : List UInt8} {n e : Nat} (h : parseS s = ([], n, e)) (hb : Below w.heap.size w w') : RParPost w (parseS s) (.returned (.tuple #[.slice none 0 0, .int .i64 (n : Nat), .int .i64 (e : Nat)])) w' :=
  ⟨hb, _, by rw [h], by rw [h]; exact OwnE.nil _ _⟩
theorem behindE_line {out : List Ent} {l : List UInt8} (h16 : ¬ 16 ≤ out.length) (h : isName (l.take (lineAt l)) = true) :
    behindE out (lineX l) = if 60 < (lineX l).t.size then 2 else match out.getLast? with | some y => if lessL y.n (lineX l).n then 0 else 8 | none => 0 := by
  have hr : rightB (lineX l).n = true := by show rightB (parseN _) = true; rw [parseN, if_pos h]; exact right_pad h
  rw [behindE, if_neg h16, if_neg (by rw [hr]; simp)]
  rfl
theorem ba_eq {a : ByteArray} {l : List UInt8} (h : a.data.toList = l) : a = ⟨l.toArray⟩ := by rw [← h]

set_option maxRecDepth 100000 in
set_option maxHeartbeats 8000000 in
theorem refParse_any (s : ByteArray) (w : World) (hs : s.size ≤ 1000000) :
    Calls Try.prog 14 #[.string s] w fun e w' => RParPost w (parseS s.data.toList) e w' := by
  by_cases hbig : 1200 < s.size
  · have HP : Hid (parseS s.data.toList = ([], 0, 2)) := by show parseS _ = _; rw [parseS, if_pos (by rw [size_len]; exact hbig)]
    have hbig' : (1200 : Int) < s.size := by omega
    go_enter Try.func14, Try.ntmps14
    go_wp2_with fail
    refine bodyPost_ret (results_tmp3 rfl _ _ _) rfl ?_
    exact rpar_bad HP.out (Below.refl _ _)
  have hP0 : parseS s.data.toList = parR s.data.toList.length [] s.data.toList := by rw [parseS, if_neg (by rw [size_len]; exact hbig)]
  have HP0 := Lib.hid hP0
  have hbig' : ¬ (1200 : Int) < s.size := by omega
  clear hP0
  go_enter Try.func14, Try.ntmps14
  go_wp2_with fail
  go_loopw [0, 5, 6] (fun t o n wr => ∃ (st : ByteArray) (out : List Ent), t = .string st ∧ n = .int .i64 (out.length : Nat) ∧ st.size ≤ s.size ∧ out.length ≤ 16 ∧ Hid (OwnE rentC 77 2 wr w.heap.size o (out.map toR)) ∧ Hid (parseS s.data.toList = parR st.data.toList.length out st.data.toList) ∧ Hid (∀ x ∈ out, rightB x.n = true) ∧ Hid (Below w.heap.size w wr)) (fun t _ _ _ => strLen t)
  case atStart => exact ⟨s, [], rfl, rfl, Nat.le_refl _, Nat.zero_le _, OwnE.nil _ _, HP0.out, fun x hx => by simp at hx, Below.refl _ _⟩
  case round =>
    obtain ⟨st, out, rfl, rfl, hst, hol, HO, HP, HRt, HW⟩ := hrel
    clear HP0
    rcases Nat.eq_zero_or_pos st.size with h0 | hpos
    · have HP' : Hid (parseS s.data.toList = (out, 0, 0)) := by
        obtain rfl := ba_nil h0
        exact HP.out
      have h0' : ¬ (0 : Int) < st.size := by omega
      clear h0
      go_wp2_with fail
      refine bodyPost_ret (results_tmp3 rfl _ _ _) rfl ?_
      exact ⟨HW.out, _, by rw [HP'.out]; rfl, by rw [HP'.out]; exact HO.out⟩
    have hpos' : (0 : Int) < st.size := by omega
    have HNE := Lib.hid (ba_ne hpos)
    have HI : Hid (∀ W, Calls Try.prog 38 #[.string st, .int .u8 10] W fun e w' => e = .returned (.int .i64 (Lib.indexByte st.data.toList 10)) ∧ W = w') := fun W => find_any st 10 W (by omega)
    have HSt : Hid (stepE out st.data.toList = if Lib.indexByte st.data.toList 10 < 0 then 4 else if 16 ≤ out.length then 2 else if lineE (st.data.toList.take (cutAt st.data.toList)) ≠ 0 then lineE (st.data.toList.take (cutAt st.data.toList)) else behindE out (lineX (st.data.toList.take (cutAt st.data.toList)))) := rfl
    have HBad : Hid (∀ e, stepE out st.data.toList = e → e ≠ 0 → parseS s.data.toList = ([], out.length, e)) := fun e he hne => by rw [HP.out, parR_bad HNE.out he hne]
    have hol' : (out.length : Int) ≤ 16 := by omega
    by_cases h1 : Lib.indexByte st.data.toList 10 < 0
    · rw [if_pos h1] at HSt
      have HB := Lib.hid (HBad.out 4 HSt.out (by omega))
      have h1' := h1
      clear h1
      generalize Lib.indexByte st.data.toList 10 = p at *
      go_wp2_with (go_at_call 38; (refine (HI.out _).mono ?_); rintro e w1 ⟨rfl, rfl⟩)
      refine bodyPost_ret (results_tmp3 rfl _ _ _) rfl ?_
      exact rpar_bad HB.out HW.out
    rw [if_neg h1] at HSt
    obtain ⟨k, k1, k2, k3, k4, k5⟩ := idx_some h1
    have hcut : cutAt st.data.toList = k := k2
    rw [k1] at HI
    rw [hcut] at HSt
    have hks : k < st.size := by simpa using k3
    have hks' : (k : Int) < st.size := by omega
    by_cases h16 : 16 ≤ out.length
    · rw [if_pos h16] at HSt
      have HB := Lib.hid (HBad.out 2 HSt.out (by omega))
      have h16' : (16 : Int) ≤ out.length := by omega
      clear k1 k2 k3 k4 k5 h1 hcut
      go_wp2_with (go_at_call 38; (refine (HI.out _).mono ?_); rintro e w1 ⟨rfl, rfl⟩)
      refine bodyPost_ret (results_tmp3 rfl _ _ _) rfl ?_
      exact rpar_bad HB.out HW.out
    rw [if_neg h16] at HSt
    have H16 := Lib.hid h16
    have h16' : (out.length : Int) < 16 := by omega
    have hL : (st.extract 0 k).data.toList = st.data.toList.take k := ext_front st k
    have HOk : Hid (stepE out st.data.toList = 0 → parseS s.data.toList = parR (st.extract (k + 1) st.size).data.toList.length (out ++ [lineX (st.data.toList.take k)]) (st.extract (k + 1) st.size).data.toList) := fun h => by
      rw [HP.out, parR_ok HNE.out h, hcut, ext_back]
    have hsz2 : (st.extract (k + 1) st.size).size < st.size := by rw [ByteArray.size_extract]; omega
    have hlbs : (st.extract 0 k).size = k := by rw [ByteArray.size_extract]; omega
    clear k1 k2 k3 k4 k5 h1 hcut HP HNE h16
    rw [← hL] at HSt HOk
    clear hL
    generalize hlb : st.extract 0 k = lb at *
    have hlb1 : lb.size ≤ 1000000 := by omega
    clear hlbs
    have HI2 : Hid (∀ W, Calls Try.prog 38 #[.string lb, .int .u8 61] W fun e w' => e = .returned (.int .i64 (Lib.indexByte lb.data.toList 61)) ∧ W = w') := fun W => find_any lb 61 W hlb1
    by_cases h2 : Lib.indexByte lb.data.toList 61 < 0
    · have hle : lineE lb.data.toList = 3 := by rw [lineE, if_pos h2]
      rw [hle, if_pos (by omega)] at HSt
      have HB := Lib.hid (HBad.out 3 HSt.out (by omega))
      have h2' := h2
      clear h2 hle HSt HOk HBad
      generalize Lib.indexByte lb.data.toList 61 = p at *
      go_wp2_with (first
        | (go_at_call 38; (with_reducible refine (HI.out _).mono ?_); rintro e w1 ⟨rfl, rfl⟩)
        | (go_at_call 38; (with_reducible refine (HI2.out _).mono ?_); rintro e w1 ⟨rfl, rfl⟩))
      refine bodyPost_ret (results_tmp3 rfl _ _ _) rfl ?_
      exact rpar_bad HB.out HW.out
    obtain ⟨j, j1, j2, j3, j4, j5⟩ := idx_some h2
    have hat : lineAt lb.data.toList = j := j2
    have HLE : Hid (lineE lb.data.toList = if isName (lb.data.toList.take j) = false then 15 else if unOk (lb.data.toList.drop (j + 1)) = false then 3 else 0) := by
      show lineE _ = _
      rw [lineE, if_neg h2, hat]
    have HXN : Hid ((lineX lb.data.toList).n = parseN (lb.data.toList.take j)) := by show parseN _ = _; rw [hat]
    have HXT : Hid ((lineX lb.data.toList).t = unT (lb.data.toList.drop (j + 1))) := by show unT _ = _; rw [hat]
    have HBL : Hid (isName (lb.data.toList.take j) = true → behindE out (lineX lb.data.toList) = if 60 < (lineX lb.data.toList).t.size then 2 else match out.getLast? with | some y => if lessL y.n (lineX lb.data.toList).n then 0 else 8 | none => 0) := fun h => behindE_line H16.out (by rw [hat]; exact h)
    rw [j1] at HI2
    have hjs : j < lb.size := by simpa using j3
    have hjs' : (j : Int) < lb.size := by omega
    have hL1 : (lb.extract 0 j).data.toList = lb.data.toList.take j := ext_front lb j
    have hL2 : (lb.extract (j + 1) lb.size).data.toList = lb.data.toList.drop (j + 1) := ext_back lb (j + 1)
    have hs1 : (lb.extract 0 j).size ≤ maxLen := by rw [ByteArray.size_extract]; unfold maxLen; omega
    have hs2 : (lb.extract (j + 1) lb.size).size ≤ 1000000 := by rw [ByteArray.size_extract]; omega
    have HXs := Lib.hid (lineX_small lb.data.toList)
    rw [← hL1] at HLE HXN HBL
    rw [← hL2] at HLE HXT
    clear j1 j2 j3 j4 j5 h2 hat hL1 hL2
    generalize lineX lb.data.toList = x at *
    generalize lineE lb.data.toList = le at *
    generalize hnm : lb.extract 0 j = nm at *
    generalize htx : lb.extract (j + 1) lb.size = tx at *
    have HIs : Hid (∀ W : World, Calls Try.prog 32 #[.string nm] W fun e w' => e = .returned (.bool (isName nm.data.toList)) ∧ W = w') := fun W => is_any nm W hs1
    have HRd : Hid (∀ W : World, Calls Try.prog 39 #[.string tx] W fun e w' => e = .returned (.tuple #[.string (unT tx.data.toList), .bool (unOk tx.data.toList)]) ∧ Below W.heap.size W w') := fun W => read_any tx W hs2
    cases hn : isName nm.data.toList
    · rw [hn] at HIs HLE
      rw [if_pos rfl] at HLE
      rw [HLE.out, if_pos (by omega)] at HSt
      have HB := Lib.hid (HBad.out 15 HSt.out (by omega))
      clear hn HSt HOk HBad HBL HLE HRd
      go_wp2_with (first
        | (go_at_call 38; (with_reducible refine (HI.out _).mono ?_); rintro e w1 ⟨rfl, rfl⟩)
        | (go_at_call 38; (with_reducible refine (HI2.out _).mono ?_); rintro e w1 ⟨rfl, rfl⟩)
        | (go_at_call 32; (with_reducible refine (HIs.out _).mono ?_); rintro e w1 ⟨rfl, rfl⟩))
      refine bodyPost_ret (results_tmp3 rfl _ _ _) rfl ?_
      exact rpar_bad HB.out HW.out
    rw [hn] at HIs HLE
    rw [if_neg (by simp)] at HLE
    have HNm := Lib.hid hn
    have HBL' := Lib.hid (HBL.out hn)
    clear hn HBL
    cases hu : unOk tx.data.toList
    · rw [hu] at HRd HLE
      rw [if_pos rfl] at HLE
      rw [HLE.out, if_pos (by omega)] at HSt
      have HB := Lib.hid (HBad.out 3 HSt.out (by omega))
      clear hu HSt HOk HBad HBL' HLE
      go_wp2_with (first
        | (go_at_call 38; (with_reducible refine (HI.out _).mono ?_); rintro e w1 ⟨rfl, rfl⟩)
        | (go_at_call 38; (with_reducible refine (HI2.out _).mono ?_); rintro e w1 ⟨rfl, rfl⟩)
        | (go_at_call 32; (with_reducible refine (HIs.out _).mono ?_); rintro e w1 ⟨rfl, rfl⟩)
        | (go_at_call 39; (with_reducible refine (HRd.out _).mono ?_); rintro e w1 ⟨rfl, hb1⟩))
      refine bodyPost_ret (results_tmp3 rfl _ _ _) rfl ?_
      exact rpar_bad HB.out (HW.out.trans (hb1.mono HW.out.size))
    rw [hu] at HRd HLE
    rw [if_neg (by simp)] at HLE
    rw [HLE.out, if_neg (by simp), HBL'.out] at HSt
    have hxs : x.t.size ≤ 1000000 := by have := HXs.out HLE.out; rw [size_len] at this; omega
    rw [← HXT.out] at HRd
    have hxs' : (x.t.size : Int) ≤ 1000000 := by omega
    clear hu HXs HLE HXT HBL'
    by_cases h60 : 60 < x.t.size
    · rw [if_pos h60] at HSt
      have HB := Lib.hid (HBad.out 2 HSt.out (by omega))
      have h60' : (60 : Int) < x.t.size := by omega
      clear h60 HSt HOk HBad
      go_wp2_with (first
        | (go_at_call 38; (with_reducible refine (HI.out _).mono ?_); rintro e w1 ⟨rfl, rfl⟩)
        | (go_at_call 38; (with_reducible refine (HI2.out _).mono ?_); rintro e w1 ⟨rfl, rfl⟩)
        | (go_at_call 32; (with_reducible refine (HIs.out _).mono ?_); rintro e w1 ⟨rfl, rfl⟩)
        | (go_at_call 39; (with_reducible refine (HRd.out _).mono ?_); rintro e w1 ⟨rfl, hb1⟩))
      refine bodyPost_ret (results_tmp3 rfl _ _ _) rfl ?_
      exact rpar_bad HB.out (HW.out.trans (hb1.mono HW.out.size))
    rw [if_neg h60] at HSt
    have h60' : (x.t.size : Int) ≤ 60 := by omega
    have HXR : Hid (toR x = ⟨nm, x.t⟩) := by
      show toR x = _
      have h1 : x.n = pad nm.data.toList := by rw [HXN.out, parseN, if_pos HNm.out]
      rw [toR, textQ, h1, if_pos (right_pad HNm.out), text_pad HNm.out, ← ba_eq rfl]
    have HXP : Hid (rightB x.n = true) := by
      show rightB x.n = true
      rw [HXN.out, parseN, if_pos HNm.out]; exact right_pad HNm.out
    have HPd : Hid (∀ W : World, Calls Try.prog 34 #[.string nm] W fun e w' => e = .returned (.agg (bC x.n)) ∧ Below W.heap.size W w') := fun W => by
      have := pad_any nm W hs1
      rw [HXN.out, parseN, if_pos HNm.out]; exact this
    have HRt2 : Hid (∀ y ∈ out ++ [x], rightB y.n = true) := by
      intro y hy
      rcases List.mem_append.1 hy with h | h
      · exact HRt.out y h
      · rw [List.mem_singleton] at h; rw [h]; exact HXP.out
    have HMp : Hid ((out ++ [x]).map toR = out.map toR ++ [⟨nm, x.t⟩]) := by
      show _ = _
      rw [List.map_append, ← HXR.out]; rfl
    have HLn : Hid ((out ++ [x]).length = out.length + 1) := by show _ = _; simp
    obtain ⟨q, cap, hv, hoc, hom, hoq, hoq'⟩ := HO.out.at rentC_len
    have HQ := Lib.hid hoq
    have hH16 : out.length < 16 := by omega
    rw [List.length_map] at hv hoc
    clear hoq hoq' h60 HXN
    generalize hon : out.length = n at *
    have HON := Lib.hid hon
    clear hon H16
    subst hv
    have hkd0 : n = 0 → decide (0 < n) = false := fun h => by subst h; rfl
    rcases (show n = 0 ∨ ∃ m, m + 1 = n from (Nat.eq_zero_or_pos n).elim .inl fun h => .inr ⟨n - 1, by omega⟩) with h0 | ⟨m, hmk⟩
    case' inl =>
      have hkd := hkd0 h0
      have HS0 : Hid (stepE out st.data.toList = 0) := by
        show _ = 0
        have : out = [] := List.length_eq_zero_iff.1 (by rw [HON.out, h0])
        rw [HSt.out, this]; rfl
      clear hkd0 h0 HSt HBad
      go_upto_region 24 with (first
        | (go_at_call 38; (with_reducible refine (HI.out _).mono ?_); rintro e w1 ⟨rfl, rfl⟩)
        | (go_at_call 38; (with_reducible refine (HI2.out _).mono ?_); rintro e w1 ⟨rfl, rfl⟩)
        | (go_at_call 32; (with_reducible refine (HIs.out _).mono ?_); rintro e w1 ⟨rfl, rfl⟩)
        | (go_at_call 39; (with_reducible refine (HRd.out _).mono ?_); rintro e w1 ⟨rfl, hb1⟩))
      refine wp_region_quiet_below (by kernel_rfl) (by kernel_rfl) ?_
      repeat go_big_quiet_step (fail)
      refine wpQuiet_nil ?_
      rintro _ ⟨⟨dq, osq⟩, rfl⟩
    case' inr =>
      have hym : m < out.length := by rw [HON.out]; omega
      have hymm : m < (out.map toR).length := by rw [List.length_map]; exact hym
      obtain ⟨b, ob, rfl, hb, hr⟩ := HQ.out m hymm
      rw [List.getElem_map] at hr
      have hcy : wr.cell? ⟨b, ob + m * 2, none⟩ = some (.string ⟨(textQ out[m].n).toArray⟩) := (rentC_cells hr).1
      have hry : rightB out[m].n = true := HRt.out _ (List.getElem_mem hym)
      have HYL := textQ_le out[m]
      have HPy : Hid (∀ W : World, Calls Try.prog 34 #[.string ⟨(textQ out[m].n).toArray⟩] W fun e w' => e = .returned (.agg (bC out[m].n)) ∧ Below W.heap.size W w') := fun W => by
        have := pad_any ⟨(textQ out[m].n).toArray⟩ W (by show (textQ out[m].n).toArray.size ≤ maxLen; unfold maxLen; simp; omega)
        rw [show (⟨(textQ out[m].n).toArray⟩ : ByteArray).data.toList = textQ out[m].n from rfl, padQ hry] at this
        exact this
      have hlast : out.getLast? = some out[m] := by
        rw [List.getLast?_eq_getElem?, HON.out, show n - 1 = m by omega, List.getElem?_eq_getElem hym]
      rw [hlast] at HSt
      have HS2 : Hid (stepE out st.data.toList = if lessL out[m].n x.n = true then 0 else 8) := HSt.out
      have HL : Hid (∀ W : World, Calls Try.prog 33 #[.agg (bC out[m].n), .agg (bC x.n)] W fun e w' => e = .returned (.bool (lessL out[m].n x.n)) ∧ Below W.heap.size W w') := fun W => by
        rw [lessL_lessR _ _ (out[m].hn.trans x.hn.symm)]
        exact refLess_any _ _ W out[m].hn x.hn
      have hs1' : IntKind.i64.wrap ((n : Int) - 1) = m := by rw [IntWalk.i64_in _ (by omega)]; omega
      have hkd : decide (0 < n) = true := by simp; omega
      have hkp : (0 : Int) < (n : Int) := by omega
      have hmn : (m : Int) < n := by omega
      have hm0 : (0 : Int) ≤ (m : Int) := by omega
      have HC : Hid (∀ W, Below wr.heap.size wr W → W.cell? ⟨b, ob + m * 2, none⟩ = some (.string ⟨(textQ out[m].n).toArray⟩)) := fun W hW => (cellB hW hb).trans hcy
      clear hkd0 HSt hlast hr hcy hry HYL hymm hmk
      generalize out[m].n = yn at *
      generalize (⟨(textQ yn).toArray⟩ : ByteArray) = ty at *
      cases hll : lessL yn x.n
      all_goals
        rw [hll] at HL HS2
        clear hll
        go_upto_region 24 with (first
          | (go_at_call 38; (with_reducible refine (HI.out _).mono ?_); rintro e w1 ⟨rfl, rfl⟩)
          | (go_at_call 38; (with_reducible refine (HI2.out _).mono ?_); rintro e w1 ⟨rfl, rfl⟩)
          | (go_at_call 32; (with_reducible refine (HIs.out _).mono ?_); rintro e w1 ⟨rfl, rfl⟩)
          | (go_at_call 39; (with_reducible refine (HRd.out _).mono ?_); rintro e w1 ⟨rfl, hb1⟩; have hc1 := HC.out _ hb1))
        have hcd := fun d os => cell_regrown hc1 d os
        refine wp_region_quiet_below (by kernel_rfl) (by kernel_rfl) ?_
        repeat go_big_quiet_step (first | (with_reducible exact rg_call HPy.out _ _) | (with_reducible exact rg_call HPd.out _ _) | (with_reducible exact rg_call HL.out _ _))
        refine wpQuiet_nil ?_
        rintro _ ⟨⟨dq, osq⟩, rfl⟩
      · have HB := Lib.hid (HBad.out 8 HS2.out (by omega))
        go_wp2_with fail
        refine bodyPost_ret (results_tmp3 rfl _ _ _) rfl ?_
        exact rpar_bad HB.out (HW.out.trans ((hb1.mono HW.out.size).trans ((below_regrown w1 dq osq).mono (Nat.le_trans HW.out.size hb1.size))))
      have HS0 : Hid (stepE out st.data.toList = 0) := HS2.out
      clear HS2 HBad hc1 hcd
    all_goals
      have HP2 := Lib.hid (HOk.out HS0.out)
      have HB2 : Hid (Below wr.heap.size wr (Sort.grow (redrawn w1 dq) osq)) := hb1.trans ((below_regrown w1 dq osq).mono hb1.size)
      clear hb1 HOk
      have hob : (out.map toR).length ≤ 1000000 := by rw [List.length_map, HON.out]; omega
      generalize Sort.grow (redrawn w1 dq) osq = w2 at *
      go_wp2_with (first
        | ((with_reducible refine bs_R rfl _ rfl ⟨nm, x.t⟩ rfl ?_))
        | (at_builtin; (refine app_R rfl _ _ rfl w.heap.size _ (out.map toR) rfl ((HO.out.below HB2.out).below (below_alloc1 _ _)) w2.heap.size 1 ⟨nm, x.t⟩ rfl (range_whole (heap_alloc_new _ _)) hob (Nat.le_trans HW.out.size (Nat.le_trans HB2.out.size (by simp))) ?_); intro v' w3 ho3 hg3))
      have hb3 : Below w.heap.size w w3 := ((HW.out.trans (HB2.out.mono HW.out.size)).trans ((below_alloc1 w2 _).mono (Nat.le_trans HW.out.size HB2.out.size))).trans (grown_below hg3 (fun g hg => (HO.out.lt g hg).1) (Nat.le_trans HW.out.size (Nat.le_trans HB2.out.size (by simp))))
      go_roundw
      case rel => exact ⟨_, _, rfl, by rw [HLn.out]; go_num, by omega, by rw [HLn.out]; omega, by rw [HMp.out]; exact ho3, HP2.out, HRt2.out, hb3⟩
      case measure => simp only [strLen]; exact hsz2
end Go.Proofs.Ytpnmficlebnajaa
