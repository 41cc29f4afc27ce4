/- The document's Parse. -/
import Derived.Test.YtmbbhnbfgcmkgaaDoorR4
namespace Go.Proofs.YtmbbhnbfgcmkgaaDoor
open Go.RowKit

def RPost (w : World) (r : List D4 × Nat × Int) (e : Ending) (w' : World) : Prop := ∃ v, e = .returned (.tuple #[v, .int .i64 (r.2.1 : Nat), .int .i64 r.2.2]) ∧ OwnE d4C 32 4 w' w.heap.size v r.1 ∧ Below w.heap.size w w'
theorem rpar_bad {w w' : World} {r : List D4 × Nat × Int} {n : Nat} {er : Int} (h : r = ([], n, er)) (hb : Below w.heap.size w w') : RPost w r (.returned (.tuple #[.slice none 0 0, .int .i64 (n : Nat), .int .i64 er])) w' :=
  ⟨_, by rw [h], by rw [h]; exact OwnE.nil _ _, hb⟩
theorem ix_ba (st : ByteArray) (k : Nat) (hk : k < st.data.toList.length) (W : World) : (Instr.index 9 (.string st) (.int .i64 (k : Int))).run Tryd.prog W = .ok (.int .u8 ((st.data.toList[k]).toNat : Int)) W := by
  have := ix_any st.data.toList k hk W
  rwa [ba_data] at this
set_option maxRecDepth 100000 in
set_option maxHeartbeats 16000000 in
theorem refParse_any (l : List UInt8) (w : World) (hl : l.length ≤ 1000000) :
    Calls Tryd.prog 18 #[.string ⟨l.toArray⟩] w fun e w' => RPost w (parseL l) e w' := by
  have HP0 : Hid (parseP [] (spl 10 (⟨l.toArray⟩ : ByteArray).data.toList) = parseL l) := rfl
  have hs0 : (⟨l.toArray⟩ : ByteArray).size ≤ 1000000 := by rw [ba_size]; exact hl
  generalize parseL l = res at *
  generalize (⟨l.toArray⟩ : ByteArray) = s at *
  go_enter Tryd.func18, Tryd.ntmps18
  go_wp2_with fail
  go_loopw [0, 5, 6] (fun s v n wr => ∃ (st : ByteArray) (xs : List D4), s = .string st ∧ n = .int .i64 xs.length ∧ st.size ≤ 1000000 ∧ xs.length ≤ 200 ∧ Hid (OwnE d4C 32 4 wr w.heap.size v xs) ∧ Hid (Below w.heap.size w wr) ∧ Hid (parseP xs (spl 10 st.data.toList) = res)) (fun s _ _ _ => strLen s)
  case atStart => exact ⟨s, [], rfl, rfl, hs0, Nat.zero_le _, OwnE.nil _ _, Below.refl _ _, HP0.out⟩
  case round =>
    obtain ⟨st, xs, rfl, rfl, hst, hxl, HO, HW, HP⟩ := hrel
    clear HP0 hs0 hl
    rcases Nat.eq_zero_or_pos st.size with h0 | hpos
    · obtain rfl := ba_nil h0
      have HP' : Hid (res = (xs, 0, 0)) := HP.out.symm
      clear h0
      go_wp2_with fail
      try rw [Exit.noGoto_ret]
      refine bodyPost_ret (results_tmp3 rfl _ _ _) rfl ?_
      exact ⟨_, by rw [HP'.out]; rfl, by rw [HP'.out]; exact HO.out, HW.out⟩
    have hpi : (0 : Int) < st.size := by omega
    have HNe := Lib.hid (ba_ne hpos)
    have hxi : (xs.length : Int) ≤ 200 := by omega
    go_wp2_with fail
    go_loopw [7] (fun i wr2 => wr2 = wr ∧ ∃ k : Nat, i = .int .i64 k ∧ k ≤ st.size ∧ Hid (∀ x ∈ st.data.toList.take k, x ≠ 10)) (fun i _ => st.size - (intOf i).toNat)
    case atStart => exact ⟨rfl, 0, rfl, Nat.zero_le _, fun x hx => by simp at hx⟩
    case round =>
      obtain ⟨rfl, k, rfl, hk, HN⟩ := hrel
      rcases Nat.lt_or_ge k st.size with hlt | hge
      case inr =>
        obtain rfl : k = st.size := by omega
        have HB : Hid (res = ([], xs.length, 4)) := by show _ = _; rw [← HP.out, parse_none (by have := HN.out; rwa [List.take_of_length_le (by simp)] at this) HNe.out]
        have hki : ¬ (st.size : Int) < st.size := by omega
        go_wp2_with fail
        try rw [Exit.noGoto_ret]
        refine bodyPost_ret (results_tmp3 rfl _ _ _) rfl ?_
        exact rpar_bad HB.out HW.out
      have hkl : k < st.data.toList.length := by simpa using hlt
      have hli : (k : Int) < st.size := by omega
      have hix := fun W => ix_ba st k hkl W
      by_cases hc : st.data.toList[k] = 10
      case neg =>
        have hcn : ((st.data.toList[k]).toNat : Int) ≠ 10 := fun e => hc (UInt8.toNat_inj.1 (show (st.data.toList[k]).toNat = 10 by omega))
        have f1 : (((st.data.toList[k]).toNat : Int) != 10) = true := by simpa using hcn
        have f2 : (((st.data.toList[k]).toNat : Int) == 10) = false := by simpa using hcn
        have HN2 : Hid (∀ x ∈ st.data.toList.take (k + 1), x ≠ 10) := fun x hx => by
          rw [List.take_succ_eq_append_getElem hkl] at hx
          rcases List.mem_append.1 hx with hx | hx
          · exact HN.out x hx
          · simp only [List.mem_singleton] at hx; subst hx; exact hc
        clear hc hcn
        generalize st.data.toList[k] = c at *
        go_wp2_with fail
        go_roundw
        case rel => exact ⟨trivial, k + 1, by go_num, by omega, HN2.out⟩
        case measure => simp [intOf]; omega
      case pos =>
        have hc10 : ((st.data.toList[k]).toNat : Int) = 10 := by rw [hc]; rfl
        rw [hc10] at hix
        have HPL : Hid (res = if 200 ≤ xs.length then ([], xs.length, 2) else if (lineL (st.data.toList.take k)).2 ≠ 0 then ([], xs.length, (lineL (st.data.toList.take k)).2) else parseP (xs ++ [(lineL (st.data.toList.take k)).1]) (spl 10 (st.data.toList.drop (k + 1)))) := by
          show _ = _
          have hsp : st.data.toList = st.data.toList.take k ++ 10 :: st.data.toList.drop (k + 1) := by
            rw [← hc, ← List.drop_eq_getElem_cons hkl, List.take_append_drop]
          rw [← HP.out]
          conv => lhs; rw [hsp]
          rw [parse_line _ HN.out]
        have hke : ((k : Int) == st.size) = false := by rw [beq_eq_false_iff_ne]; omega
        have hkne : k ≠ st.size := by omega
        clear hc hc10 hkl HP HN
        by_cases h20 : 200 ≤ xs.length
        · have HB : Hid (res = ([], xs.length, 2)) := by show _ = _; rw [HPL.out, if_pos h20]
          have h20' : (200 : Int) ≤ xs.length := by omega
          go_wp2_with fail
          try rw [Exit.noGoto_ret]
          refine bodyPost_ret (results_tmp3 rfl _ _ _) rfl ?_
          exact rpar_bad HB.out HW.out
        have h20' : ¬ (200 : Int) ≤ xs.length := by omega
        have h20'' : (xs.length : Int) < 200 := by omega
        have KR : Hid (∀ W, Calls Tryd.prog 33 #[.string (st.extract 0 k)] W fun e w' => e = .returned (.tuple #[.agg (d4C (lineL (st.data.toList.take k)).1).toArray, .int .i64 (lineL (st.data.toList.take k)).2]) ∧ Below W.heap.size W w') := fun W => by
          rw [ex_front]
          exact refRead_any _ W (by rw [List.length_take, szl]; omega)
        have HBk : Hid ((st.extract (k + 1) st.size).data.toList = st.data.toList.drop (k + 1)) := ex_back st (k + 1)
        have hsz2 : (st.extract (k + 1) st.size).size < st.size := by rw [ByteArray.size_extract]; omega
        have hks1 : (k : Int) + 1 ≤ st.size := by omega
        have hks0 : 0 ≤ (k : Int) + 1 := by omega
        rw [if_neg h20] at HPL
        generalize st.data.toList.take k = p at *
        by_cases hle : (lineL p).2 = 0
        case neg =>
          have HB : Hid (res = ([], xs.length, (lineL p).2)) := by show _ = _; rw [HPL.out, if_pos hle]
          have e1 : ((lineL p).2 != 0) = true := by simpa using hle
          have e2 : ((lineL p).2 == 0) = false := by simpa using hle
          clear HPL hle
          generalize lineL p = lp at *
          obtain ⟨ld, le⟩ := lp
          simp only at e1 e2 KR HB
          go_wp2_with (first
            | (go_at_call 33; (refine (KR.out _).mono ?_); rintro e w2 ⟨rfl, hb1⟩; have HB2 := Lib.hid ((HW.out.trans (hb1.mono HW.out.size)).alloc (Nat.le_trans HW.out.size hb1.size) (.cells (d4C ld).toArray 32)); clear hb1 KR)
            | ((with_reducible refine gate_st 32 _ _ rfl ?_); refine wl_strn rfl _ _ _ rfl (d4C ld).toArray _ _ sizD4 rfl (by simp [d4C, Value.oneCell']) rfl rfl ?_))
          try rw [Exit.noGoto_ret]
          refine bodyPost_ret (results_tmp3 rfl _ _ _) rfl ?_
          exact rpar_bad HB.out HB2.out
        case pos =>
        have HB : Hid (res = parseP (xs ++ [(lineL p).1]) (spl 10 (st.data.toList.drop (k + 1)))) := by show _ = _; rw [HPL.out, if_neg (fun h => h hle)]
        rw [hle] at KR
        clear HPL hle
        generalize (lineL p).1 = ld at *
        go_wp2_with (first
          | (go_at_call 33; (refine (KR.out _).mono ?_); rintro e w2 ⟨rfl, hb1⟩; have HO2 : Hid (OwnE d4C 32 4 (w2.alloc (.cells (d4C ld).toArray 32)) w.heap.size u5 xs) := (HO.out.below hb1).below (below_alloc1 _ _); have HB2 := Lib.hid ((HW.out.trans (hb1.mono HW.out.size)).alloc (Nat.le_trans HW.out.size hb1.size) (.cells (d4C ld).toArray 32)); clear hb1 KR)
          | ((with_reducible refine gate_st 32 _ _ rfl ?_); refine wl_strn rfl _ _ _ rfl (d4C ld).toArray _ _ sizD4 rfl (by simp [d4C, Value.oneCell']) rfl rfl ?_)
          | (refine ld_D4 rfl _ rfl w2.heap.size 0 ld rfl (range_whole (heap_alloc_new _ _)) ?_)
          | (refine bs_D4 rfl _ rfl ld rfl ?_)
          | (refine app_D4 rfl _ _ rfl w.heap.size _ xs rfl (HO2.out.below (below_alloc1 _ _)) _ _ ld rfl (range_whole (heap_alloc_new _ _)) (by omega) (by have := HB2.out.size; simp at this ⊢; omega) (fun v' wA hoA hgA => ?_); have HO3 := Lib.hid hoA; have HB3 := Lib.hid ((HB2.out.trans ((below_alloc1 _ _).mono HB2.out.size)).trans (grown_below hgA (fun g hg => (HO2.out.lt g hg).1) (Nat.le_trans HB2.out.size (by simp)))); clear hoA hgA))
        go_roundw
        case rel => exact ⟨_, xs ++ [ld], rfl, by simp, by omega, by rw [List.length_append, List.length_singleton]; omega, HO3.out, HB3.out, by show _ = _; rw [HBk.out]; exact HB.out.symm⟩
        case measure => simp only [strLen]; exact hsz2
end Go.Proofs.YtmbbhnbfgcmkgaaDoor
