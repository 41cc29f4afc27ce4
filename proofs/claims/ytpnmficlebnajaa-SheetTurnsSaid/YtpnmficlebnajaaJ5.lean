/- Apply. -/
import Derived.Test.YtpnmficlebnajaaJ4
namespace Go.Proofs.Ytpnmficlebnajaa
open Go.RowKit

theorem wl_delM {ops : Array Oper} {rest : List Oper} {o : Oper} {a : Act} {w : World} {Q : Exit → Act → World → Prop} (hw : Region.wanted o (yielded ops a.tmps) = true) (x y : Operand)
    (ho : o.op = .call { callee := .builtin .delete, args := #[x, y], argTypes := #[84, 40] }) (r : Nat) (hx : a.eval x = .map (some r)) (k : List UInt8) (hy : a.eval y = .agg (bC k)) (hk : k.length = 12) (m : TM) (hs : MapIs w r m) (hn : (getM m k).isSome = true)
    (h : ∀ w', MapIs w' r (delM m k) → Turn [r] w w' → wpList Try.prog ops Q rest (a.put o.dst (.tuple #[])) w') : wpList Try.prog ops Q (o :: rest) a w :=
  wpList_step fun K hK => by
    rw [if_pos hw]
    obtain ⟨ob, h1, h2⟩ := hs.del k hk hn
    unfold Oper.wp
    simp [execOp, ho, resolve, invoke, builtin, hx, hy, h1, Result.andThen]
    exact hK _ _ (h _ h2 (Turn.put r w ob))
theorem chg_cells {w : World} {g o : Nat} {c : Ch} (h : w.rangeAt g o (chC c)) : w.rangeAt g o (bC c.n).toList ∧ w.cell? ⟨g, o + 12, none⟩ = some (.int .i64 c.k) ∧ w.cell? ⟨g, o + 13, none⟩ = some (.string c.was) ∧ w.cell? ⟨g, o + 14, none⟩ = some (.string c.is) :=
  ⟨range_app_left h, h 12 _ (by simp [chC, bC, c.hn]), h 13 _ (by simp [chC, bC, c.hn]), h 14 _ (by simp [chC, bC, c.hn])⟩
/-- What is left to be done. -/
structure AtA (a : List Ent) (cs : List Ch) (k : Nat) (l : List Ent) (m : TM) : Prop where
  up : UpR l
  len : l.length ≤ a.length + k
  tells : Tells m l
  err : applyE a cs = applyE l (cs.drop k)
  out : applyL a cs = applyL l (cs.drop k)
theorem AtA.bad {a : List Ent} {cs : List Ch} {k : Nat} {l : List Ent} {m : TM} (h : AtA a cs k l m) (hk : k < cs.length) {e : Nat} (he : errA l cs[k] = e) (h0 : e ≠ 0) : applyE a cs = e ∧ applyL a cs = [] := by
  have h1 := h.err
  have h2 := h.out
  rw [List.drop_eq_getElem_cons hk] at h1 h2
  rw [applyE, if_neg (by rw [he]; exact h0), he] at h1
  rw [applyL, if_neg (by rw [he]; exact h0)] at h2
  exact ⟨h1, h2⟩
theorem AtA.ok {a : List Ent} {cs : List Ch} {k : Nat} {l : List Ent} {m : TM} (h : AtA a cs k l m) (hk : k < cs.length) (he : errA l cs[k] = 0) (hr : rightB cs[k].n = true) : AtA a cs (k + 1) (nextA l cs[k]) (if cs[k].k = 2 then delM m cs[k].n else putM m cs[k].n cs[k].is) := by
  have h1 := h.err
  have h2 := h.out
  rw [List.drop_eq_getElem_cons hk] at h1 h2
  rw [applyE, if_pos he] at h1
  rw [applyL, if_pos he] at h2
  exact ⟨h.up.next hr, by have := next_le l cs[k]; have := h.len; omega, h.tells.next h.up hr, h1, h2⟩

set_option maxRecDepth 100000 in
set_option maxHeartbeats 8000000 in
theorem apply_any (qa : Option Addr) (a : List Ent) (na ca : Nat) (qc : Option Addr) (cs : List Ch) (nc cc : Nat) (w : World) (hna : a.length = na) (hca : na ≤ ca) (hma : ca ≤ maxLen) (hqa : SlAt entC 13 w qa a) (hnc : cs.length = nc) (hqc : SlAt chC 15 w qc cs)
    (ha : UpR a) (hr : ∀ c ∈ cs, rightB c.n = true) (hla : na ≤ 1000) (hlc : nc ≤ 1000) :
    Calls Try.prog 24 #[.slice qa na ca, .slice qc nc cc] w fun e w' => Below w.heap.size w w' ∧ ∃ v', e = .returned (.tuple #[v', .int .i64 (applyE a cs : Nat)]) ∧ OwnE entC 44 13 w' w.heap.size v' (applyL a cs) := by
  have HTA := Lib.hid (texts_any qa a na ca w hna hca hma hqa)
  have HA0 : Hid (AtA a cs 0 a (putE [] a)) := ⟨ha, by omega, fun n _ => tells_texts ha n, rfl, rfl⟩
  have HQ := Lib.hid hqc
  have HN := Lib.hid hnc
  have HRt := Lib.hid hr
  have HNA := Lib.hid hna
  clear hna hca hma hqa hnc hqc ha hr
  go_enter Try.func24, Try.ntmps24
  go_wp2_with (go_at_call 40; (refine HTA.out.mono ?_); rintro e w1 ⟨r, rfl, hm1, hr1, hb1⟩; have HM1 := Lib.hid hm1; have HR1 := Lib.hid hr1; have HB1 := Lib.hid hb1; clear hm1 hr1 hb1)
  go_loopw [15] (fun i wr => ∃ (k : Nat) (l : List Ent) (m : TM), k ≤ nc ∧ i = .int .i64 k ∧ Hid (AtA a cs k l m) ∧ Hid (MapIs wr r m) ∧ Hid (Below w.heap.size w wr)) (fun i _ => nc - (intOf i).toNat)
  case atStart => exact ⟨0, a, _, Nat.zero_le _, rfl, HA0, HM1, HB1⟩
  case round =>
    obtain ⟨k, l, m, hk, rfl, HA, HM, HW⟩ := hrel
    by_cases hlt : k < nc
    · have hlt' : (k : Int) < nc := by omega
      have hk2 : k < cs.length := by rw [HN.out]; exact hlt
      obtain ⟨bb, ob, rfl, hb, hr⟩ := HQ.out k hk2
      have hbr : bb ≠ r := fun e => by have := HR1.out; omega
      have HR : Hid (wr.rangeAt bb (ob + k * 15) (chC cs[k])) := range_of_block hr (HW.out.block bb hb)
      have HBAD : Hid (∀ e, errA l cs[k] = e → e ≠ 0 → applyE a cs = e ∧ applyL a cs = []) := fun e h1 h2 => HA.out.bad hk2 h1 h2
      have HOK : Hid (errA l cs[k] = 0 → AtA a cs (k + 1) (nextA l cs[k]) (if cs[k].k = 2 then delM m cs[k].n else putM m cs[k].n cs[k].is)) := fun h => HA.out.ok hk2 h (HRt.out _ (List.getElem_mem hk2))
      have hT : getM m cs[k].n = getR l cs[k].n := HA.out.tells _ cs[k].hn
      clear hr HA
      generalize cs[k] = c at *
      have HX12 : Hid (c.n.length = 12) := c.hn
      have hba := below_alloc1 wr (.cells (chC c).toArray 56)
      have HW1 : Hid (Below w.heap.size w (wr.alloc (.cells (chC c).toArray 56))) := HW.out.trans (hba.mono HW.out.size)
      have HM1 : Hid (MapIs (wr.alloc (.cells (chC c).toArray 56)) r m) := HM.out.block (hba.block _ HM.out.lt)
      have hr1 : (wr.alloc (.cells (chC c).toArray 56)).rangeAt wr.heap.size 0 (chC c) := range_whole (heap_alloc_new _ _)
      obtain ⟨hx0, hx1, hx2, hx3⟩ := chg_cells hr1
      have HX1 := Lib.hid hx0
      simp only [Nat.zero_add] at hx1 hx2 hx3
      clear hr1 hba hx0
      go_upto_region 5 with (first
        | (with_reducible refine ld_C rfl _ rfl bb (ob + k * 15) c rfl HR.out ?_)
        | (refine wl_strn rfl 56 _ _ rfl (chC c).toArray _ _ (sizC'' c) (chC_sz c) (chC_all c) rfl rfl ?_))
      generalize wr.alloc (.cells (chC c).toArray 56) = W1 at *
      generalize wr.heap.size = g at *
      have hla := HM1.out.lookOk c.n HX12.out
      rw [hT] at hla
      have HT := Lib.hid hT
      clear hT HM HW
      obtain ⟨cn, hcn, ck, cwas, cis⟩ := c
      simp only at *
      rcases hg : getR l cn with _ | s
      all_goals
        rw [hg] at hla HT
        have HG := Lib.hid hg
        clear hg
      · simp only [Option.getD_none, Option.isSome_none] at hla
        obtain rfl | rfl | rfl | hkk : ck = 2 ∨ ck = 3 ∨ ck = 1 ∨ (¬ ck = 1 ∧ ¬ ck = 2 ∧ ¬ ck = 3) := by omega
        ·
          have HE := Lib.hid (HBAD.out 7 (by simp [errA, HG.out]) (by omega))
          clear HBAD HOK
          go_wp2_with (first | (with_reducible refine ld_N rfl _ rfl g 0 cn HX12.out rfl HX1.out ?_))
          refine bodyPost_ret (results_tmp2 rfl _ _ _) rfl ?_
          refine ⟨HW1.out, .slice none 0 0, ?_, ?_⟩
          · rw [HE.out.1]; rfl
          · rw [HE.out.2]; exact OwnE.nil _ _
        ·
          have HE := Lib.hid (HBAD.out 7 (by simp [errA, HG.out]) (by omega))
          clear HBAD HOK
          go_wp2_with (first | (with_reducible refine ld_N rfl _ rfl g 0 cn HX12.out rfl HX1.out ?_))
          refine bodyPost_ret (results_tmp2 rfl _ _ _) rfl ?_
          refine ⟨HW1.out, .slice none 0 0, ?_, ?_⟩
          · rw [HE.out.1]; rfl
          · rw [HE.out.2]; exact OwnE.nil _ _
        ·
          have HN1 := Lib.hid (HOK.out (by simp [errA, HG.out]))
          clear HBAD HOK
          go_wp2_with (first | (with_reducible refine ld_N rfl _ rfl g 0 cn HX12.out rfl HX1.out ?_) | (refine wl_mu rfl (.tmp 68) (.tmp 70) (.tmp 72) rfl r rfl cn rfl HX12.out cis rfl m HM1.out ?_; intro W2 hm2 ht2))
          have hb2 : Below w.heap.size w W2 := HW1.out.trans (ht2.below (by intro x hx; rw [List.mem_singleton] at hx; rw [hx]; exact HR1.out) HW1.out.size)
          go_roundw
          case rel => exact ⟨k + 1, _, _, by omega, by go_num, HN1, hm2, hb2⟩
          case measure => simp [intOf]; omega
        · obtain ⟨k1, k2, k3⟩ := hkk
          have k4 : ck < 1 ∨ 3 < ck := by omega
          have j1 : (ck == 1) = false := by simpa using k1
          have j2 : (ck == 2) = false := by simpa using k2
          have j3 : (ck == 3) = false := by simpa using k3
          have HE := Lib.hid (HBAD.out 16 (by simp [errA, k1, k2, k3, k4]) (by omega))
          clear HBAD HOK k4
          go_wp2_with (first | (with_reducible refine ld_N rfl _ rfl g 0 cn HX12.out rfl HX1.out ?_))
          refine bodyPost_ret (results_tmp2 rfl _ _ _) rfl ?_
          refine ⟨HW1.out, .slice none 0 0, ?_, ?_⟩
          · rw [HE.out.1]; rfl
          · rw [HE.out.2]; exact OwnE.nil _ _
      · simp only [Option.getD_some, Option.isSome_some] at hla
        obtain rfl | rfl | rfl | hkk : ck = 2 ∨ ck = 3 ∨ ck = 1 ∨ (¬ ck = 1 ∧ ¬ ck = 2 ∧ ¬ ck = 3) := by omega
        · by_cases hs : s = cwas
          · subst hs
            have HN1 := Lib.hid (HOK.out (by simp [errA, HG.out]))
            clear HBAD HOK
            go_wp2_with (first | (with_reducible refine ld_N rfl _ rfl g 0 cn HX12.out rfl HX1.out ?_) | (refine wl_delM rfl (.tmp 56) (.tmp 58) rfl r rfl cn rfl HX12.out m HM1.out (by rw [HT.out]; rfl) ?_; intro W2 hm2 ht2))
            have hb2 : Below w.heap.size w W2 := HW1.out.trans (ht2.below (by intro x hx; rw [List.mem_singleton] at hx; rw [hx]; exact HR1.out) HW1.out.size)
            go_roundw
            case rel => exact ⟨k + 1, _, _, by omega, by go_num, HN1, hm2, hb2⟩
            case measure => simp [intOf]; omega
          · have hne : (s.toList == cwas.toList) = false := by simpa using listS hs
            have HE := Lib.hid (HBAD.out 7 (by simp [errA, HG.out, hs]) (by omega))
            clear HBAD HOK hs
            go_wp2_with (first | (with_reducible refine ld_N rfl _ rfl g 0 cn HX12.out rfl HX1.out ?_))
            refine bodyPost_ret (results_tmp2 rfl _ _ _) rfl ?_
            refine ⟨HW1.out, .slice none 0 0, ?_, ?_⟩
            · rw [HE.out.1]; rfl
            · rw [HE.out.2]; exact OwnE.nil _ _
        · by_cases hs : s = cwas
          · subst hs
            have HN1 := Lib.hid (HOK.out (by simp [errA, HG.out]))
            clear HBAD HOK
            go_wp2_with (first | (with_reducible refine ld_N rfl _ rfl g 0 cn HX12.out rfl HX1.out ?_) | (refine wl_mu rfl (.tmp 68) (.tmp 70) (.tmp 72) rfl r rfl cn rfl HX12.out cis rfl m HM1.out ?_; intro W2 hm2 ht2))
            have hb2 : Below w.heap.size w W2 := HW1.out.trans (ht2.below (by intro x hx; rw [List.mem_singleton] at hx; rw [hx]; exact HR1.out) HW1.out.size)
            go_roundw
            case rel => exact ⟨k + 1, _, _, by omega, by go_num, HN1, hm2, hb2⟩
            case measure => simp [intOf]; omega
          · have hne : (s.toList == cwas.toList) = false := by simpa using listS hs
            have HE := Lib.hid (HBAD.out 7 (by simp [errA, HG.out, hs]) (by omega))
            clear HBAD HOK hs
            go_wp2_with (first | (with_reducible refine ld_N rfl _ rfl g 0 cn HX12.out rfl HX1.out ?_))
            refine bodyPost_ret (results_tmp2 rfl _ _ _) rfl ?_
            refine ⟨HW1.out, .slice none 0 0, ?_, ?_⟩
            · rw [HE.out.1]; rfl
            · rw [HE.out.2]; exact OwnE.nil _ _
        ·
          have HE := Lib.hid (HBAD.out 8 (by simp [errA, HG.out]) (by omega))
          clear HBAD HOK
          go_wp2_with (first | (with_reducible refine ld_N rfl _ rfl g 0 cn HX12.out rfl HX1.out ?_))
          refine bodyPost_ret (results_tmp2 rfl _ _ _) rfl ?_
          refine ⟨HW1.out, .slice none 0 0, ?_, ?_⟩
          · rw [HE.out.1]; rfl
          · rw [HE.out.2]; exact OwnE.nil _ _
        · obtain ⟨k1, k2, k3⟩ := hkk
          have k4 : ck < 1 ∨ 3 < ck := by omega
          have j1 : (ck == 1) = false := by simpa using k1
          have j2 : (ck == 2) = false := by simpa using k2
          have j3 : (ck == 3) = false := by simpa using k3
          have HE := Lib.hid (HBAD.out 16 (by simp [errA, k1, k2, k3, k4]) (by omega))
          clear HBAD HOK k4
          go_wp2_with (first | (with_reducible refine ld_N rfl _ rfl g 0 cn HX12.out rfl HX1.out ?_))
          refine bodyPost_ret (results_tmp2 rfl _ _ _) rfl ?_
          refine ⟨HW1.out, .slice none 0 0, ?_, ?_⟩
          · rw [HE.out.1]; rfl
          · rw [HE.out.2]; exact OwnE.nil _ _
    · obtain rfl : k = nc := by omega
      have HE : Hid (applyE a cs = 0 ∧ applyL a cs = l) := by
        have h1 := HA.out.err
        have h2 := HA.out.out
        rw [List.drop_eq_nil_of_le (by rw [HN.out]; omega)] at h1 h2
        exact ⟨h1, h2⟩
      have HL := Lib.hid (list_any r m l wr HM.out HA.out.tells HA.out.up (by have := HA.out.len; rw [HNA.out] at this; omega))
      go_wp2_with (go_at_call 42; (refine HL.out.mono ?_); rintro e w3 ⟨hb3, v3, rfl, ho3⟩)
      refine bodyPost_ret (results_tmp2 rfl _ _ _) rfl ?_
      refine ⟨HW.out.trans (hb3.mono HW.out.size), v3, ?_, ?_⟩
      · rw [HE.out.1]; rfl
      · rw [HE.out.2]; exact ho3.base HW.out.size
end Go.Proofs.Ytpnmficlebnajaa
