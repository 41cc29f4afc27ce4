/- CritBits: where two keys differ first, and the bits at which any key leaves others. Printed by gE10.py. -/
import Derived.Test.YtagdedjclbmlkaaE1
import Derived.Test.YtagdedjclbmlkaaE8
import Derived.Test.YtagdedjclbmlkaaE9
namespace Go.Proofs.Ytagdedjclbmlkaa
open Go.RowKit

theorem exec_neqRKb {a : Act} {o : Oper} (w : World) (x y : Operand) (ho : o.op = .binOp .neq 40 x y 40) (xs ys : List UInt8) (hxs : xs.length = 25) (hys : ys.length = 25) (b : Bool) (hb : (!(xs == ys)) = b) (hx : a.eval x = .agg (rkC xs).toArray) (hy : a.eval y = .agg (rkC ys).toArray) : (execOp a.eval o).run Try.prog w = .ok (.value (.bool b)) w := by
  have hgd : (eqGuard .neq 40 x y (.agg (rkC xs).toArray) (.agg (rkC ys).toArray)).run Try.prog w = .ok () w := run_eqGuard_agg w .neq 40 x y _ _ (by kernel_rfl)
  subst hb
  unfold execOp
  simp only [ho, hx, hy, Sem.run_bind, hgd, neqRK w xs ys hxs hys, Result.andThen_ok, Sem.run_pure]
theorem brL_len (l : List (List UInt8 × Int)) (k : List UInt8) : (brL l k).length ≤ 200 := by
  unfold brL branchL
  split
  · exact Nat.le_trans (List.length_filter_le _ _) (by rw [List.length_range]; omega)
  · simp
theorem sizInt : (Try.prog.info? 3).map (·.size) = some 1 := by kernel_rfl
set_option maxRecDepth 100000 in
set_option maxHeartbeats 32000000 in
theorem CritBits_walk (q0 : Option Addr) (n0 c0 : Nat) (acs : List AC) (ka kb : List UInt8) (w : World) (hn : acs.length = n0) (hn9 : n0 ≤ maxLen) (hq : SlAt acC 27 w q0 acs) (hka : ka.length = 25) (hkb : kb.length = 25) :
    Calls Try.prog 4 #[.slice q0 n0 c0, .agg (bC ka), .agg (bC kb)] w fun e w' => e = .returned (.bool true) ∧ Below w.heap.size w w' := by
  have HA := Lib.hid hka
  have HKb := Lib.hid hkb
  have HB0 := Lib.hid (below_alloc2 w (.cells (bC ka) 30) (.cells (bC kb) 30))
  have HX0 := Lib.hid (heap_alloc2_old w (.cells (bC ka) 30) (.cells (bC kb) 30))
  have HY0 := Lib.hid (heap_alloc2_new w (.cells (bC ka) 30) (.cells (bC kb) 30))
  have hq0 := hq.below HB0.out
  clear hka hkb hq
  go_enter Try.func4, Try.ntmps4
  go_upto_region 1 with fail
  obtain ⟨pa, hpa⟩ : ∃ pa, pa = w.heap.size := ⟨_, rfl⟩
  obtain ⟨pb, hpb⟩ : ∃ pb, pb = w.heap.size + 1 := ⟨_, rfl⟩
  rw [← hpb] at HY0 ⊢
  rw [← hpa] at HX0 ⊢
  generalize ((w.alloc (.cells (bC ka) 30)).alloc (.cells (bC kb) 30)) = W0 at *
  have KM := Lib.hid (made_any q0 n0 c0 40 acs W0 hn hn9 (by omega) hq0)
  clear hpa hpb hq0 hn hn9
  go_upto_region 2 with (go_at_call 18; (refine KM.out.mono ?_); rintro e Wm ⟨tb, q, n, c, ys, o, rfl, hs⟩; have HSm := Lib.hid hs; clear hs)
  have hle := HSm.out.le
  have HXm : Hid (Wm.heap[pa]? = some (.cells (bC ka) 30 (0, 0))) := (HSm.out.bel.block _ (lt_heap HX0.out)).trans HX0.out
  have HYm : Hid (Wm.heap[pb]? = some (.cells (bC kb) 30 (0, 0))) := (HSm.out.bel.block _ (lt_heap HY0.out)).trans HY0.out
  have hxl := lt_heap HXm.out
  have hyl := lt_heap HYm.out
  have KD := Lib.hid (fun W => Differ_any ka kb W HA.out HKb.out)
  have KR := Lib.hid (fun W => rdiffer_any ka kb W HA.out HKb.out)
  have KOa := Lib.hid (fun W => of06_key ka W HA.out)
  have KOb := Lib.hid (fun W => of06_key kb W HKb.out)
  clear KM
  refine wp_region_quiet_below (by kernel_rfl) (by kernel_rfl) ?_
  generalize dI (differ ka kb) = df at *
  repeat (first
    | (with_reducible refine wq_ldr rfl 30 (.tmp 4) rfl pa 0 (bC ka).toList _ Try.underlying30 rfl (by rw [sizKey]; simp [bC, HA.out]) rfl (range_whole (by simpa using HXm.out)) hxl ?_; simp only [Act.put, List.setIfInBounds_toArray, List.set_cons_zero, List.set_cons_succ])
    | (with_reducible refine wq_ldr rfl 30 (.tmp 5) rfl pb 0 (bC kb).toList _ Try.underlying30 rfl (by rw [sizKey]; simp [bC, HKb.out]) rfl (range_whole (by simpa using HYm.out)) hyl ?_; simp only [Act.put, List.setIfInBounds_toArray, List.set_cons_zero, List.set_cons_succ])
    | (refine wq_val (.bool false) rfl (fun w => exec_neI (.tmp 26) (.tmp 31) rfl df rfl rfl) ?_; simp only [Act.put, List.setIfInBounds_toArray, List.set_cons_zero, List.set_cons_succ])
    | go_big_quiet_step (first | (with_reducible exact rg_call KD.out _ _) | (with_reducible exact rg_call KR.out _ _) | (with_reducible exact rg_call KOa.out _ _) | (with_reducible exact rg_call KOb.out _ _)))
  refine wpQuiet_nil ?_
  rintro _ ⟨⟨dq, osq⟩, rfl⟩
  have HS1 := Lib.hid (HSm.out.below (below_regrown Wm dq osq))
  clear HSm HXm HYm hxl hyl KD KR KOa KOb
  generalize Sort.grow (redrawn Wm dq) osq = W1 at *
  have HYl := Lib.hid HS1.out.lst.len
  try simp only [Array.toArray_toList]
  go_wp2_with fail
  go_loopw [10] (fun vi wr => ∃ (j : Nat), j ≤ n + 1 ∧ vi = .int .i64 ((j : Int) - 1) ∧ Hid (Below W1.heap.size W1 wr)) (fun vi _ => n + 1 - (intOf vi + 1).toNat)
  case atStart => exact ⟨0, Nat.zero_le _, rfl, Lib.hid (Below.refl _ _)⟩
  case round =>
    obtain ⟨j, hj, rfl, HBr⟩ := hrel
    by_cases h1 : j < n + 1
    · have h1i : (j : Int) - 1 < n := by omega
      have HXr : Hid (wr.heap[pa]? = some (.cells (bC ka) 30 (0, 0))) := ((HS1.out.below HBr.out).bel.block _ (lt_heap HX0.out)).trans HX0.out
      have HG2 : Hid ((wr.alloc (.cells (bC ka) 30)).heap[wr.heap.size]? = some (.cells (bC ka) 30 (0, 0))) := heap_alloc_new _ _
      have HB2 : Hid (Below W1.heap.size W1 (wr.alloc (.cells (bC ka) 30))) := HBr.out.alloc HBr.out.size _
      have hbs := HBr.out.size
      go_upto_region 8 with (first
        | ((with_reducible refine gate_ld 30 (.tmp 4) rfl ?_); refine wl_ldr rfl 30 _ rfl pa 0 (bC ka).toList _ Try.underlying30 rfl (by rw [sizKey]; simp [bC, HA.out]) rfl (range_whole (by simpa using HXr.out)) ?_)
        | ((with_reducible refine gate_st 30 (.tmp 11) _ rfl ?_); refine wl_strn rfl _ _ _ rfl (bC ka) z25A 30 (by rw [sizKey, bC_size, HA.out]) (by rw [bC_size, HA.out]; rfl) (bC_one ka) (by simp [Act.eval]) rfl ?_))
      try simp only [Act.put]
      obtain ⟨g, hg⟩ : ∃ g, g = wr.heap.size := ⟨_, rfl⟩
      rw [← hg] at HG2 ⊢
      generalize wr.alloc (.cells (bC ka) 30) = W2 at *
      have hgW : W1.heap.size ≤ g := by omega
      clear hg HXr HBr hbs
      by_cases h2 : j = 0
      · subst h2
        have h2i : ¬ (0 : Int) ≤ (((0 : Nat) : Int) - 1) := by omega
        have HS2 := Lib.hid (HS1.out.below HB2.out)
        go_upto_region 11 with fail
        have hbd : Below W2.heap.size W2 W2.drew := ⟨rfl, rfl, rfl, Nat.le_refl _, fun _ _ => rfl⟩
        refine wp_region_held_drew (S := fun w' => Below W2.heap.size W2 w') (by kernel_rfl) hbd (fun _ => ?_)
        show wpAnyH Try.prog Region.Mode.any _ _ _ 9 #[false, false, false, false, false, false, false, false, false] _ _
        generalize W2.drew = Wd at *
        refine takeD (i := 0) (v := ptrA tb) 57 rfl rfl (by kernel_rfl) (by kernel_rfl) (by kernel_rfl) (fun _ _ _ h => h) (Or.inl ⟨rfl, fun w' hS => rfl⟩) hbd ?_
        simp only [Act.put, List.setIfInBounds_toArray, List.set_cons_zero, List.set_cons_succ]
        refine takeD (i := 1) (v := .agg (bC ka)) 58 rfl rfl (by kernel_rfl) (by kernel_rfl) (by kernel_rfl) (fun _ _ _ h => h) (Or.inl ⟨rfl, fun w' hS => exec_ldr 30 (.tmp 11) rfl g 0 (bC ka).toList _ Try.underlying30 rfl (by rw [sizKey]; simp [bC, HA.out]) rfl (range_whole (by simpa using (hS.block _ (lt_heap HG2.out)).trans HG2.out))⟩) hbd ?_
        simp only [Act.put, List.setIfInBounds_toArray, List.set_cons_zero, List.set_cons_succ]
        refine takeD (i := 3) (v := .slice q n c) 60 rfl rfl (by kernel_rfl) (by kernel_rfl) (by kernel_rfl) (fun _ _ _ h => h) (Or.inl ⟨rfl, fun w' hS => rfl⟩) hbd ?_
        simp only [Act.put, List.setIfInBounds_toArray, List.set_cons_zero, List.set_cons_succ]
        refine takeD (i := 4) (v := .agg (bC ka)) 61 rfl rfl (by kernel_rfl) (by kernel_rfl) (by kernel_rfl) (fun _ _ _ h => h) (Or.inl ⟨rfl, fun w' hS => exec_ldr 30 (.tmp 11) rfl g 0 (bC ka).toList _ Try.underlying30 rfl (by rw [sizKey]; simp [bC, HA.out]) rfl (range_whole (by simpa using (hS.block _ (lt_heap HG2.out)).trans HG2.out))⟩) hbd ?_
        simp only [Act.put, List.setIfInBounds_toArray, List.set_cons_zero, List.set_cons_succ]
        refine oneH 2 (by kernel_rfl) (wpOp_call rfl rfl (exec_calls rfl (enters_of Try.func22 (by kernel_rfl) rfl) (vs := #[ptrA tb, .agg (bC ka)]) (by simp [Act.eval]) Wd) (branch_any o ka Wd W0.heap.size tb HA.out (HS2.out.below hbd).tree) ?_)
        rintro e V1 ⟨v1, rfl, ho1, hv1⟩
        have hd1 : Below W2.heap.size W2 V1 := hbd.trans (hv1.mono hbd.size)
        refine ⟨_, rfl, hd1, ?_⟩
        simp only [Act.put, List.setIfInBounds_toArray, List.set_cons_zero, List.set_cons_succ]
        refine oneH 5 (by kernel_rfl) (wpOp_enter rfl rfl (exec_call1 rfl (enters_of Try.func10 (by kernel_rfl) rfl) (x := .tmp 61) (v := .agg (bC ka)) rfl V1) (of06_key ka V1 HA.out) (fun V2 hv2 => ?_))
        have hd2 : Below W2.heap.size W2 V2 := hd1.trans (hv2.mono hd1.size)
        refine ⟨hd2, ?_⟩
        simp only [Act.put, List.setIfInBounds_toArray, List.set_cons_zero, List.set_cons_succ]
        have hs2 := HS2.out.below hd2
        refine oneH 6 (by kernel_rfl) (wpOp_call rfl rfl (exec_calls rfl (enters_of Try.func23 (by kernel_rfl) rfl) (vs := #[.slice q n c, .agg (rkC ka).toArray]) (by simp [Act.eval]) V2) (rbranch_any q n c ys ka V2 hs2.lst.len (by have := hs2.le; omega) HA.out hs2.lst.at_) ?_)
        rintro e V3 ⟨v3, rfl, ho3, hv3⟩
        have hd3 : Below W2.heap.size W2 V3 := hd2.trans (hv3.mono hd2.size)
        refine ⟨_, rfl, hd3, ?_⟩
        simp only [Act.put, List.setIfInBounds_toArray, List.set_cons_zero, List.set_cons_succ]
        refine oneH 7 (by kernel_rfl) (wpOp_as rfl rfl (.tmp 59) rfl v1 rfl ⟨hd3, ?_⟩)
        refine oneH 8 (by kernel_rfl) (wpOp_as rfl rfl (.tmp 63) rfl v3 rfl ⟨hd3, ?_⟩)
        refine wpAnyH_done (by kernel_rfl) ?_ _
        rw [hs2.all] at ho3
        have ho13 : OwnE encI 3 1 V3 Wd.heap.size v1 (brL (allO o) ka) := OwnE.below (OwnE.below ho1 hv2) hv3
        obtain ⟨xq, xc, rfl, _, _, hx1, _⟩ := ho13.at encI_len
        obtain ⟨yq, yc, rfl, _, _, hx3, _⟩ := ho3.at encI_len
        have HXa := Lib.hid hx1
        have HXb := Lib.hid hx3
        have HBV : Hid (Below W1.heap.size W1 V3) := HB2.out.trans (hd3.mono HB2.out.size)
        clear hs2 hd1 hd2 hd3 hv1 hv2 hv3 ho1 ho3 ho13 hx1 hx3 hbd
        simp only [Act.put, List.getElem_toArray, List.getElem_cons_zero, List.getElem_cons_succ, List.setIfInBounds_toArray, List.set_cons_zero, List.set_cons_succ]
        have hbl := brL_len (allO o) ka
        generalize brL (allO o) ka = bl at *
        go_wp2_with fail
        obtain ⟨Wo, rfl⟩ : ∃ Wo, Wo = wr := ⟨_, rfl⟩
        go_loopw [14] (fun vt wr2 => ∃ (t : Nat), t ≤ bl.length ∧ vt = .int .i64 t ∧ Hid (Below V3.heap.size V3 wr2)) (fun vt _ => bl.length - (intOf vt).toNat)
        case atStart => exact ⟨0, Nat.zero_le _, rfl, Below.refl _ _⟩
        case round =>
          obtain ⟨t, ht, rfl, HBt⟩ := hrel
          by_cases h3 : t < bl.length
          · have h3i : (t : Int) < bl.length := by omega
            obtain ⟨xb, xo, rfl, hxb, hxr⟩ := (HXa.out.below HBt.out) t h3
            obtain ⟨yb, yo, rfl, hyb, hyr⟩ := (HXb.out.below HBt.out) t h3
            have hcx : wr.cell? ⟨xb, xo + t * 1, none⟩ = some (.int .i64 (bl[t] : Int)) := by simpa using hxr 0 _ rfl
            have hcy : wr.cell? ⟨yb, yo + t * 1, none⟩ = some (.int .i64 (bl[t] : Int)) := by simpa using hyr 0 _ rfl
            generalize (bl[t] : Int) = bv at *
            clear hxr hyr
            go_upto_region 17 with fail
            refine wp_region_quiet_below (by kernel_rfl) (by kernel_rfl) ?_
            repeat (first
              | (refine wq_ix _ rfl 58 3 (.tmp 75) (.tmp 76) rfl Try.underlying58 1 sizInt xb xo bl.length xc t rfl rfl h3 ?_; simp only [Act.put, List.setIfInBounds_toArray, List.set_cons_zero, List.set_cons_succ])
              | (refine wq_ix _ rfl 58 3 (.tmp 79) (.tmp 80) rfl Try.underlying58 1 sizInt yb yo bl.length yc t rfl rfl h3 ?_; simp only [Act.put, List.setIfInBounds_toArray, List.set_cons_zero, List.set_cons_succ])
              | (refine wq_ld1 rfl 3 (.tmp 77) rfl xb (xo + t * 1) (.int .i64 bv) ag3 rfl hcx hxb ?_; simp only [Act.put, List.setIfInBounds_toArray, List.set_cons_zero, List.set_cons_succ])
              | (refine wq_ld1 rfl 3 (.tmp 81) rfl yb (yo + t * 1) (.int .i64 bv) ag3 rfl hcy hyb ?_; simp only [Act.put, List.setIfInBounds_toArray, List.set_cons_zero, List.set_cons_succ])
              | (refine wq_val (.bool false) rfl (fun w => exec_neI (.tmp 78) (.tmp 82) rfl bv rfl rfl) ?_; simp only [Act.put, List.setIfInBounds_toArray, List.set_cons_zero, List.set_cons_succ])
              | go_big_quiet_step (fail))
            refine wpQuiet_nil ?_
            rintro _ ⟨⟨dq, osq⟩, rfl⟩
            have HB9 : Hid (Below V3.heap.size V3 (Sort.grow (redrawn wr dq) osq)) := HBt.out.trans ((below_regrown wr dq osq).mono HBt.out.size)
            clear hcx hcy hxb hyb
            generalize Sort.grow (redrawn wr dq) osq = W9 at *
            go_wp2_with fail
            go_roundw
            case rel => exact ⟨t + 1, by omega, by go_num, HB9⟩
            case measure => simp [intOf]; omega
          · have h3i : ¬ (t : Int) < bl.length := by omega
            have HBf : Hid (Below W1.heap.size W1 wr) := HBV.out.trans (HBt.out.mono HBV.out.size)
            go_wp2_with fail
            go_roundw
            case rel => exact ⟨1, by omega, by simp, HBf⟩
            case measure => simp [intOf] <;> omega
      · obtain ⟨i, rfl⟩ : ∃ i, j = i + 1 := ⟨j - 1, by omega⟩
        have hji : ((i + 1 : Nat) : Int) - 1 = (i : Int) := by omega
        rw [hji] at h1i ⊢
        have h2i : (0 : Int) ≤ (i : Int) := by omega
        have hin : i < n := by omega
        have hil : i < ys.length := by rw [HYl.out]; exact hin
        have HS2 := Lib.hid (HS1.out.below HB2.out)
        obtain ⟨y, hy⟩ : ∃ y, y = ys[i] := ⟨_, rfl⟩
        obtain ⟨qb, qo, rfl, hqb, hqr⟩ := HS2.out.lst.at_ i hil
        rw [← hy] at hqr
        have HRq := Lib.hid (re_key hqr)
        have HLy := y.hk
        clear hqr hy h2
        go_upto_region 10 with (first
          | ((with_reducible refine gate_ld 40 (.tmp 46) rfl ?_); refine wl_ldr rfl 40 _ rfl qb (qo + i * 26) (rkC y.k) _ Try.underlying40 rfl (by rw [sizRK, rkC_len HLy]) rfl HRq.out ?_)
          | (go_at_call 21; (refine (to06_any y.k W2 HLy).mono ?_); rintro e W3 ⟨k', hk', rfl, hb3⟩; have HK' := Lib.hid hk'; have HB3 := Lib.hid (HB2.out.trans (hb3.mono HB2.out.size)); have HG3 := Lib.hid ((hb3.block _ (lt_heap HG2.out)).trans HG2.out); have HR3 := Lib.hid (range_of_block HRq.out (hb3.block _ hqb)); have hq3 := Nat.lt_of_lt_of_le hqb hb3.size; clear hb3 hk')
          | ((with_reducible refine gate_st 30 (.tmp 11) _ rfl ?_); refine wl_str rfl 30 (.tmp 11) (.tmp 48) rfl g (bC k') (bC ka) 30 (by rw [sizKey, bC_size, HK'.out]) (by rw [bC_size, bC_size, HA.out, HK'.out]) (bC_one k') rfl rfl HG3.out ?_))
        try simp only [Act.put]
        have HG4 := Lib.hid (setRow_at (cs := bC k') HG3.out)
        have HB4 : Hid (Below W1.heap.size W1 (W3.setRow g (bC k'))) := setRow_below HB3.out hgW _
        have hqg : qb ≠ g := by
          intro e
          have h5 := HS1.out.lst.lt _ rfl
          simp only at h5
          omega
        have HR4 : Hid ((W3.setRow g (bC k')).rangeAt qb (qo + i * 26) (rkC y.k)) := range_of_block HR3.out (setRow_other _ _ _ _ hqg)
        have hq4 : qb < (W3.setRow g (bC k')).heap.size := by simpa using hq3
        clear HRq hqb HB2 HG2 HS2 HB3 HG3 HR3 hq3
        generalize W3.setRow g (bC k') = W4 at *
        have hg4 := lt_heap HG4.out
        have KO := Lib.hid (fun W => of06_key k' W HK'.out)
        obtain ⟨nb, hnb⟩ : ∃ nb, (!(k' == y.k)) = nb := ⟨_, rfl⟩
        have HNb := Lib.hid hnb
        clear hnb
        refine wp_region_quiet_below (by kernel_rfl) (by kernel_rfl) ?_
        repeat (first
          | (with_reducible refine wq_ldr rfl 30 (.tmp 11) rfl g 0 (bC k').toList _ Try.underlying30 rfl (by rw [sizKey]; simp [bC, HK'.out]) rfl (range_whole (by simpa using HG4.out)) hg4 ?_; simp only [Act.put, List.setIfInBounds_toArray, List.set_cons_zero, List.set_cons_succ])
          | (refine wq_ix _ rfl 33 57 (.tmp 51) (.tmp 52) rfl Try.underlying33 26 sizRE qb qo n c i rfl rfl hin ?_; simp only [Act.put, List.setIfInBounds_toArray, List.set_cons_zero, List.set_cons_succ])
          | (with_reducible refine wq_ldr rfl 40 (.tmp 54) rfl qb (qo + i * 26) (rkC y.k) _ Try.underlying40 rfl (by rw [sizRK, rkC_len HLy]) rfl HR4.out hq4 ?_; simp only [Act.put, List.setIfInBounds_toArray, List.set_cons_zero, List.set_cons_succ])
          | (refine wq_val (.bool nb) rfl (fun w => exec_neqRKb w (.tmp 50) (.tmp 55) rfl _ _ HK'.out HLy nb HNb.out rfl rfl) ?_; simp only [Act.put, List.setIfInBounds_toArray, List.set_cons_zero, List.set_cons_succ])
          | go_big_quiet_step (first | (exact rg_call KO.out _ _)))
        refine wpQuiet_nil ?_
        rintro _ ⟨⟨dq, osq⟩, rfl⟩
        have hb5 := below_regrown W4 dq osq
        have HB5 : Hid (Below W1.heap.size W1 (Sort.grow (redrawn W4 dq) osq)) := HB4.out.trans (hb5.mono HB4.out.size)
        have HG5 : Hid ((Sort.grow (redrawn W4 dq) osq).heap[g]? = some (.cells (bC k') 30 (0, 0))) := (hb5.block _ hg4).trans HG4.out
        clear hb5 HB4 HG4 HR4 hq4 hg4 KO
        generalize Sort.grow (redrawn W4 dq) osq = W5 at *
        have HS5 := Lib.hid (HS1.out.below HB5.out)
        cases nb with
        | true =>
          go_wp2_with fail
          go_roundw
          case rel => exact ⟨i + 1 + 1, by omega, by go_num, HB5⟩
          case measure => simp [intOf]; omega
        | false =>
          go_upto_region 11 with fail
          have hbd : Below W5.heap.size W5 W5.drew := ⟨rfl, rfl, rfl, Nat.le_refl _, fun _ _ => rfl⟩
          refine wp_region_held_drew (S := fun w' => Below W5.heap.size W5 w') (by kernel_rfl) hbd (fun _ => ?_)
          show wpAnyH Try.prog Region.Mode.any _ _ _ 9 #[false, false, false, false, false, false, false, false, false] _ _
          generalize W5.drew = Wd at *
          refine takeD (i := 0) (v := ptrA tb) 57 rfl rfl (by kernel_rfl) (by kernel_rfl) (by kernel_rfl) (fun _ _ _ h => h) (Or.inl ⟨rfl, fun w' hS => rfl⟩) hbd ?_
          simp only [Act.put, List.setIfInBounds_toArray, List.set_cons_zero, List.set_cons_succ]
          refine takeD (i := 1) (v := .agg (bC k')) 58 rfl rfl (by kernel_rfl) (by kernel_rfl) (by kernel_rfl) (fun _ _ _ h => h) (Or.inl ⟨rfl, fun w' hS => exec_ldr 30 (.tmp 11) rfl g 0 (bC k').toList _ Try.underlying30 rfl (by rw [sizKey]; simp [bC, HK'.out]) rfl (range_whole (by simpa using (hS.block _ (lt_heap HG5.out)).trans HG5.out))⟩) hbd ?_
          simp only [Act.put, List.setIfInBounds_toArray, List.set_cons_zero, List.set_cons_succ]
          refine takeD (i := 3) (v := .slice (some ⟨qb, qo, none⟩) n c) 60 rfl rfl (by kernel_rfl) (by kernel_rfl) (by kernel_rfl) (fun _ _ _ h => h) (Or.inl ⟨rfl, fun w' hS => rfl⟩) hbd ?_
          simp only [Act.put, List.setIfInBounds_toArray, List.set_cons_zero, List.set_cons_succ]
          refine takeD (i := 4) (v := .agg (bC k')) 61 rfl rfl (by kernel_rfl) (by kernel_rfl) (by kernel_rfl) (fun _ _ _ h => h) (Or.inl ⟨rfl, fun w' hS => exec_ldr 30 (.tmp 11) rfl g 0 (bC k').toList _ Try.underlying30 rfl (by rw [sizKey]; simp [bC, HK'.out]) rfl (range_whole (by simpa using (hS.block _ (lt_heap HG5.out)).trans HG5.out))⟩) hbd ?_
          simp only [Act.put, List.setIfInBounds_toArray, List.set_cons_zero, List.set_cons_succ]
          refine oneH 2 (by kernel_rfl) (wpOp_call rfl rfl (exec_calls rfl (enters_of Try.func22 (by kernel_rfl) rfl) (vs := #[ptrA tb, .agg (bC k')]) (by simp [Act.eval]) Wd) (branch_any o k' Wd W0.heap.size tb HK'.out (HS5.out.below hbd).tree) ?_)
          rintro e V1 ⟨v1, rfl, ho1, hv1⟩
          have hd1 : Below W5.heap.size W5 V1 := hbd.trans (hv1.mono hbd.size)
          refine ⟨_, rfl, hd1, ?_⟩
          simp only [Act.put, List.setIfInBounds_toArray, List.set_cons_zero, List.set_cons_succ]
          refine oneH 5 (by kernel_rfl) (wpOp_enter rfl rfl (exec_call1 rfl (enters_of Try.func10 (by kernel_rfl) rfl) (x := .tmp 61) (v := .agg (bC k')) rfl V1) (of06_key k' V1 HK'.out) (fun V2 hv2 => ?_))
          have hd2 : Below W5.heap.size W5 V2 := hd1.trans (hv2.mono hd1.size)
          refine ⟨hd2, ?_⟩
          simp only [Act.put, List.setIfInBounds_toArray, List.set_cons_zero, List.set_cons_succ]
          have hs2 := HS5.out.below hd2
          refine oneH 6 (by kernel_rfl) (wpOp_call rfl rfl (exec_calls rfl (enters_of Try.func23 (by kernel_rfl) rfl) (vs := #[.slice (some ⟨qb, qo, none⟩) n c, .agg (rkC k').toArray]) (by simp [Act.eval]) V2) (rbranch_any (some ⟨qb, qo, none⟩) n c ys k' V2 hs2.lst.len (by have := hs2.le; omega) HK'.out hs2.lst.at_) ?_)
          rintro e V3 ⟨v3, rfl, ho3, hv3⟩
          have hd3 : Below W5.heap.size W5 V3 := hd2.trans (hv3.mono hd2.size)
          refine ⟨_, rfl, hd3, ?_⟩
          simp only [Act.put, List.setIfInBounds_toArray, List.set_cons_zero, List.set_cons_succ]
          refine oneH 7 (by kernel_rfl) (wpOp_as rfl rfl (.tmp 59) rfl v1 rfl ⟨hd3, ?_⟩)
          refine oneH 8 (by kernel_rfl) (wpOp_as rfl rfl (.tmp 63) rfl v3 rfl ⟨hd3, ?_⟩)
          refine wpAnyH_done (by kernel_rfl) ?_ _
          rw [hs2.all] at ho3
          have ho13 : OwnE encI 3 1 V3 Wd.heap.size v1 (brL (allO o) k') := OwnE.below (OwnE.below ho1 hv2) hv3
          obtain ⟨xq, xc, rfl, _, _, hx1, _⟩ := ho13.at encI_len
          obtain ⟨yq, yc, rfl, _, _, hx3, _⟩ := ho3.at encI_len
          have HXa := Lib.hid hx1
          have HXb := Lib.hid hx3
          have HBV : Hid (Below W1.heap.size W1 V3) := HB5.out.trans (hd3.mono HB5.out.size)
          clear hs2 hd1 hd2 hd3 hv1 hv2 hv3 ho1 ho3 ho13 hx1 hx3 hbd
          simp only [Act.put, List.getElem_toArray, List.getElem_cons_zero, List.getElem_cons_succ, List.setIfInBounds_toArray, List.set_cons_zero, List.set_cons_succ]
          have hbl := brL_len (allO o) k'
          generalize brL (allO o) k' = bl at *
          go_wp2_with fail
          obtain ⟨Wo, rfl⟩ : ∃ Wo, Wo = wr := ⟨_, rfl⟩
          go_loopw [14] (fun vt wr2 => ∃ (t : Nat), t ≤ bl.length ∧ vt = .int .i64 t ∧ Hid (Below V3.heap.size V3 wr2)) (fun vt _ => bl.length - (intOf vt).toNat)
          case atStart => exact ⟨0, Nat.zero_le _, rfl, Below.refl _ _⟩
          case round =>
            obtain ⟨t, ht, rfl, HBt⟩ := hrel
            by_cases h3 : t < bl.length
            · have h3i : (t : Int) < bl.length := by omega
              obtain ⟨xb, xo, rfl, hxb, hxr⟩ := (HXa.out.below HBt.out) t h3
              obtain ⟨yb, yo, rfl, hyb, hyr⟩ := (HXb.out.below HBt.out) t h3
              have hcx : wr.cell? ⟨xb, xo + t * 1, none⟩ = some (.int .i64 (bl[t] : Int)) := by simpa using hxr 0 _ rfl
              have hcy : wr.cell? ⟨yb, yo + t * 1, none⟩ = some (.int .i64 (bl[t] : Int)) := by simpa using hyr 0 _ rfl
              generalize (bl[t] : Int) = bv at *
              clear hxr hyr
              go_upto_region 17 with fail
              refine wp_region_quiet_below (by kernel_rfl) (by kernel_rfl) ?_
              repeat (first
                | (refine wq_ix _ rfl 58 3 (.tmp 75) (.tmp 76) rfl Try.underlying58 1 sizInt xb xo bl.length xc t rfl rfl h3 ?_; simp only [Act.put, List.setIfInBounds_toArray, List.set_cons_zero, List.set_cons_succ])
                | (refine wq_ix _ rfl 58 3 (.tmp 79) (.tmp 80) rfl Try.underlying58 1 sizInt yb yo bl.length yc t rfl rfl h3 ?_; simp only [Act.put, List.setIfInBounds_toArray, List.set_cons_zero, List.set_cons_succ])
                | (refine wq_ld1 rfl 3 (.tmp 77) rfl xb (xo + t * 1) (.int .i64 bv) ag3 rfl hcx hxb ?_; simp only [Act.put, List.setIfInBounds_toArray, List.set_cons_zero, List.set_cons_succ])
                | (refine wq_ld1 rfl 3 (.tmp 81) rfl yb (yo + t * 1) (.int .i64 bv) ag3 rfl hcy hyb ?_; simp only [Act.put, List.setIfInBounds_toArray, List.set_cons_zero, List.set_cons_succ])
                | (refine wq_val (.bool false) rfl (fun w => exec_neI (.tmp 78) (.tmp 82) rfl bv rfl rfl) ?_; simp only [Act.put, List.setIfInBounds_toArray, List.set_cons_zero, List.set_cons_succ])
                | go_big_quiet_step (fail))
              refine wpQuiet_nil ?_
              rintro _ ⟨⟨dq, osq⟩, rfl⟩
              have HB9 : Hid (Below V3.heap.size V3 (Sort.grow (redrawn wr dq) osq)) := HBt.out.trans ((below_regrown wr dq osq).mono HBt.out.size)
              clear hcx hcy hxb hyb
              generalize Sort.grow (redrawn wr dq) osq = W9 at *
              go_wp2_with fail
              go_roundw
              case rel => exact ⟨t + 1, by omega, by go_num, HB9⟩
              case measure => simp [intOf]; omega
            · have h3i : ¬ (t : Int) < bl.length := by omega
              have HBf : Hid (Below W1.heap.size W1 wr) := HBV.out.trans (HBt.out.mono HBV.out.size)
              go_wp2_with fail
              go_roundw
              case rel => exact ⟨i + 1 + 1, by omega, by go_num, HBf⟩
              case measure => simp [intOf] <;> omega
    · have h1i : ¬ (j : Int) - 1 < n := by omega
      go_wp2_with (first
        | (go_at_call 17; (refine (known_any _).mono ?_); rintro e W9 ⟨rfl, hb9⟩; have HB9 := Lib.hid (HBr.out.trans (hb9.mono HBr.out.size)); clear hb9))
      go_ret
      exact ⟨rfl, HB0.out.trans ((HS1.out.bel.trans (HB9.out.mono HS1.out.bel.size)).mono HB0.out.size)⟩
end Go.Proofs.Ytagdedjclbmlkaa
