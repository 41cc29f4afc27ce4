/- The document's Apply. -/
import Derived.Test.YtpnmficlebnajaaJ8
namespace Go.Proofs.Ytpnmficlebnajaa
open Go.RowKit

/-- What is left to be done. -/
structure AtR (a : List Ent) (cs : List Ch) (k : Nat) (l : List Ent) : Prop where
  up : UpR l
  len : l.length ≤ a.length + k
  err : applyE a cs = applyE l (cs.drop k)
  out : applyL a cs = applyL l (cs.drop k)
theorem AtR.bad {a : List Ent} {cs : List Ch} {k : Nat} {l : List Ent} (h : AtR a cs k l) (hk : k < cs.length) {e : Nat} (he : errA l cs[k] = e) (h0 : e ≠ 0) : applyE a cs = e ∧ applyL a cs = [] := by
  have h1 := h.err
  have h2 := h.out
  rw [List.drop_eq_getElem_cons hk] at h1 h2
  rw [applyE, if_neg (by rw [he]; exact h0), he] at h1
  rw [applyL, if_neg (by rw [he]; exact h0)] at h2
  exact ⟨h1, h2⟩
theorem AtR.ok {a : List Ent} {cs : List Ch} {k : Nat} {l : List Ent} (h : AtR a cs k l) (hk : k < cs.length) (he : errA l cs[k] = 0) (hr : rightB cs[k].n = true) : AtR a cs (k + 1) (nextA l cs[k]) := by
  have h1 := h.err
  have h2 := h.out
  rw [List.drop_eq_getElem_cons hk] at h1 h2
  rw [applyE, if_pos he] at h1
  rw [applyL, if_pos he] at h2
  exact ⟨h.up.next hr, by have := next_le l cs[k]; have := h.len; omega, h1, h2⟩
theorem rch_cells {w : World} {g o : Nat} {c : RCh} (h : w.rangeAt g o (rchC c)) : w.cell? ⟨g, o, none⟩ = some (.string c.n) ∧ w.cell? ⟨g, o + 1, none⟩ = some (.int .i64 c.k) ∧ w.cell? ⟨g, o + 2, none⟩ = some (.string c.was) ∧ w.cell? ⟨g, o + 3, none⟩ = some (.string c.is) :=
  ⟨h 0 _ rfl, h 1 _ rfl, h 2 _ rfl, h 3 _ rfl⟩
theorem builtR (c : REnt) : Try.prog.built 77 [(0, .string c.n), (1, .string c.t)] = some (rentC c).toArray := by
  obtain ⟨n, t⟩ := c
  kernel_rfl
theorem wipe_snoc (l : List Ent) (n : List UInt8) {j : Nat} (h : j < l.length) : (wipe (l.take (j + 1)) n).map toR = (wipe (l.take j) n).map toR ++ if l[j].n == n then [] else [toR l[j]] := by
  rw [wipe, List.take_succ_eq_append_getElem h, List.filter_append, List.map_append]
  cases hb : (l[j].n == n) <;> simp [wipe, hb]

set_option maxRecDepth 100000 in
set_option maxHeartbeats 16000000 in
theorem rapply_any (qa : Option Addr) (a : List Ent) (na ca : Nat) (qc : Option Addr) (cs : List Ch) (nc cc : Nat) (w : World) (hna : a.length = na) (hca : na ≤ ca) (hma : ca ≤ maxLen) (hqa : SlAt rentC 2 w qa (a.map toR)) (hnc : cs.length = nc) (hqc : SlAt rchC 4 w qc (cs.map toRC))
    (ha : UpR a) (hr : ∀ c ∈ cs, rightB c.n = true) (hla : na ≤ 500) (hlc : nc ≤ 400) :
    Calls Try.prog 25 #[.slice qa na ca, .slice qc nc cc] w fun e w' => Below w.heap.size w w' ∧ ∃ q n cap, e = .returned (.tuple #[.slice q n cap, .int .i64 (applyE a cs : Nat)]) ∧ n = (applyL a cs).length ∧ n ≤ cap ∧ cap ≤ maxLen ∧ SlAt rentC 2 w' q ((applyL a cs).map toR) := by
  have HA0 : Hid (AtR a cs 0 a) := ⟨ha, by omega, rfl, rfl⟩
  have HQA := Lib.hid hqa
  have HQ := Lib.hid hqc
  have HN := Lib.hid hnc
  have HRt := Lib.hid hr
  have HNA := Lib.hid hna
  have HCA : Hid (na ≤ ca ∧ ca ≤ maxLen) := ⟨hca, hma⟩
  clear hna hca hma hqa hnc hqc ha hr
  go_enter Try.func25, Try.ntmps25
  go_wp2_with fail
  go_loopw [0, 6] (fun v i wr => ∃ (k : Nat) (l : List Ent) (q : Option Addr) (n cap : Nat), k ≤ nc ∧ i = .int .i64 k ∧ v = .slice q n cap ∧ Hid (l.length = n) ∧ Hid (n ≤ cap ∧ cap ≤ maxLen) ∧ Hid (AtR a cs k l) ∧ Hid (SlAt rentC 2 wr q (l.map toR)) ∧ Hid (Below w.heap.size w wr)) (fun _ i _ => nc - (intOf i).toNat)
  case atStart => exact ⟨0, a, qa, na, ca, Nat.zero_le _, rfl, rfl, HNA, HCA, HA0, HQA, Below.refl _ _⟩
  case round =>
    obtain ⟨k, l, q, n, cap, hk, rfl, rfl, HL, HCP, HA, HQL, HW⟩ := hrel
    by_cases hlt : k < nc
    · have hlt' : (k : Int) < nc := by omega
      have hk0 : (0 : Int) ≤ (k : Int) := by omega
      have hk2 : k < cs.length := by rw [HN.out]; exact hlt
      obtain ⟨bb, ob, rfl, hb, hr⟩ := HQ.out k (by simpa using hk2)
      rw [List.getElem_map] at hr
      have HR : Hid (wr.rangeAt bb (ob + k * 4) (rchC (toRC cs[k]))) := range_of_block hr (HW.out.block bb hb)
      have HBAD : Hid (∀ e, errA l cs[k] = e → e ≠ 0 → applyE a cs = e ∧ applyL a cs = []) := fun e h1 h2 => HA.out.bad hk2 h1 h2
      have HOK : Hid (errA l cs[k] = 0 → AtR a cs (k + 1) (nextA l cs[k])) := fun h => HA.out.ok hk2 h (HRt.out _ (List.getElem_mem hk2))
      have HUL := Lib.hid HA.out.up
      have hln : n ≤ 900 := by have := HA.out.len; rw [HL.out, HNA.out] at this; omega
      have HCR : Hid (rightB cs[k].n = true) := HRt.out _ (List.getElem_mem hk2)
      clear hr HA
      generalize cs[k] = c at *
      have HX12 : Hid (c.n.length = 12) := c.hn
      have hba := below_alloc1 wr (.cells (rchC (toRC c)).toArray 54)
      have HW1 : Hid (Below w.heap.size w (wr.alloc (.cells (rchC (toRC c)).toArray 54))) := HW.out.trans (hba.mono HW.out.size)
      have HQ1 := Lib.hid (HQL.out.below hba)
      have hr1 : (wr.alloc (.cells (rchC (toRC c)).toArray 54)).rangeAt wr.heap.size 0 (rchC (toRC c)) := range_whole (heap_alloc_new _ _)
      have HG1 : Hid (wr.heap.size < (wr.alloc (.cells (rchC (toRC c)).toArray 54)).heap.size) := lt_heap (heap_alloc_new _ _)
      have HX1 := Lib.hid hr1
      clear hr1 hba HQL HW
      go_upto_region 5 with (first
        | (with_reducible refine ld_RC rfl _ rfl bb (ob + k * 4) (toRC c) rfl HR.out ?_)
        | (refine wl_strn rfl 54 _ _ rfl (rchC (toRC c)).toArray _ _ (sizRC'' (toRC c)) (rchC_sz (toRC c)) (rchC_all (toRC c)) rfl rfl ?_))
      generalize wr.alloc (.cells (rchC (toRC c)).toArray 54) = W1 at *
      generalize wr.heap.size = g at *
      obtain ⟨hx0, hx1, hx2, hx3⟩ := rch_cells HX1.out
      simp only [Nat.zero_add] at hx1 hx2 hx3
      have KG := Lib.hid (rget_any q l n cap c.n W1 HL.out HCP.out.1 HCP.out.2 HQ1.out HUL.out.right HCR.out)
      unfold getT getB at KG
      obtain ⟨cn, hcn, ck, cwas, cis⟩ := c
      simp only [toRC] at *
      obtain ⟨tn, htn⟩ : ∃ tn, Hid (tq cn = tn) := ⟨_, rfl⟩
      rw [htn.out] at hx0 KG
      rcases hg : getR l cn with _ | s
      all_goals
        rw [hg] at KG
        have HG := Lib.hid hg
        clear hg
      · simp only [Option.getD_none, Option.isSome_none] at KG
        obtain rfl | rfl | rfl | hkk : ck = 2 ∨ ck = 3 ∨ ck = 1 ∨ (¬ ck = 1 ∧ ¬ ck = 2 ∧ ¬ ck = 3) := by omega
        · have HE := Lib.hid (HBAD.out 7 (by simp [errA, HG.out]) (by omega))
          clear HBAD HOK 
          go_wp2_with (first | (go_at_call 41; (with_reducible refine KG.out.mono ?_); rintro e w' ⟨rfl, rfl⟩))
          refine bodyPost_ret (results_tmp2 rfl _ _ _) rfl ?_
          refine ⟨HW1.out, none, 0, 0, ?_, ?_, Nat.le_refl _, by unfold maxLen; omega, ?_⟩
          · rw [HE.out.1]; rfl
          · rw [HE.out.2]; rfl
          · rw [HE.out.2]; exact SlAt.nil _ _
        · have HE := Lib.hid (HBAD.out 7 (by simp [errA, HG.out]) (by omega))
          clear HBAD HOK 
          go_wp2_with (first | (go_at_call 41; (with_reducible refine KG.out.mono ?_); rintro e w' ⟨rfl, rfl⟩))
          refine bodyPost_ret (results_tmp2 rfl _ _ _) rfl ?_
          refine ⟨HW1.out, none, 0, 0, ?_, ?_, Nat.le_refl _, by unfold maxLen; omega, ?_⟩
          · rw [HE.out.1]; rfl
          · rw [HE.out.2]; rfl
          · rw [HE.out.2]; exact SlAt.nil _ _
        · have HN1 := Lib.hid (HOK.out (by simp [errA, HG.out]))
          clear HBAD HOK HX1
          go_wp2_with (first | (go_at_call 41; (with_reducible refine KG.out.mono ?_); rintro e w' ⟨rfl, rfl⟩))
          have HB0 : Hid (Below W1.heap.size W1 W1) := Below.refl _ _
          go_loopw [10, 11] (fun v i wr => ∃ (j : Nat), j ≤ n ∧ i = .int .i64 j ∧ Hid (OwnE rentC 77 2 wr W1.heap.size v ((wipe (l.take j) cn).map toR)) ∧ Hid (Below W1.heap.size W1 wr)) (fun _ i _ => n - (intOf i).toNat)
          case atStart => exact ⟨0, Nat.zero_le _, rfl, OwnE.nil _ _, HB0⟩
          case round =>
            obtain ⟨j, hj, rfl, HO, HV⟩ := hrel
            have hy0 : wr.cell? ⟨g, 0, none⟩ = some (.string tn) := (cellB HV.out HG1.out).trans hx0
            have hy1 : wr.cell? ⟨g, 1, none⟩ = some (.int .i64 1) := (cellB HV.out HG1.out).trans hx1
            have hy3 : wr.cell? ⟨g, 3, none⟩ = some (.string cis) := (cellB HV.out HG1.out).trans hx3
            by_cases hjn : j < n
            · have hjn' : (j : Int) < n := by omega
              have hj0 : (0 : Int) ≤ (j : Int) := by omega
              have hj2 : j < l.length := by rw [HL.out]; exact hjn
              obtain ⟨bl, ol, rfl, hbl, hrl⟩ := HQ1.out j (by simpa using hj2)
              rw [List.getElem_map] at hrl
              have HRl : Hid (wr.rangeAt bl (ol + j * 2) (rentC (toR l[j]))) := range_of_block hrl (HV.out.block bl hbl)
              have hcl0 : wr.cell? ⟨bl, ol + j * 2, none⟩ = some (.string (tq l[j].n)) := (rentC_cells HRl.out).1
              have hbw : bl < wr.heap.size := Nat.lt_of_lt_of_le hbl HV.out.size
              have hcld := fun d os => cell_regrown hcl0 d os
              have hy0d := fun d os => cell_regrown hy0 d os
              have hte : ((tq l[j].n).toList == tn.toList) = (l[j].n == cn) := by rw [← htn.out]; exact tq_eq (HUL.out.right _ (List.getElem_mem hj2)) HCR.out
              have HWS := Lib.hid (wipe_snoc l cn hj2)
              have hol : ((wipe (l.take j) cn).map toR).length ≤ 1000000 := by rw [List.length_map]; exact Nat.le_trans (List.length_filter_le _ _) (by rw [List.length_take]; omega)
              clear hrl
              generalize l[j] = x at *
              generalize (wipe (l.take j) cn).map toR = out at *
              generalize tq x.n = xn at *
              cases heq : (x.n == cn)
              · rw [heq] at hte HWS
                clear heq
                go_upto_region 16 with fail
                refine wp_region_quiet_below (by kernel_rfl) (by kernel_rfl) ?_
                repeat go_big_quiet_step (fail)
                refine wpQuiet_nil ?_
                rintro _ ⟨⟨dq, osq⟩, rfl⟩
                have hbg := below_regrown wr dq osq
                have HV2 : Hid (Below W1.heap.size W1 (Sort.grow (redrawn wr dq) osq)) := HV.out.trans (hbg.mono HV.out.size)
                have HO2 := Lib.hid (HO.out.below hbg)
                have HRl2 : Hid ((Sort.grow (redrawn wr dq) osq).rangeAt bl (ol + j * 2) (rentC (toR x))) := range_of_block HRl.out (hbg.block bl hbw)
                clear hbg HO HV HRl hcld hy0d hcl0 hy0 hy1 hy3
                generalize Sort.grow (redrawn wr dq) osq = W2 at *
                have hWa : Below W1.heap.size W1 (W2.alloc (.cells (rentC (toR x)).toArray 77)) := HV2.out.trans ((below_alloc1 _ _).mono HV2.out.size)
                have hOa := HO2.out.below (below_alloc1 W2 (.cells (rentC (toR x)).toArray 77))
                have hga := heap_alloc_new W2 (.cells (rentC (toR x)).toArray 77)
                have HWa := Lib.hid hWa
                have HOa := Lib.hid hOa
                have HGa := Lib.hid hga
                clear hWa hOa hga
                go_wp2_with (first
                  | (with_reducible refine ld_R rfl _ rfl bl (ol + j * 2) (toR x) rfl HRl2.out ?_)
                  | (refine bs_R rfl _ rfl (toR x) rfl ?_)
                  | (at_builtin; (refine app_R rfl _ _ rfl W1.heap.size _ out rfl HOa.out W2.heap.size 1 (toR x) rfl (range_whole HGa.out) hol HWa.out.size ?_); intro v' w4 ho4 hg4))
                have hb4 : Below W1.heap.size W1 w4 := HWa.out.trans (grown_below hg4 (fun z hz => (HOa.out.lt z hz).1) HWa.out.size)
                go_roundw
                case rel => exact ⟨j + 1, by omega, by go_num, by rw [HWS.out]; exact ho4, hb4⟩
                case measure => simp [intOf]; omega
              · rw [heq] at hte HWS
                clear heq
                go_upto_region 16 with fail
                refine wp_region_quiet_below (by kernel_rfl) (by kernel_rfl) ?_
                repeat go_big_quiet_step (fail)
                refine wpQuiet_nil ?_
                rintro _ ⟨⟨dq, osq⟩, rfl⟩
                have hbg := below_regrown wr dq osq
                have HV2 : Hid (Below W1.heap.size W1 (Sort.grow (redrawn wr dq) osq)) := HV.out.trans (hbg.mono HV.out.size)
                have HO2 := Lib.hid (HO.out.below hbg)
                clear hbg HO HV HRl hcld hy0d hcl0 hy0 hy1 hy3
                generalize Sort.grow (redrawn wr dq) osq = W2 at *
                go_wp2_with fail
                go_roundw
                case rel => exact ⟨j + 1, by omega, by go_num, by rw [HWS.out]; show OwnE _ _ _ _ _ _ (out ++ []); rw [List.append_nil]; exact HO2.out, HV2.out⟩
                case measure => simp [intOf]; omega
            · obtain rfl : j = n := by omega
              have HO2 : Hid (OwnE rentC 77 2 wr W1.heap.size u10 ((wipe l cn).map toR)) := by
                have := HO.out
                rwa [List.take_of_length_le (by rw [HL.out]; omega)] at this
              have HWf : Hid (Below w.heap.size w wr) := HW1.out.trans (HV.out.mono HW1.out.size)
              obtain ⟨q2, cap2, hv2, hc2, hm2, hq2, _⟩ := HO2.out.at rentC_len
              rw [List.length_map] at hv2 hc2
              subst hv2
              obtain ⟨n2, hn2⟩ : ∃ n2, Hid ((wipe l cn).length = n2) := ⟨_, rfl⟩
              rw [hn2.out] at hc2 ⊢
              have HQ2 := Lib.hid hq2
              have hn2l : n2 ≤ 900 := by rw [← hn2.out]; exact Nat.le_trans (List.length_filter_le _ _) (by rw [HL.out]; exact hln)
              clear hq2 HO HO2
              have HU2 := Lib.hid (HUL.out.wipe cn)
              have HOV : Hid (Calls Try.prog 21 #[.slice q2 n2 cap2, .slice (some ⟨wr.heap.size, 0, none⟩) 1 1] (wr.alloc (.cells (rentC ⟨tn, cis⟩).toArray 77)) fun e w' => Below wr.heap.size wr w' ∧ ∃ v', e = .returned v' ∧ OwnE rentC 77 2 w' wr.heap.size v' ((put1 l cn hcn cis).map toR)) := by
                have hal := heap_alloc_new wr (.cells (rentC ⟨tn, cis⟩).toArray 77)
                have hba := below_alloc1 wr (.cells (rentC ⟨tn, cis⟩).toArray 77)
                have := rover_any q2 (wipe l cn) n2 cap2 (some ⟨wr.heap.size, 0, none⟩) [⟨cn, hcn, cis⟩] 1 1 (wr.alloc (.cells (rentC ⟨tn, cis⟩).toArray 77)) hn2.out (HQ2.out.below hba) rfl (fun i hi => by
                  obtain rfl : i = 0 := by simpa using hi
                  refine ⟨wr.heap.size, 0, rfl, lt_heap hal, ?_⟩
                  rw [List.getElem_map]
                  show World.rangeAt _ _ _ (rentC ⟨tq cn, cis⟩)
                  rw [htn.out]
                  exact range_whole hal) HU2.out.right (fun e he => by rw [List.mem_singleton] at he; rw [he]; exact HCR.out) (by omega) (by omega)
                refine this.mono ?_
                rintro e w' ⟨hb, v', rfl, ho⟩
                exact ⟨hba.trans (hb.mono hba.size), v', rfl, ho.base hba.size⟩
              go_wp2_with (first
                | ((with_reducible refine gate_bd 77 #[(0, .tmp 88), (1, .tmp 90)] rfl ?_); refine wl_bd rfl 77 [(0, .tmp 88), (1, .tmp 90)] rfl _ rfl (rentC ⟨tn, cis⟩).toArray (builtR ⟨tn, cis⟩) ?_)
                | (refine bs_R rfl _ rfl ⟨tn, cis⟩ rfl ?_)
                | (go_at_call 21; (with_reducible refine HOV.out.mono ?_); rintro e w5 ⟨hb5, v5, rfl, ho5⟩; obtain ⟨q5, cap5, rfl, hc5, hm5, hq5, hq5'⟩ := ho5.at rentC_len; rw [List.length_map] at hc5))
              have hb6 : Below w.heap.size w w5 := HWf.out.trans (hb5.mono HWf.out.size)
              have hlm : ((put1 l cn hcn cis).map toR).length = (put1 l cn hcn cis).length := List.length_map _
              go_roundw
              case rel => exact ⟨k + 1, put1 l cn hcn cis, q5, _, cap5, by omega, by go_num, rfl, Lib.hid (by first | rfl | exact hlm.symm), Lib.hid (by first | exact ⟨hc5, hm5⟩ | (rw [hlm]; exact ⟨hc5, hm5⟩)), HN1, hq5, hb6⟩
              case measure => simp [intOf]; omega
        · obtain ⟨k1, k2, k3⟩ := hkk
          have k4 : ck < 1 ∨ 3 < ck := by omega
          have j1 : (ck == 1) = false := by simpa using k1
          have j2 : (ck == 2) = false := by simpa using k2
          have j3 : (ck == 3) = false := by simpa using k3
          rcases k4 with k4 | k4
          · have HE16 : errA l ⟨cn, hcn, ck, cwas, cis⟩ = 16 := by simp [errA, k1, k2, k3, k4]
            have HE := Lib.hid (HBAD.out 16 (by exact HE16) (by omega))
            clear HBAD HOK HE16
            go_wp2_with (first | (go_at_call 41; (with_reducible refine KG.out.mono ?_); rintro e w' ⟨rfl, rfl⟩))
            refine bodyPost_ret (results_tmp2 rfl _ _ _) rfl ?_
            refine ⟨HW1.out, none, 0, 0, ?_, ?_, Nat.le_refl _, by unfold maxLen; omega, ?_⟩
            · rw [HE.out.1]; rfl
            · rw [HE.out.2]; rfl
            · rw [HE.out.2]; exact SlAt.nil _ _
          · have k5 : ¬ ck < 1 := by omega
            have HE16 : errA l ⟨cn, hcn, ck, cwas, cis⟩ = 16 := by simp [errA, k1, k2, k3, k4]
            have HE := Lib.hid (HBAD.out 16 (by exact HE16) (by omega))
            clear HBAD HOK HE16
            go_wp2_with (first | (go_at_call 41; (with_reducible refine KG.out.mono ?_); rintro e w' ⟨rfl, rfl⟩))
            refine bodyPost_ret (results_tmp2 rfl _ _ _) rfl ?_
            refine ⟨HW1.out, none, 0, 0, ?_, ?_, Nat.le_refl _, by unfold maxLen; omega, ?_⟩
            · rw [HE.out.1]; rfl
            · rw [HE.out.2]; rfl
            · rw [HE.out.2]; exact SlAt.nil _ _
      · simp only [Option.getD_some, Option.isSome_some] at KG
        obtain rfl | rfl | rfl | hkk : ck = 2 ∨ ck = 3 ∨ ck = 1 ∨ (¬ ck = 1 ∧ ¬ ck = 2 ∧ ¬ ck = 3) := by omega
        · by_cases hs : s = cwas
          · subst hs
            have HN1 := Lib.hid (HOK.out (by simp [errA, HG.out]))
            clear HBAD HOK HX1
            go_wp2_with (first | (go_at_call 41; (with_reducible refine KG.out.mono ?_); rintro e w' ⟨rfl, rfl⟩))
            have HB0 : Hid (Below W1.heap.size W1 W1) := Below.refl _ _
            go_loopw [10, 11] (fun v i wr => ∃ (j : Nat), j ≤ n ∧ i = .int .i64 j ∧ Hid (OwnE rentC 77 2 wr W1.heap.size v ((wipe (l.take j) cn).map toR)) ∧ Hid (Below W1.heap.size W1 wr)) (fun _ i _ => n - (intOf i).toNat)
            case atStart => exact ⟨0, Nat.zero_le _, rfl, OwnE.nil _ _, HB0⟩
            case round =>
              obtain ⟨j, hj, rfl, HO, HV⟩ := hrel
              have hy0 : wr.cell? ⟨g, 0, none⟩ = some (.string tn) := (cellB HV.out HG1.out).trans hx0
              have hy1 : wr.cell? ⟨g, 1, none⟩ = some (.int .i64 2) := (cellB HV.out HG1.out).trans hx1
              have hy3 : wr.cell? ⟨g, 3, none⟩ = some (.string cis) := (cellB HV.out HG1.out).trans hx3
              by_cases hjn : j < n
              · have hjn' : (j : Int) < n := by omega
                have hj0 : (0 : Int) ≤ (j : Int) := by omega
                have hj2 : j < l.length := by rw [HL.out]; exact hjn
                obtain ⟨bl, ol, rfl, hbl, hrl⟩ := HQ1.out j (by simpa using hj2)
                rw [List.getElem_map] at hrl
                have HRl : Hid (wr.rangeAt bl (ol + j * 2) (rentC (toR l[j]))) := range_of_block hrl (HV.out.block bl hbl)
                have hcl0 : wr.cell? ⟨bl, ol + j * 2, none⟩ = some (.string (tq l[j].n)) := (rentC_cells HRl.out).1
                have hbw : bl < wr.heap.size := Nat.lt_of_lt_of_le hbl HV.out.size
                have hcld := fun d os => cell_regrown hcl0 d os
                have hy0d := fun d os => cell_regrown hy0 d os
                have hte : ((tq l[j].n).toList == tn.toList) = (l[j].n == cn) := by rw [← htn.out]; exact tq_eq (HUL.out.right _ (List.getElem_mem hj2)) HCR.out
                have HWS := Lib.hid (wipe_snoc l cn hj2)
                have hol : ((wipe (l.take j) cn).map toR).length ≤ 1000000 := by rw [List.length_map]; exact Nat.le_trans (List.length_filter_le _ _) (by rw [List.length_take]; omega)
                clear hrl
                generalize l[j] = x at *
                generalize (wipe (l.take j) cn).map toR = out at *
                generalize tq x.n = xn at *
                cases heq : (x.n == cn)
                · rw [heq] at hte HWS
                  clear heq
                  go_upto_region 16 with fail
                  refine wp_region_quiet_below (by kernel_rfl) (by kernel_rfl) ?_
                  repeat go_big_quiet_step (fail)
                  refine wpQuiet_nil ?_
                  rintro _ ⟨⟨dq, osq⟩, rfl⟩
                  have hbg := below_regrown wr dq osq
                  have HV2 : Hid (Below W1.heap.size W1 (Sort.grow (redrawn wr dq) osq)) := HV.out.trans (hbg.mono HV.out.size)
                  have HO2 := Lib.hid (HO.out.below hbg)
                  have HRl2 : Hid ((Sort.grow (redrawn wr dq) osq).rangeAt bl (ol + j * 2) (rentC (toR x))) := range_of_block HRl.out (hbg.block bl hbw)
                  clear hbg HO HV HRl hcld hy0d hcl0 hy0 hy1 hy3
                  generalize Sort.grow (redrawn wr dq) osq = W2 at *
                  have hWa : Below W1.heap.size W1 (W2.alloc (.cells (rentC (toR x)).toArray 77)) := HV2.out.trans ((below_alloc1 _ _).mono HV2.out.size)
                  have hOa := HO2.out.below (below_alloc1 W2 (.cells (rentC (toR x)).toArray 77))
                  have hga := heap_alloc_new W2 (.cells (rentC (toR x)).toArray 77)
                  have HWa := Lib.hid hWa
                  have HOa := Lib.hid hOa
                  have HGa := Lib.hid hga
                  clear hWa hOa hga
                  go_wp2_with (first
                    | (with_reducible refine ld_R rfl _ rfl bl (ol + j * 2) (toR x) rfl HRl2.out ?_)
                    | (refine bs_R rfl _ rfl (toR x) rfl ?_)
                    | (at_builtin; (refine app_R rfl _ _ rfl W1.heap.size _ out rfl HOa.out W2.heap.size 1 (toR x) rfl (range_whole HGa.out) hol HWa.out.size ?_); intro v' w4 ho4 hg4))
                  have hb4 : Below W1.heap.size W1 w4 := HWa.out.trans (grown_below hg4 (fun z hz => (HOa.out.lt z hz).1) HWa.out.size)
                  go_roundw
                  case rel => exact ⟨j + 1, by omega, by go_num, by rw [HWS.out]; exact ho4, hb4⟩
                  case measure => simp [intOf]; omega
                · rw [heq] at hte HWS
                  clear heq
                  go_upto_region 16 with fail
                  refine wp_region_quiet_below (by kernel_rfl) (by kernel_rfl) ?_
                  repeat go_big_quiet_step (fail)
                  refine wpQuiet_nil ?_
                  rintro _ ⟨⟨dq, osq⟩, rfl⟩
                  have hbg := below_regrown wr dq osq
                  have HV2 : Hid (Below W1.heap.size W1 (Sort.grow (redrawn wr dq) osq)) := HV.out.trans (hbg.mono HV.out.size)
                  have HO2 := Lib.hid (HO.out.below hbg)
                  clear hbg HO HV HRl hcld hy0d hcl0 hy0 hy1 hy3
                  generalize Sort.grow (redrawn wr dq) osq = W2 at *
                  go_wp2_with fail
                  go_roundw
                  case rel => exact ⟨j + 1, by omega, by go_num, by rw [HWS.out]; show OwnE _ _ _ _ _ _ (out ++ []); rw [List.append_nil]; exact HO2.out, HV2.out⟩
                  case measure => simp [intOf]; omega
              · obtain rfl : j = n := by omega
                have HO2 : Hid (OwnE rentC 77 2 wr W1.heap.size u10 ((wipe l cn).map toR)) := by
                  have := HO.out
                  rwa [List.take_of_length_le (by rw [HL.out]; omega)] at this
                have HWf : Hid (Below w.heap.size w wr) := HW1.out.trans (HV.out.mono HW1.out.size)
                obtain ⟨q2, cap2, hv2, hc2, hm2, hq2, _⟩ := HO2.out.at rentC_len
                rw [List.length_map] at hv2 hc2
                subst hv2
                obtain ⟨n2, hn2⟩ : ∃ n2, Hid ((wipe l cn).length = n2) := ⟨_, rfl⟩
                rw [hn2.out] at hc2 ⊢
                have HQ2 := Lib.hid hq2
                have hn2l : n2 ≤ 900 := by rw [← hn2.out]; exact Nat.le_trans (List.length_filter_le _ _) (by rw [HL.out]; exact hln)
                clear hq2 HO HO2
                go_wp2_with fail
                go_roundw
                case rel => exact ⟨k + 1, wipe l cn, q2, n2, cap2, by omega, by go_num, rfl, hn2, Lib.hid ⟨hc2, hm2⟩, HN1, HQ2, HWf⟩
                case measure => simp [intOf]; omega
          · have hne : (s.toList == cwas.toList) = false := by simpa using listS hs
            have HE := Lib.hid (HBAD.out 7 (by simp [errA, HG.out, hs]) (by omega))
            clear HBAD HOK hs
            go_wp2_with (first | (go_at_call 41; (with_reducible refine KG.out.mono ?_); rintro e w' ⟨rfl, rfl⟩))
            refine bodyPost_ret (results_tmp2 rfl _ _ _) rfl ?_
            refine ⟨HW1.out, none, 0, 0, ?_, ?_, Nat.le_refl _, by unfold maxLen; omega, ?_⟩
            · rw [HE.out.1]; rfl
            · rw [HE.out.2]; rfl
            · rw [HE.out.2]; exact SlAt.nil _ _
        · by_cases hs : s = cwas
          · subst hs
            have HN1 := Lib.hid (HOK.out (by simp [errA, HG.out]))
            clear HBAD HOK HX1
            go_wp2_with (first | (go_at_call 41; (with_reducible refine KG.out.mono ?_); rintro e w' ⟨rfl, rfl⟩))
            have HB0 : Hid (Below W1.heap.size W1 W1) := Below.refl _ _
            go_loopw [10, 11] (fun v i wr => ∃ (j : Nat), j ≤ n ∧ i = .int .i64 j ∧ Hid (OwnE rentC 77 2 wr W1.heap.size v ((wipe (l.take j) cn).map toR)) ∧ Hid (Below W1.heap.size W1 wr)) (fun _ i _ => n - (intOf i).toNat)
            case atStart => exact ⟨0, Nat.zero_le _, rfl, OwnE.nil _ _, HB0⟩
            case round =>
              obtain ⟨j, hj, rfl, HO, HV⟩ := hrel
              have hy0 : wr.cell? ⟨g, 0, none⟩ = some (.string tn) := (cellB HV.out HG1.out).trans hx0
              have hy1 : wr.cell? ⟨g, 1, none⟩ = some (.int .i64 3) := (cellB HV.out HG1.out).trans hx1
              have hy3 : wr.cell? ⟨g, 3, none⟩ = some (.string cis) := (cellB HV.out HG1.out).trans hx3
              by_cases hjn : j < n
              · have hjn' : (j : Int) < n := by omega
                have hj0 : (0 : Int) ≤ (j : Int) := by omega
                have hj2 : j < l.length := by rw [HL.out]; exact hjn
                obtain ⟨bl, ol, rfl, hbl, hrl⟩ := HQ1.out j (by simpa using hj2)
                rw [List.getElem_map] at hrl
                have HRl : Hid (wr.rangeAt bl (ol + j * 2) (rentC (toR l[j]))) := range_of_block hrl (HV.out.block bl hbl)
                have hcl0 : wr.cell? ⟨bl, ol + j * 2, none⟩ = some (.string (tq l[j].n)) := (rentC_cells HRl.out).1
                have hbw : bl < wr.heap.size := Nat.lt_of_lt_of_le hbl HV.out.size
                have hcld := fun d os => cell_regrown hcl0 d os
                have hy0d := fun d os => cell_regrown hy0 d os
                have hte : ((tq l[j].n).toList == tn.toList) = (l[j].n == cn) := by rw [← htn.out]; exact tq_eq (HUL.out.right _ (List.getElem_mem hj2)) HCR.out
                have HWS := Lib.hid (wipe_snoc l cn hj2)
                have hol : ((wipe (l.take j) cn).map toR).length ≤ 1000000 := by rw [List.length_map]; exact Nat.le_trans (List.length_filter_le _ _) (by rw [List.length_take]; omega)
                clear hrl
                generalize l[j] = x at *
                generalize (wipe (l.take j) cn).map toR = out at *
                generalize tq x.n = xn at *
                cases heq : (x.n == cn)
                · rw [heq] at hte HWS
                  clear heq
                  go_upto_region 16 with fail
                  refine wp_region_quiet_below (by kernel_rfl) (by kernel_rfl) ?_
                  repeat go_big_quiet_step (fail)
                  refine wpQuiet_nil ?_
                  rintro _ ⟨⟨dq, osq⟩, rfl⟩
                  have hbg := below_regrown wr dq osq
                  have HV2 : Hid (Below W1.heap.size W1 (Sort.grow (redrawn wr dq) osq)) := HV.out.trans (hbg.mono HV.out.size)
                  have HO2 := Lib.hid (HO.out.below hbg)
                  have HRl2 : Hid ((Sort.grow (redrawn wr dq) osq).rangeAt bl (ol + j * 2) (rentC (toR x))) := range_of_block HRl.out (hbg.block bl hbw)
                  clear hbg HO HV HRl hcld hy0d hcl0 hy0 hy1 hy3
                  generalize Sort.grow (redrawn wr dq) osq = W2 at *
                  have hWa : Below W1.heap.size W1 (W2.alloc (.cells (rentC (toR x)).toArray 77)) := HV2.out.trans ((below_alloc1 _ _).mono HV2.out.size)
                  have hOa := HO2.out.below (below_alloc1 W2 (.cells (rentC (toR x)).toArray 77))
                  have hga := heap_alloc_new W2 (.cells (rentC (toR x)).toArray 77)
                  have HWa := Lib.hid hWa
                  have HOa := Lib.hid hOa
                  have HGa := Lib.hid hga
                  clear hWa hOa hga
                  go_wp2_with (first
                    | (with_reducible refine ld_R rfl _ rfl bl (ol + j * 2) (toR x) rfl HRl2.out ?_)
                    | (refine bs_R rfl _ rfl (toR x) rfl ?_)
                    | (at_builtin; (refine app_R rfl _ _ rfl W1.heap.size _ out rfl HOa.out W2.heap.size 1 (toR x) rfl (range_whole HGa.out) hol HWa.out.size ?_); intro v' w4 ho4 hg4))
                  have hb4 : Below W1.heap.size W1 w4 := HWa.out.trans (grown_below hg4 (fun z hz => (HOa.out.lt z hz).1) HWa.out.size)
                  go_roundw
                  case rel => exact ⟨j + 1, by omega, by go_num, by rw [HWS.out]; exact ho4, hb4⟩
                  case measure => simp [intOf]; omega
                · rw [heq] at hte HWS
                  clear heq
                  go_upto_region 16 with fail
                  refine wp_region_quiet_below (by kernel_rfl) (by kernel_rfl) ?_
                  repeat go_big_quiet_step (fail)
                  refine wpQuiet_nil ?_
                  rintro _ ⟨⟨dq, osq⟩, rfl⟩
                  have hbg := below_regrown wr dq osq
                  have HV2 : Hid (Below W1.heap.size W1 (Sort.grow (redrawn wr dq) osq)) := HV.out.trans (hbg.mono HV.out.size)
                  have HO2 := Lib.hid (HO.out.below hbg)
                  clear hbg HO HV HRl hcld hy0d hcl0 hy0 hy1 hy3
                  generalize Sort.grow (redrawn wr dq) osq = W2 at *
                  go_wp2_with fail
                  go_roundw
                  case rel => exact ⟨j + 1, by omega, by go_num, by rw [HWS.out]; show OwnE _ _ _ _ _ _ (out ++ []); rw [List.append_nil]; exact HO2.out, HV2.out⟩
                  case measure => simp [intOf]; omega
              · obtain rfl : j = n := by omega
                have HO2 : Hid (OwnE rentC 77 2 wr W1.heap.size u10 ((wipe l cn).map toR)) := by
                  have := HO.out
                  rwa [List.take_of_length_le (by rw [HL.out]; omega)] at this
                have HWf : Hid (Below w.heap.size w wr) := HW1.out.trans (HV.out.mono HW1.out.size)
                obtain ⟨q2, cap2, hv2, hc2, hm2, hq2, _⟩ := HO2.out.at rentC_len
                rw [List.length_map] at hv2 hc2
                subst hv2
                obtain ⟨n2, hn2⟩ : ∃ n2, Hid ((wipe l cn).length = n2) := ⟨_, rfl⟩
                rw [hn2.out] at hc2 ⊢
                have HQ2 := Lib.hid hq2
                have hn2l : n2 ≤ 900 := by rw [← hn2.out]; exact Nat.le_trans (List.length_filter_le _ _) (by rw [HL.out]; exact hln)
                clear hq2 HO HO2
                have HU2 := Lib.hid (HUL.out.wipe cn)
                have HOV : Hid (Calls Try.prog 21 #[.slice q2 n2 cap2, .slice (some ⟨wr.heap.size, 0, none⟩) 1 1] (wr.alloc (.cells (rentC ⟨tn, cis⟩).toArray 77)) fun e w' => Below wr.heap.size wr w' ∧ ∃ v', e = .returned v' ∧ OwnE rentC 77 2 w' wr.heap.size v' ((put1 l cn hcn cis).map toR)) := by
                  have hal := heap_alloc_new wr (.cells (rentC ⟨tn, cis⟩).toArray 77)
                  have hba := below_alloc1 wr (.cells (rentC ⟨tn, cis⟩).toArray 77)
                  have := rover_any q2 (wipe l cn) n2 cap2 (some ⟨wr.heap.size, 0, none⟩) [⟨cn, hcn, cis⟩] 1 1 (wr.alloc (.cells (rentC ⟨tn, cis⟩).toArray 77)) hn2.out (HQ2.out.below hba) rfl (fun i hi => by
                    obtain rfl : i = 0 := by simpa using hi
                    refine ⟨wr.heap.size, 0, rfl, lt_heap hal, ?_⟩
                    rw [List.getElem_map]
                    show World.rangeAt _ _ _ (rentC ⟨tq cn, cis⟩)
                    rw [htn.out]
                    exact range_whole hal) HU2.out.right (fun e he => by rw [List.mem_singleton] at he; rw [he]; exact HCR.out) (by omega) (by omega)
                  refine this.mono ?_
                  rintro e w' ⟨hb, v', rfl, ho⟩
                  exact ⟨hba.trans (hb.mono hba.size), v', rfl, ho.base hba.size⟩
                go_wp2_with (first
                  | ((with_reducible refine gate_bd 77 #[(0, .tmp 88), (1, .tmp 90)] rfl ?_); refine wl_bd rfl 77 [(0, .tmp 88), (1, .tmp 90)] rfl _ rfl (rentC ⟨tn, cis⟩).toArray (builtR ⟨tn, cis⟩) ?_)
                  | (refine bs_R rfl _ rfl ⟨tn, cis⟩ rfl ?_)
                  | (go_at_call 21; (with_reducible refine HOV.out.mono ?_); rintro e w5 ⟨hb5, v5, rfl, ho5⟩; obtain ⟨q5, cap5, rfl, hc5, hm5, hq5, hq5'⟩ := ho5.at rentC_len; rw [List.length_map] at hc5))
                have hb6 : Below w.heap.size w w5 := HWf.out.trans (hb5.mono HWf.out.size)
                have hlm : ((put1 l cn hcn cis).map toR).length = (put1 l cn hcn cis).length := List.length_map _
                go_roundw
                case rel => exact ⟨k + 1, put1 l cn hcn cis, q5, _, cap5, by omega, by go_num, rfl, Lib.hid (by first | rfl | exact hlm.symm), Lib.hid (by first | exact ⟨hc5, hm5⟩ | (rw [hlm]; exact ⟨hc5, hm5⟩)), HN1, hq5, hb6⟩
                case measure => simp [intOf]; omega
          · have hne : (s.toList == cwas.toList) = false := by simpa using listS hs
            have HE := Lib.hid (HBAD.out 7 (by simp [errA, HG.out, hs]) (by omega))
            clear HBAD HOK hs
            go_wp2_with (first | (go_at_call 41; (with_reducible refine KG.out.mono ?_); rintro e w' ⟨rfl, rfl⟩))
            refine bodyPost_ret (results_tmp2 rfl _ _ _) rfl ?_
            refine ⟨HW1.out, none, 0, 0, ?_, ?_, Nat.le_refl _, by unfold maxLen; omega, ?_⟩
            · rw [HE.out.1]; rfl
            · rw [HE.out.2]; rfl
            · rw [HE.out.2]; exact SlAt.nil _ _
        · have HE := Lib.hid (HBAD.out 8 (by simp [errA, HG.out]) (by omega))
          clear HBAD HOK 
          go_wp2_with (first | (go_at_call 41; (with_reducible refine KG.out.mono ?_); rintro e w' ⟨rfl, rfl⟩))
          refine bodyPost_ret (results_tmp2 rfl _ _ _) rfl ?_
          refine ⟨HW1.out, none, 0, 0, ?_, ?_, Nat.le_refl _, by unfold maxLen; omega, ?_⟩
          · rw [HE.out.1]; rfl
          · rw [HE.out.2]; rfl
          · rw [HE.out.2]; exact SlAt.nil _ _
        · obtain ⟨k1, k2, k3⟩ := hkk
          have k4 : ck < 1 ∨ 3 < ck := by omega
          have j1 : (ck == 1) = false := by simpa using k1
          have j2 : (ck == 2) = false := by simpa using k2
          have j3 : (ck == 3) = false := by simpa using k3
          rcases k4 with k4 | k4
          · have HE16 : errA l ⟨cn, hcn, ck, cwas, cis⟩ = 16 := by simp [errA, k1, k2, k3, k4]
            have HE := Lib.hid (HBAD.out 16 (by exact HE16) (by omega))
            clear HBAD HOK HE16
            go_wp2_with (first | (go_at_call 41; (with_reducible refine KG.out.mono ?_); rintro e w' ⟨rfl, rfl⟩))
            refine bodyPost_ret (results_tmp2 rfl _ _ _) rfl ?_
            refine ⟨HW1.out, none, 0, 0, ?_, ?_, Nat.le_refl _, by unfold maxLen; omega, ?_⟩
            · rw [HE.out.1]; rfl
            · rw [HE.out.2]; rfl
            · rw [HE.out.2]; exact SlAt.nil _ _
          · have k5 : ¬ ck < 1 := by omega
            have HE16 : errA l ⟨cn, hcn, ck, cwas, cis⟩ = 16 := by simp [errA, k1, k2, k3, k4]
            have HE := Lib.hid (HBAD.out 16 (by exact HE16) (by omega))
            clear HBAD HOK HE16
            go_wp2_with (first | (go_at_call 41; (with_reducible refine KG.out.mono ?_); rintro e w' ⟨rfl, rfl⟩))
            refine bodyPost_ret (results_tmp2 rfl _ _ _) rfl ?_
            refine ⟨HW1.out, none, 0, 0, ?_, ?_, Nat.le_refl _, by unfold maxLen; omega, ?_⟩
            · rw [HE.out.1]; rfl
            · rw [HE.out.2]; rfl
            · rw [HE.out.2]; exact SlAt.nil _ _
    · obtain rfl : k = nc := by omega
      have HE : Hid (applyE a cs = 0 ∧ applyL a cs = l) := by
        have h1 := HA.out.err
        have h2 := HA.out.out
        rw [List.drop_eq_nil_of_le (by rw [HN.out]; omega)] at h1 h2
        exact ⟨h1, h2⟩
      go_wp2_with fail
      refine bodyPost_ret (results_tmp2 rfl _ _ _) rfl ?_
      refine ⟨HW.out, q, n, cap, ?_, ?_, HCP.out.1, HCP.out.2, ?_⟩
      · rw [HE.out.1]; rfl
      · rw [HE.out.2]; exact HL.out.symm
      · rw [HE.out.2]; exact HQL.out
end Go.Proofs.Ytpnmficlebnajaa
