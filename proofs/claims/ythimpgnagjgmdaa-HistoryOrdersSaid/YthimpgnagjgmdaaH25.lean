/- The document's Order. -/
import Derived.Test.YthimpgnagjgmdaaH24
import Derived.Test.YthimpgnagjgmdaaH23
import Derived.Test.YthimpgnagjgmdaaGA
namespace Go.Proofs.Ythimpgnagjgmdaa
open Go.RowKit Go.Sort

theorem gate_sl {P : Program} {ops : Array Oper} {rest : List Oper} {o : Oper} {a : Act} {w : World} {Q : Exit → Act → World → Prop} (T : TypeId) (x y : Operand) (_ : o.op = .slice T x (some y) none none) (h : wpList P ops Q (o :: rest) a w) : wpList P ops Q (o :: rest) a w := h
theorem gate_sh {P : Program} {ops : Array Oper} {rest : List Oper} {o : Oper} {a : Act} {w : World} {Q : Exit → Act → World → Prop} (T : TypeId) (x y : Operand) (_ : o.op = .slice T x none (some y) none) (h : wpList P ops Q (o :: rest) a w) : wpList P ops Q (o :: rest) a w := h
theorem sizI : (Try.prog.info? 3).map (·.size) = some 1 := by kernel_rfl
theorem eI_one (x : Int) : ∀ u ∈ eI x, u.oneCell' = true := fun u hu => by simp [eI] at hu; subst hu; rfl
set_option maxRecDepth 100000 in
set_option maxHeartbeats 16000000 in
theorem refOrder_any (q : Option Addr) (n c : Nat) (xs : List Ca) (w : World) (hn : xs.length = n) (hn30 : n ≤ 30) (hq : SlAt caC 51 w q xs) :
    Calls Try.prog 12 #[.slice q n c] w fun e w' => ∃ v, e = .returned v ∧ ∃ q cap l, v = .slice q l.length cap ∧ OrdK xs n l ∧ SlAt eI 1 w' q l ∧ Below w.heap.size w w' := by
  have HN := Lib.hid hn
  have HQ := Lib.hid hq
  clear hn hq
  go_enter Try.func12, Try.ntmps12
  go_wp2_with fail
  go_loopw [3, 4] (fun vo vi wr => ∃ (k : Nat) (l : List Int), k ≤ n ∧ vi = .int .i64 k ∧ Hid (OwnE eI 3 1 wr w.heap.size vo l) ∧ Hid (OrdK xs k l) ∧ Hid (Below w.heap.size w wr)) (fun _ vi _ => n - (intOf vi).toNat)
  case atStart => exact ⟨0, [], Nat.zero_le _, rfl, (show OwnE eI 3 1 w _ _ [] from OwnE.nil _ _), OrdK.nil xs, Below.refl _ _⟩
  case round =>
    obtain ⟨k, l, hk, rfl, HO, HL, HB⟩ := hrel
    by_cases h1 : k < n
    · have h1i : (k : Int) < n := by omega
      obtain ⟨b, o, rfl, hbs, hro⟩ := HQ.out k (by rw [HN.out]; exact h1)
      obtain ⟨x, hx⟩ : ∃ x, x = xs[k]'(by rw [HN.out]; exact h1) := ⟨_, rfl⟩
      rw [← hx] at hro
      have HRow : Hid (∀ W, Below w.heap.size w W → W.rangeAt b (o + k * 51) (caC x)) := fun W h => range_of_block hro (h.block b hbs)
      have HbS := Lib.hid hbs
      have HRow1 := Lib.hid (HRow.out _ HB.out)
      have HG : Hid (xs.getD k ca0 = x) := by show _ = _; rw [List.getD_eq_getElem?_getD, List.getElem?_eq_getElem (by rw [HN.out]; exact h1), ← hx]; rfl
      have HCA : Hid (caAt xs (k : Int) = x) := by show _ = _; unfold caAt; rw [Int.toNat_natCast]; exact HG.out
      clear hro hx hbs
      have KC := Lib.hid (refCounts_any x wr)
      cases hcb : countB x with
      | false =>
        rw [hcb] at KC
        go_wp2_with (first
          | ((with_reducible refine gate_ld 51 (.tmp 15) rfl ?_); refine wl_ldr rfl 51 _ rfl b (o + k * 51) (caC x) _ Try.underlying51 rfl (by rw [sizRCa, caC_len]) rfl HRow1.out ?_)
          | (go_at_call 8; (refine KC.out.mono ?_); rintro e W2 ⟨rfl, hb2⟩; have HB2 := Lib.hid (HB.out.trans (hb2.mono HB.out.size)); have HO2 := Lib.hid (HO.out.below hb2); clear hb2))
        go_roundw
        case rel => exact ⟨k + 1, l, by omega, by go_num, HO2, HL.out.skip (by rw [HG.out]; exact hcb), HB2⟩
        case measure => simp [intOf]; omega
      | true =>
        rw [hcb] at KC
        have HCb := Lib.hid hcb
        clear hcb
        have hll : l.length ≤ 30 := by have := HL.out.len; omega
        obtain ⟨qo, co, rfl, hlc, hcm, hsl, _⟩ := HO.out.at eI_len
        have HSl := Lib.hid hsl
        have HCo := Lib.hid hlc
        have HNo : Hid (qo = none → co = 0) := fun h => HO.out.none_cap h
        clear hsl hlc hcm
        obtain ⟨m, hm⟩ : ∃ m, m = l.length := ⟨_, rfl⟩
        rw [← hm] at hll HO HCo
        rw [← hm]
        have HM := Lib.hid hm
        clear hm
        go_upto_region 6 with (first
          | ((with_reducible refine gate_ld 51 (.tmp 15) rfl ?_); refine wl_ldr rfl 51 _ rfl b (o + k * 51) (caC x) _ Try.underlying51 rfl (by rw [sizRCa, caC_len]) rfl HRow1.out ?_)
          | (go_at_call 8; (refine KC.out.mono ?_); rintro e W2 ⟨rfl, hb2⟩; have HB2 := Lib.hid (HB.out.trans (hb2.mono HB.out.size)); have HO2 := Lib.hid (HO.out.below hb2); have HSl2 := Lib.hid (HSl.out.below hb2); clear hb2))
        clear HB HO HRow1 HSl
        go_wp2_with fail
        go_loopw [5] (fun vj wr => ∃ j : Nat, j ≤ m ∧ vj = .int .i64 j ∧ Hid (∀ p (hp : p < l.length), j ≤ p → ltF (cF xs) k l[p] = true) ∧ Hid (OwnE eI 3 1 wr w.heap.size (.slice qo m co) l) ∧ Hid (SlAt eI 1 wr qo l) ∧ Hid (Below w.heap.size w wr)) (fun vj _ => (intOf vj).toNat)
        case atStart => exact ⟨m, Nat.le_refl _, rfl, fun p hp h => by have := HM.out; omega, HO2, HSl2, HB2⟩
        case round =>
          clear HB2 HO2 HSl2
          obtain ⟨j, hj, rfl, HA, HO, HSl, HB⟩ := hrel
          by_cases hj0 : 0 < j
          · obtain ⟨p, rfl⟩ : ∃ p, j = p + 1 := ⟨j - 1, by omega⟩
            have hpm : p < m := by omega
            obtain ⟨z, hz⟩ : ∃ z, z = l[p]'(by rw [← HM.out]; exact hpm) := ⟨_, rfl⟩
            obtain ⟨gb, go, rfl, hgb, hgr⟩ := HSl.out p (by rw [← HM.out]; exact hpm)
            rw [← hz] at hgr
            have hzc : wr.cell? ⟨gb, go + p, none⟩ = some (.int .i64 z) := by
              have := hgr 0 _ rfl
              simpa using this
            have HZc := Lib.hid hzc
            clear hzc
            have hzk : 0 ≤ z ∧ z < k := HL.out.lt z (by rw [hz]; exact List.getElem_mem _)
            obtain ⟨iz, rfl⟩ : ∃ iz : Nat, z = (iz : Int) := ⟨z.toNat, by omega⟩
            have hizk : iz < k := by omega
            have hizn : iz < n := by omega
            obtain ⟨y, hy⟩ : ∃ y, y = xs[iz]'(by rw [HN.out]; exact hizn) := ⟨_, rfl⟩
            have HRy : Hid (wr.rangeAt b (o + iz * 51) (caC y)) := by
              obtain ⟨b2, o2, h1, h2, h3⟩ := HQ.out iz (by rw [HN.out]; exact hizn)
              simp only [Option.some.injEq, Addr.mk.injEq] at h1
              obtain ⟨rfl, rfl, _⟩ := h1
              rw [← hy] at h3
              exact range_of_block h3 (HB.out.block b h2)
            have HRx := Lib.hid (HRow.out _ HB.out)
            have HCY : Hid (caAt xs (iz : Int) = y) := by show _ = _; unfold caAt; rw [Int.toNat_natCast, List.getD_eq_getElem?_getD, List.getElem?_eq_getElem (by rw [HN.out]; exact hizn), ← hy]; rfl
            have hlt : ltF (cF xs) (k : Int) (iz : Int) = aheadB x y := by rw [ltF_ahead, HCA.out, HCY.out]
            have HLt := Lib.hid hlt
            have HZ := Lib.hid hz
            clear hlt hz hy hgr hzk
            have hbl : b < wr.heap.size := Nat.lt_of_lt_of_le HbS.out HB.out.size
            have hgl : gb < wr.heap.size := hgb
            have KA := Lib.hid (fun W (_ : Below wr.heap.size wr W) => ahead_any x y W)
            cases hab : aheadB x y
            all_goals
              rw [hab] at KA
              go_upto_region 7 with fail
              try simp only [Act.put]
              refine wp_region_quiet_below (by kernel_rfl) (by kernel_rfl) ?_
              repeat (first
                | go_big_quiet_skip
                | (with_reducible refine wq_ldr rfl 51 (.tmp 26) rfl b (o + k * 51) (caC x) _ Try.underlying51 rfl (by rw [sizRCa, caC_len]) rfl HRx.out hbl ?_; simp only [Act.put, List.setIfInBounds_toArray, List.set_cons_zero, List.set_cons_succ])
                | (with_reducible refine wq_ldr rfl 51 (.tmp 34) rfl b (o + iz * 51) (caC y) _ Try.underlying51 rfl (by rw [sizRCa, caC_len]) rfl HRy.out hbl ?_; simp only [Act.put, List.setIfInBounds_toArray, List.set_cons_zero, List.set_cons_succ])
                | (refine wq_val (.int .i64 (p : Int)) rfl (fun w => exec_dec (.tmp 30) rfl p (by omega) rfl) ?_; simp only [Act.put, List.setIfInBounds_toArray, List.set_cons_zero, List.set_cons_succ])
                | (refine wq_one rfl 3 (.tmp 32) rfl gb (go + p) (.int .i64 (iz : Int)) ag3 rfl HZc.out hgl ?_; simp only [Act.put, List.setIfInBounds_toArray, List.set_cons_zero, List.set_cons_succ])
                | go_big_quiet_step (with_reducible exact rg_callB KA.out _ _))
              refine wpQuiet_nil ?_
              rintro _ ⟨⟨dq, osq⟩, rfl⟩
              have hbel := below_regrown wr dq osq
              have HB3 := Lib.hid (HB.out.trans (hbel.mono HB.out.size))
              have HO3 := Lib.hid (HO.out.below hbel)
              have HS3 := Lib.hid (HSl.out.below hbel)
              clear hbel HO HSl HB HZc HRy HRx KA
              generalize Sort.grow (redrawn wr dq) osq = W3 at *
            · have HStop : Hid (∀ m' (hm : m' < l.length), p + 1 = m' + 1 → ltF (cF xs) k l[m'] = false) := fun m' hm' e => by
                obtain rfl : p = m' := by omega
                rw [← HZ.out, HLt.out]; exact hab
              have HHi : Hid (∀ (o : Oper) (a : Act) (w : World), o.op = .slice 26 (.tmp 41) none (some (.tmp 42)) none → a.eval (.tmp 41) = .slice (some (⟨gb, go, none⟩ : Addr)) m co → a.eval (.tmp 42) = .int .i64 (((p + 1) : Nat) : Int) → (execOp a.eval o).run Try.prog w = .ok (.value (.slice (some (⟨gb, go, none⟩ : Addr)) (p + 1) co)) w) := fun o a w ho hx hy => exec_hi (k := 1) Try.underlying26 sizI _ _ ho (some (⟨gb, go, none⟩ : Addr)) m co (p + 1) hx hy (by have := HCo.out; omega)
              have HLo : Hid (∀ (o : Oper) (a : Act) (w : World), o.op = .slice 26 (.tmp 49) (some (.tmp 50)) none none → a.eval (.tmp 49) = .slice (some (⟨gb, go, none⟩ : Addr)) m co → a.eval (.tmp 50) = .int .i64 (((p + 1) : Nat) : Int) → (execOp a.eval o).run Try.prog w = .ok (.value (.slice (cutQ 1 (some (⟨gb, go, none⟩ : Addr)) (p + 1) co) (m - (p + 1)) (co - (p + 1)))) w) := fun o a w ho hx hy => exec_lo (k := 1) Try.underlying26 sizI _ _ ho (some (⟨gb, go, none⟩ : Addr)) m co (p + 1) hx hy (by omega)
              have HT : Hid ((l.take (p + 1)).length = (p + 1)) := by show _ = _; rw [List.length_take, ← HM.out]; omega
              have HD : Hid ((l.drop (p + 1)).length = m - (p + 1)) := by show _ = _; rw [List.length_drop, ← HM.out]
              have HSt := Lib.hid (HS3.out.take (p + 1))
              have HSd := Lib.hid (HS3.out.cut (p + 1) co (by rw [← HM.out]; exact HCo.out))
              have HOrd := Lib.hid (HL.out.ins (by rw [HG.out]; exact HCb.out) (p + 1) (by rw [← HM.out]; omega) HA.out HStop.out)
              obtain ⟨lt, hlt⟩ : ∃ lt, lt = l.take (p + 1) := ⟨_, rfl⟩
              obtain ⟨ld, hld⟩ : ∃ ld, ld = l.drop (p + 1) := ⟨_, rfl⟩
              rw [← hlt] at HT HSt HOrd
              rw [← hld] at HD HSd HOrd
              have HNc : Hid (cutQ 1 (some (⟨gb, go, none⟩ : Addr)) (p + 1) co = none → co - (p + 1) = 0) := fun h => by have := HNo.out (cutQ_isNone h); omega
              generalize cutQ 1 (some (⟨gb, go, none⟩ : Addr)) (p + 1) co = qd at *
              obtain ⟨md, hmd⟩ : ∃ md, md = m - (p + 1) := ⟨_, rfl⟩
              obtain ⟨cd, hcd⟩ : ∃ cd, cd = co - (p + 1) := ⟨_, rfl⟩
              have hmd30 : (p + 1) + 1 + md ≤ 31 := by omega
              rw [← hmd] at HD
              rw [← hcd] at HNc
              rw [← hmd, ← hcd] at HLo
              have HNo2 : Hid ((some (⟨gb, go, none⟩ : Addr)) = none → co = 0) := HNo.out
              clear hlt hld hmd hcd HStop HA
              go_upto_region 10 with (first
                | ((with_reducible refine gate_sh 26 (.tmp 41) (.tmp 42) rfl ?_); refine wl_val rfl _ (HHi.out _ _ _ rfl rfl rfl) ?_)
                | (at_builtin; refine wl_appO rfl 26 3 8 (.int .i64 0) Try.underlying26 info3 rfl (by omega) eI_len eI_one (.tmp 40) (.tmp 43) rfl W3.heap.size (.slice (some ⟨W3.heap.size, 0, none⟩) 0 0) [] rfl (World.ownsRow_made W3 #[] 0 (Nat.le_refl _) (by unfold maxLen; omega) (by simp)) ((some (⟨gb, go, none⟩ : Addr))) (p + 1) co lt rfl HT.out (HSt.out.below (below_alloc1 _ _)) (fun e => HNo2.out e) (by show (0 + _) * 8 ≤ _; omega) (by show 0 + _ ≤ _; unfold maxLen; omega) (by simp) (fun V1 w1 hv hg _ => ?_); have HV1 := Lib.hid hv; have HG1 := Lib.hid ((below_alloc1 W3 (.cells #[] 3)).trans (grown_below hg (fun g hg => by cases hg; exact Nat.le_refl _) (by simp))); clear hv hg)
                | (at_builtin; refine wl_app1 (k := 1) (enc := eI) 26 3 8 (.int .i64 0) Try.underlying26 info3 rfl (by omega) eI_len (fun x u hu => by simp [eI] at hu; subst hu; rfl) rfl (.tmp 44) (.tmp 46) rfl W3.heap.size V1 lt rfl (HV1.out.below (below_alloc1 _ _)) _ _ (k : Int) rfl (range_whole (vs := eI (k : Int)) (heap_alloc_new _ _)) (by rw [HT.out]; omega) (by rw [HT.out]; unfold maxLen; omega) (HG1.out.alloc HG1.out.size _).size (fun V2 w2 hv hg => ?_); have HV2 := Lib.hid hv; have HG2 := Lib.hid ((HG1.out.alloc HG1.out.size _).trans (grown_below hg (fun b hb => (HV1.out.lt b hb).1) (HG1.out.alloc HG1.out.size _).size)); clear hv hg))
              have HSd2 := Lib.hid (HSd.out.below HG2.out)
              go_wp2_with (first
                | ((with_reducible refine gate_sl 26 (.tmp 49) (.tmp 50) rfl ?_); refine wl_val rfl _ (HLo.out _ _ _ rfl rfl rfl) ?_)
                | (at_builtin; refine wl_appO rfl 26 3 8 (.int .i64 0) Try.underlying26 info3 rfl (by omega) eI_len eI_one (.tmp 48) (.tmp 51) rfl W3.heap.size V2 (lt ++ [(k : Int)]) rfl HV2.out qd md cd ld rfl HD.out HSd2.out HNc.out (by rw [List.length_append, HT.out]; show (_ + 1 + _) * 8 ≤ _; omega) (by rw [List.length_append, HT.out]; show _ + 1 + _ ≤ _; unfold maxLen; omega) HG2.out.size (fun V3 w3 hv hg _ => ?_); have HV3 := Lib.hid hv; have HG3 := Lib.hid (HG2.out.trans (grown_below hg (fun g hg => (HV2.out.lt g hg).1) HG2.out.size)); clear hv hg))
              go_roundw
              case rel => exact ⟨k + 1, lt ++ [(k : Int)] ++ ld, by omega, by go_num, HV3.out.base HB3.out.size, HOrd, HB3.out.trans (HG3.out.mono HB3.out.size)⟩
              case measure => simp [intOf]; omega
            · go_wp2_with fail
              go_roundw
              case rel => exact ⟨p, by omega, by go_num, fun p' hp' h => by
                rcases (by omega : p + 1 ≤ p' ∨ p' = p) with h2 | rfl
                · exact HA.out p' hp' h2
                · rw [← HZ.out, HLt.out]; exact hab, HO3, HS3, HB3⟩
              case measure => simp [intOf]
          · obtain rfl : j = 0 := by omega
            go_upto_region 7 with fail
            try simp only [Act.put]
            refine wp_region_quiet_below (by kernel_rfl) (by kernel_rfl) ?_
            repeat (first
              | go_big_quiet_skip
              | go_big_quiet_step (fail))
            refine wpQuiet_nil ?_
            rintro _ ⟨⟨dq, osq⟩, rfl⟩
            have hbel := below_regrown wr dq osq
            have HB3 := Lib.hid (HB.out.trans (hbel.mono HB.out.size))
            have HO3 := Lib.hid (HO.out.below hbel)
            have HS3 := Lib.hid (HSl.out.below hbel)
            clear hbel HO HSl HB
            generalize Sort.grow (redrawn wr dq) osq = W3 at *
            have HStop : Hid (∀ m' (hm : m' < l.length), 0 = m' + 1 → ltF (cF xs) k l[m'] = false) := fun m' hm' e => by omega
            have HHi : Hid (∀ (o : Oper) (a : Act) (w : World), o.op = .slice 26 (.tmp 41) none (some (.tmp 42)) none → a.eval (.tmp 41) = .slice qo m co → a.eval (.tmp 42) = .int .i64 (((0) : Nat) : Int) → (execOp a.eval o).run Try.prog w = .ok (.value (.slice qo (0) co)) w) := fun o a w ho hx hy => exec_hi (k := 1) Try.underlying26 sizI _ _ ho qo m co (0) hx hy (by have := HCo.out; omega)
            have HLo : Hid (∀ (o : Oper) (a : Act) (w : World), o.op = .slice 26 (.tmp 49) (some (.tmp 50)) none none → a.eval (.tmp 49) = .slice qo m co → a.eval (.tmp 50) = .int .i64 (((0) : Nat) : Int) → (execOp a.eval o).run Try.prog w = .ok (.value (.slice (cutQ 1 qo (0) co) (m - (0)) (co - (0)))) w) := fun o a w ho hx hy => exec_lo (k := 1) Try.underlying26 sizI _ _ ho qo m co (0) hx hy (by omega)
            have HT : Hid ((l.take (0)).length = (0)) := by show _ = _; rw [List.length_take, ← HM.out]; omega
            have HD : Hid ((l.drop (0)).length = m - (0)) := by show _ = _; rw [List.length_drop, ← HM.out]
            have HSt := Lib.hid (HS3.out.take (0))
            have HSd := Lib.hid (HS3.out.cut (0) co (by rw [← HM.out]; exact HCo.out))
            have HOrd := Lib.hid (HL.out.ins (by rw [HG.out]; exact HCb.out) (0) (by rw [← HM.out]; omega) HA.out HStop.out)
            obtain ⟨lt, hlt⟩ : ∃ lt, lt = l.take (0) := ⟨_, rfl⟩
            obtain ⟨ld, hld⟩ : ∃ ld, ld = l.drop (0) := ⟨_, rfl⟩
            rw [← hlt] at HT HSt HOrd
            rw [← hld] at HD HSd HOrd
            have HNc : Hid (cutQ 1 qo (0) co = none → co - (0) = 0) := fun h => by have := HNo.out (cutQ_isNone h); omega
            generalize cutQ 1 qo (0) co = qd at *
            obtain ⟨md, hmd⟩ : ∃ md, md = m - (0) := ⟨_, rfl⟩
            obtain ⟨cd, hcd⟩ : ∃ cd, cd = co - (0) := ⟨_, rfl⟩
            have hmd30 : (0) + 1 + md ≤ 31 := by omega
            rw [← hmd] at HD
            rw [← hcd] at HNc
            rw [← hmd, ← hcd] at HLo
            have HNo2 : Hid (qo = none → co = 0) := HNo.out
            clear hlt hld hmd hcd HStop HA
            go_upto_region 10 with (first
              | ((with_reducible refine gate_sh 26 (.tmp 41) (.tmp 42) rfl ?_); refine wl_val rfl _ (HHi.out _ _ _ rfl rfl rfl) ?_)
              | (at_builtin; refine wl_appO rfl 26 3 8 (.int .i64 0) Try.underlying26 info3 rfl (by omega) eI_len eI_one (.tmp 40) (.tmp 43) rfl W3.heap.size (.slice (some ⟨W3.heap.size, 0, none⟩) 0 0) [] rfl (World.ownsRow_made W3 #[] 0 (Nat.le_refl _) (by unfold maxLen; omega) (by simp)) (qo) (0) co lt rfl HT.out (HSt.out.below (below_alloc1 _ _)) (fun e => HNo2.out e) (by show (0 + _) * 8 ≤ _; omega) (by show 0 + _ ≤ _; unfold maxLen; omega) (by simp) (fun V1 w1 hv hg _ => ?_); have HV1 := Lib.hid hv; have HG1 := Lib.hid ((below_alloc1 W3 (.cells #[] 3)).trans (grown_below hg (fun g hg => by cases hg; exact Nat.le_refl _) (by simp))); clear hv hg)
              | (at_builtin; refine wl_app1 (k := 1) (enc := eI) 26 3 8 (.int .i64 0) Try.underlying26 info3 rfl (by omega) eI_len (fun x u hu => by simp [eI] at hu; subst hu; rfl) rfl (.tmp 44) (.tmp 46) rfl W3.heap.size V1 lt rfl (HV1.out.below (below_alloc1 _ _)) _ _ (k : Int) rfl (range_whole (vs := eI (k : Int)) (heap_alloc_new _ _)) (by rw [HT.out]; omega) (by rw [HT.out]; unfold maxLen; omega) (HG1.out.alloc HG1.out.size _).size (fun V2 w2 hv hg => ?_); have HV2 := Lib.hid hv; have HG2 := Lib.hid ((HG1.out.alloc HG1.out.size _).trans (grown_below hg (fun b hb => (HV1.out.lt b hb).1) (HG1.out.alloc HG1.out.size _).size)); clear hv hg))
            have HSd2 := Lib.hid (HSd.out.below HG2.out)
            go_wp2_with (first
              | ((with_reducible refine gate_sl 26 (.tmp 49) (.tmp 50) rfl ?_); refine wl_val rfl _ (HLo.out _ _ _ rfl rfl rfl) ?_)
              | (at_builtin; refine wl_appO rfl 26 3 8 (.int .i64 0) Try.underlying26 info3 rfl (by omega) eI_len eI_one (.tmp 48) (.tmp 51) rfl W3.heap.size V2 (lt ++ [(k : Int)]) rfl HV2.out qd md cd ld rfl HD.out HSd2.out HNc.out (by rw [List.length_append, HT.out]; show (_ + 1 + _) * 8 ≤ _; omega) (by rw [List.length_append, HT.out]; show _ + 1 + _ ≤ _; unfold maxLen; omega) HG2.out.size (fun V3 w3 hv hg _ => ?_); have HV3 := Lib.hid hv; have HG3 := Lib.hid (HG2.out.trans (grown_below hg (fun g hg => (HV2.out.lt g hg).1) HG2.out.size)); clear hv hg))
            go_roundw
            case rel => exact ⟨k + 1, lt ++ [(k : Int)] ++ ld, by omega, by go_num, HV3.out.base HB3.out.size, HOrd, HB3.out.trans (HG3.out.mono HB3.out.size)⟩
            case measure => simp [intOf]; omega
    · obtain rfl : k = n := by omega
      have h1i : ¬ (k : Int) < k := by omega
      obtain ⟨qo, co, rfl, hlc, hcm, hsl, _⟩ := HO.out.at eI_len
      have HSl := Lib.hid hsl
      clear hsl hlc hcm
      go_wp2_with fail
      go_ret
      exact ⟨_, rfl, qo, co, l, rfl, HL.out, HSl.out, HB.out⟩
end Go.Proofs.Ythimpgnagjgmdaa
