/- Sheet. -/
import Derived.Test.YtpnmficlebnajaaF11
import Derived.StillTail
import Derived.StillTailTactics
namespace Go.Proofs.Ytpnmficlebnajaa
open Go.RowKit

theorem takeD {P : Program} {md : Region.Mode} {ops : Array Oper} {Q : Exit → Act → World → Prop} {S : World → Prop} {i : Nat} {oi : Oper} {v : Value} {fuel : Nat} {listed : Array Bool} {a : Act} {w : World} (d : Nat) (hi : ops[i]? = some oi) (hd : oi.dst = some d)
    (hs : Region.noSelect ops = true) (hf : Region.free md ops listed i = true) (hr : (Region.ready md ops listed).contains i = true)
    (hQ : ∀ c a w, Q (.panic c) (a.put (some d) v) w → Q (.panic c) a w) (hy : YieldsIf P ops S oi v a) (hS : S w)
    (h : wpAnyH P md ops Q S fuel (listed.setIfInBounds i true) (a.put (some d) v) w) : wpAnyH P md ops Q S (fuel + 1) listed a w :=
  wpAnyH_take hi hs hf hr (by rw [hd]; exact hQ) hy hS (by rw [hd]; exact h)

set_option maxRecDepth 100000 in
set_option maxHeartbeats 8000000 in
theorem sheet_any (q : Option Addr) (l : List Ent) (n cap : Nat) (w : World) (hn : l.length = n) (hc : n ≤ cap) (hm : cap ≤ maxLen) (hq : SlAt entC 13 w q l) (hs : ∀ x ∈ l, x.t.size ≤ maxLen) :
    Calls Try.prog 16 #[.slice q n cap] w fun e w' => Below w.heap.size w w' ∧ ∃ v', e = .returned v' ∧ OwnE entC 44 13 w' w.heap.size v' (sheetL l) := by
  have HC := Lib.hid (cut_any q l n cap w hn hc hm hq hs)
  have HS := Lib.hid (cut_small l hs)
  have hcl : (cutL l).length ≤ 20 := by rw [cutL, List.length_map]; exact List.length_take_le _ _
  have HSL : Hid (sheetL l = (cutL l).foldl stepS []) := rfl
  clear hn hc hm hq hs
  rw [HSL.out]
  clear HSL
  generalize cutL l = c at *
  go_enter Try.func16, Try.ntmps16
  go_wp2_with (go_at_call 9; (refine HC.out.mono ?_); rintro e w1 ⟨hb1, v1, rfl, ho1⟩; obtain ⟨q1, cap1, hv1, hc1, hm1, _, hq1⟩ := ho1.at entC_len; have HB1 := Lib.hid hb1; have HO1 := Lib.hid ho1; have HQ1 := Lib.hid hq1; clear hb1 ho1 hq1; have HV1 := Lib.hid hv1; subst hv1)
  go_loopw [3, 5] (fun v i wr => ∃ (k : Nat) (out xs : List Ent), k ≤ c.length ∧ i = .int .i64 k ∧ Hid (OwnE entC 44 13 wr w1.heap.size v out) ∧ Hid (out = (c.take k).foldl stepS []) ∧ Hid (OwnE entC 44 13 wr w.heap.size (.slice q1 c.length cap1) xs) ∧ Hid (xs.length = c.length ∧ ∀ j, k ≤ j → xs[j]? = c[j]?) ∧ Hid (Below w.heap.size w wr) ∧ Hid (w1.heap.size ≤ wr.heap.size)) (fun _ i _ => c.length - (intOf i).toNat)
  case atStart => exact ⟨0, [], c, Nat.zero_le _, rfl, OwnE.nil _ _, rfl, HO1.out, ⟨rfl, fun _ _ => rfl⟩, HB1.out, Nat.le_refl _⟩
  case round =>
    obtain ⟨k, out, xs, hk, rfl, HO, HX, HA, HL, HW, HZ⟩ := hrel
    by_cases hlt : k < c.length
    case neg =>
      obtain rfl : k = c.length := by omega
      have HE : Hid (c.foldl stepS [] = out) := by show _ = _; rw [HX.out, List.take_of_length_le (Nat.le_refl _)]
      go_wp2_with fail
      go_ret
      exact ⟨HW.out, _, rfl, by rw [HE.out]; exact HO.out.base (HB1.out.size)⟩
    case pos =>
    have hlt' : (k : Int) < c.length := by omega
    have hxk : k < xs.length := by rw [HL.out.1]; exact hlt
    have HXK : Hid (xs[k] = c[k]) := by
      have := HL.out.2 k (Nat.le_refl _)
      rw [List.getElem?_eq_getElem hxk, List.getElem?_eq_getElem hlt] at this
      exact Option.some.inj this
    have HFold : Hid (stepS out c[k] = (c.take (k + 1)).foldl stepS []) := by
      show _ = _
      rw [List.take_succ_eq_append_getElem hlt, List.foldl_append, ← HX.out]; rfl
    have HSz := HS.out _ (List.getElem_mem hlt)
    have HGd : Hid (Good out) := by show Good out; rw [HX.out]; exact Good.fold _ _ Good.nil
    obtain ⟨g, cg, hgv, hgb, hgs, _, _⟩ := HA.out.form (by omega)
    have hq1e : q1 = some ⟨g, 0, none⟩ := by simp only [Value.slice.injEq] at hgv; exact hgv.1
    subst hq1e
    have HG1 : Hid (g < w1.heap.size) := (HQ1.out _ rfl).2
    clear hgv
    obtain ⟨qo, co, hvo, hoc, hom, hoq, hoq'⟩ := HO.out.at entC_len
    subst hvo
    have HOQ := Lib.hid hoq
    have HOB := Lib.hid hoq'
    clear hoq hoq'
    obtain ⟨hxr0, hfz0⟩ := HA.out.cell entC_len k hxk
    have HXR := Lib.hid hxr0
    have HFZ := Lib.hid hfz0
    clear hxr0 hfz0
    rw [HXK.out] at HXR
    have hpl := placeL_le out c[k].n
    have hol : out.length ≤ 16 := HGd.out.len
    have hol' : (out.length : Int) ≤ 16 := by omega
    have HPlt : Hid (∀ j, j < placeL out c[k].n → ∃ h2 : j < out.length, lessR out[j].n c[k].n = true) := fun j hj => lt_place hj
    have HPat : Hid (∀ h : placeL out c[k].n < out.length, lessR out[placeL out c[k].n].n c[k].n = false) := fun h => at_place (by rw [List.getElem?_eq_getElem h])
    have HSt : Hid (stepS out c[k] = if rightB c[k].n = false ∨ isAt out c[k].n = true ∨ 16 ≤ out.length then out else out.take (placeL out c[k].n) ++ [cutX c[k]] ++ out.drop (placeL out c[k].n)) := rfl
    have HIA : Hid (isAt out c[k].n = match out[placeL out c[k].n]? with | some y => y.n == c[k].n | none => false) := rfl
    have HLs : Hid (∀ (y : Ent) (W : World), Calls Try.prog 33 #[.agg (bC y.n), .agg (bC c[k].n)] W fun e w' => e = .returned (.bool (lessR y.n c[k].n)) ∧ Below W.heap.size W w') := fun y W => refLess_any _ _ W y.hn c[k].hn
    generalize c[k] = x at *
    generalize placeL out x.n = p at *
    have H12 : Hid (x.n.length = 12) := x.hn
    have HXN := Lib.hid (ent_name HXR.out)
    have HZg : Hid (g < wr.heap.size) := Nat.lt_of_lt_of_le HG1.out HZ.out
    have hk0 : (0 : Int) ≤ (k : Int) := by omega
    have hkm : (k : Int) < c.length := hlt'
    obtain ⟨wo, hwo⟩ : ∃ wo : World, wo = wr := ⟨_, rfl⟩
    subst hwo
    go_wp2_with fail
    go_loopw [6] (fun t wr => ∃ j : Nat, j ≤ p ∧ t = .int .i64 j ∧ Hid (Below wo.heap.size wo wr)) (fun t _ => out.length - (intOf t).toNat)
    case atStart => exact ⟨0, Nat.zero_le _, rfl, Below.refl _ _⟩
    case round =>
      obtain ⟨j, hj, rfl, HV⟩ := hrel
      have hj0 : (0 : Int) ≤ (j : Int) := by omega
      have HXN2 : Hid (wr.rangeAt g (k * 13) (bC x.n).toList) := range_of_block HXN.out (HV.out.block g HZg.out)
      have HZg2 : Hid (g < wr.heap.size) := Nat.lt_of_lt_of_le HZg.out HV.out.size
      have hz2 := HZg2.out
      by_cases hjp : j < p
      · obtain ⟨hjl, hjr⟩ := HPlt.out j hjp
        obtain ⟨b, ob, rfl, hb, hr⟩ := HOQ.out j hjl
        have HYN : Hid (wr.rangeAt b (ob + j * 13) (bC out[j].n).toList) := ent_name (range_of_block hr (HV.out.block b hb))
        have H12y : Hid (out[j].n.length = 12) := out[j].hn
        have hbz : b < wr.heap.size := Nat.lt_of_lt_of_le hb HV.out.size
        have HL1 : Hid (∀ W : World, Calls Try.prog 33 #[.agg (bC out[j].n), .agg (bC x.n)] W fun e w' => e = .returned (.bool true) ∧ Below W.heap.size W w') := fun W => by
          have := HLs.out out[j] W
          rw [hjr] at this; exact this
        have hjl' : (j : Int) < out.length := by omega
        have hjd : decide (j < out.length) = true := by simpa using hjl
        clear hr hb hjr
        generalize out[j].n = yn at *
        go_upto_region 7 with fail
        refine wp_region_quiet_below (by kernel_rfl) (by kernel_rfl) ?_
        repeat (first
          | (with_reducible refine wq_N rfl _ rfl b (ob + j * 13) yn H12y.out rfl HYN.out hbz ?_; simp only [Act.put, List.setIfInBounds_toArray, List.set_cons_zero, List.set_cons_succ])
          | (with_reducible refine wq_N rfl _ rfl g (k * 13) x.n H12.out rfl HXN2.out hz2 ?_; simp only [Act.put, List.setIfInBounds_toArray, List.set_cons_zero, List.set_cons_succ])
          | go_big_quiet_step (with_reducible exact rg_call HL1.out _ _))
        refine wpQuiet_nil ?_
        rintro _ ⟨⟨dq, osq⟩, rfl⟩
        have hb2 : Below wo.heap.size wo (Sort.grow (redrawn wr dq) osq) := HV.out.trans ((below_regrown wr dq osq).mono HV.out.size)
        go_wp2_with fail
        go_roundw
        case rel => exact ⟨j + 1, by omega, by go_num, hb2⟩
        case measure => simp [intOf]; omega
      · obtain rfl : j = p := by omega
        rcases (show j < out.length ∨ j = out.length by omega) with hjl | hjl
        case inl =>
          have hjr := HPat.out hjl
          obtain ⟨b, ob, rfl, hb, hr⟩ := HOQ.out j hjl
          have HYN : Hid (wr.rangeAt b (ob + j * 13) (bC out[j].n).toList) := ent_name (range_of_block hr (HV.out.block b hb))
          have H12y : Hid (out[j].n.length = 12) := out[j].hn
          have hbz : b < wr.heap.size := Nat.lt_of_lt_of_le hb HV.out.size
          have HL1 : Hid (∀ W : World, Calls Try.prog 33 #[.agg (bC out[j].n), .agg (bC x.n)] W fun e w' => e = .returned (.bool false) ∧ Below W.heap.size W w') := fun W => by
            have := HLs.out out[j] W
            rw [hjr] at this; exact this
          have hjl' : (j : Int) < out.length := by omega
          have hjd : decide (j < out.length) = true := by simpa using hjl
          clear hr hb hjr
          have HIA1 : Hid (isAt out x.n = (out[j].n == x.n)) := by
            show _ = _
            rw [HIA.out, List.getElem?_eq_getElem hjl]
          generalize hyn : out[j].n = yn at *
          have HYE := Lib.hid hyn
          clear hyn
          go_upto_region 7 with fail
          refine wp_region_quiet_below (by kernel_rfl) (by kernel_rfl) ?_
          repeat (first
            | (with_reducible refine wq_N rfl _ rfl b (ob + j * 13) yn H12y.out rfl HYN.out hbz ?_; simp only [Act.put, List.setIfInBounds_toArray, List.set_cons_zero, List.set_cons_succ])
            | (with_reducible refine wq_N rfl _ rfl g (k * 13) x.n H12.out rfl HXN2.out hz2 ?_; simp only [Act.put, List.setIfInBounds_toArray, List.set_cons_zero, List.set_cons_succ])
            | go_big_quiet_step (with_reducible exact rg_call HL1.out _ _))
          refine wpQuiet_nil ?_
          rintro _ ⟨⟨dq, osq⟩, rfl⟩
          have HV2 : Hid (Below wo.heap.size wo (Sort.grow (redrawn wr dq) osq)) := HV.out.trans ((below_regrown wr dq osq).mono HV.out.size)
          have HA2 : Hid (OwnE entC 44 13 (Sort.grow (redrawn wr dq) osq) w.heap.size (.slice (some ⟨g, 0, none⟩) c.length cap1) xs) := HA.out.below HV2.out
          clear HV HXN2 HZg2 hz2
          generalize Sort.grow (redrawn wr dq) osq = w2 at *
          obtain ⟨hr2, hf2⟩ := HA2.out.cell entC_len k hxk
          rw [HXK.out] at hr2
          have hct : w2.cell? ⟨g, k * 13 + 12, none⟩ = some (.string x.t) := ent_text hr2
          have hfz : w2.frozen? ⟨g, k * 13 + 12, none⟩ = false := hf2 12
          have hsz' : (x.t.size : Int) ≤ 9223372036854775807 := by unfold maxLen at HSz; omega
          have h60a : (0 : Int) ≤ min (x.t.size : Int) 60 := by omega
          have h60b : min (x.t.size : Int) 60 ≤ (x.t.size : Int) := by omega
          clear hr2 hf2
          go_upto_region 9 with fail
          go_still_tail 17, (by kernel_rfl)
          go_upto_region 10 with fail
          have HST := Lib.hid (HA2.out.stored entC_len HL.out.1.symm k hxk 12 (by omega) (.string (x.t.extract 0 (min (x.t.size : Int) 60).toNat)) (cutX x) (by rw [HXK.out]; exact (entC_set x _).symm))
          have HA3 : Hid (OwnE entC 44 13 (w2.setCell ⟨g, k * 13 + 12, none⟩ (.string (x.t.extract 0 (min (x.t.size : Int) 60).toNat))).drew w.heap.size (.slice (some ⟨g, 0, none⟩) c.length cap1) (xs.set k (cutX x))) := HST.out.1
          have hne : ∀ g', Value.ownBlock (.slice (some ⟨b, ob, none⟩) out.length co) = some g' → (some g : Option Nat) ≠ some g' := by
            intro g' hg' e
            have h1 := (HO.out.lt g' hg').1
            have h2 := HG1.out
            have h3 : g = g' := by simpa using e
            omega
          have HO3 : Hid (OwnE entC 44 13 (w2.setCell ⟨g, k * 13 + 12, none⟩ (.string (x.t.extract 0 (min (x.t.size : Int) 60).toNat))).drew w1.heap.size (.slice (some ⟨b, ob, none⟩) out.length co) out) := by
            have := (HO.out.below HV2.out).grown HST.out.2 hne
            exact this
          clear hne
          have HW3 : Hid (Below w.heap.size w (w2.setCell ⟨g, k * 13 + 12, none⟩ (.string (x.t.extract 0 (min (x.t.size : Int) 60).toNat))).drew) := ((HW.out.trans (HV2.out.mono HW.out.size)).setCell (p := ⟨g, k * 13 + 12, none⟩) hgb _).drew
          have HZ3 : Hid (w1.heap.size ≤ (w2.setCell ⟨g, k * 13 + 12, none⟩ (.string (x.t.extract 0 (min (x.t.size : Int) 60).toNat))).drew.heap.size) := by
            have h1 := HZ.out
            have h2 := HV2.out.size
            show _ ≤ (w2.setCell _ _).heap.size
            simp; omega
          clear HST HA2 HV2 hct hfz
          generalize (w2.setCell ⟨g, k * 13 + 12, none⟩ (.string (x.t.extract 0 (min (x.t.size : Int) 60).toNat))).drew = w3 at *
          have HL3 : Hid ((xs.set k (cutX x)).length = c.length ∧ ∀ i, k + 1 ≤ i → (xs.set k (cutX x))[i]? = c[i]?) := by
            refine ⟨by rw [List.length_set]; exact HL.out.1, fun i hi => ?_⟩
            rw [List.getElem?_set_ne (by omega)]
            exact HL.out.2 i (by omega)
          have hxk3 : k < (xs.set k (cutX x)).length := by rw [List.length_set]; exact hxk
          have hr3 := (HA3.out.cell entC_len k hxk3).1
          rw [List.getElem_set_self] at hr3
          have HX3 : Hid (w3.rangeAt g (k * 13) (bC x.n).toList) := ent_name (x := cutX x) hr3
          have HXE := Lib.hid hr3
          have hg3 : g < w3.heap.size := Nat.lt_of_lt_of_le HG1.out HZ3.out
          clear hr3 hxk3
          have HTx : Hid (∀ W : World, Calls Try.prog 23 #[.agg (bC x.n)] W fun e w' => e = .returned (.string ⟨(textQ x.n).toArray⟩) ∧ Below W.heap.size W w') := fun W => lawText_any _ W x.hn
          have hask := ask_q x.n
          have hasb := ask_b x.n
          generalize (⟨(textQ x.n).toArray⟩ : ByteArray) = tq at *
          obtain ⟨b3, ob3, hbe, hb3, hr3⟩ := HO3.out.slAt entC_len j hjl
          obtain ⟨rfl, rfl⟩ : b = b3 ∧ ob = ob3 := by simpa using hbe
          have HY3 : Hid (w3.rangeAt b (ob + j * 13) (bC out[j].n).toList) := ent_name hr3
          clear hbe hr3
          rw [HYE.out] at HY3
          cases hr : rightB x.n
          · rw [hr] at hask hasb; simp only [Bool.not_false, Bool.not_true] at hask hasb
            have hr' := Lib.hid hr
            clear hr
            refine wp_region_quiet_below (by kernel_rfl) (by kernel_rfl) ?_
            repeat (first
              | (with_reducible refine wq_N rfl _ rfl g (k * 13) x.n H12.out rfl HX3.out hg3 ?_; simp only [Act.put, List.setIfInBounds_toArray, List.set_cons_zero, List.set_cons_succ])
              | go_big_quiet_step (with_reducible exact rg_call HTx.out _ _))
            refine wpQuiet_nil ?_
            rintro _ ⟨⟨dq, osq⟩, rfl⟩
            have HStA : Hid (stepS out x = out) := by
              show _ = _
              rw [HSt.out, if_pos (Or.inl hr'.out)]
            have hbg := below_regrown w3 dq osq
            go_wp2_with fail
            go_roundw
            case rel => exact ⟨k + 1, out, _, by omega, by go_num, HO3.out.below hbg, by rw [← HFold.out, HStA.out]; exact (rfl : out = out), HA3.out.below hbg, HL3.out, HW3.out.trans (hbg.mono HW3.out.size), Nat.le_trans HZ3.out hbg.size⟩
            case measure => simp [intOf]; omega
          rw [hr] at hask hasb; simp only [Bool.not_false, Bool.not_true] at hask hasb
          have HR := Lib.hid hr
          clear hr
          have he23 : ∀ W : World, (binOp .eql 40 (.agg (bC yn)) (.agg (bC x.n))).run Try.prog W = .ok (.bool (yn == x.n)) W := fun W => eql23 W yn x.n H12y.out H12.out
          cases heq : (yn == x.n)
          case true =>
            rw [heq] at he23 HIA1
            clear heq
            refine wp_region_quiet_below (by kernel_rfl) (by kernel_rfl) ?_
            repeat (first
              | (with_reducible refine wq_N rfl _ rfl g (k * 13) x.n H12.out rfl HX3.out hg3 ?_; simp only [Act.put, List.setIfInBounds_toArray, List.set_cons_zero, List.set_cons_succ])
              | (with_reducible refine wq_N rfl _ rfl b (ob + j * 13) yn H12y.out rfl HY3.out hb3 ?_; simp only [Act.put, List.setIfInBounds_toArray, List.set_cons_zero, List.set_cons_succ])
              | go_big_quiet_step (with_reducible exact rg_call HTx.out _ _))
            refine wpQuiet_nil ?_
            rintro _ ⟨⟨dq, osq⟩, rfl⟩
            have HStA : Hid (stepS out x = out) := by
              show _ = _
              rw [HSt.out, if_pos (Or.inr (Or.inl HIA1.out))]
            have hbg := below_regrown w3 dq osq
            go_wp2_with fail
            go_roundw
            case rel => exact ⟨k + 1, out, _, by omega, by go_num, HO3.out.below hbg, by rw [← HFold.out, HStA.out]; exact (rfl : out = out), HA3.out.below hbg, HL3.out, HW3.out.trans (hbg.mono HW3.out.size), Nat.le_trans HZ3.out hbg.size⟩
            case measure => simp [intOf]; omega
          rw [heq] at he23 HIA1
          clear heq
          by_cases h16 : 16 ≤ out.length
          · have h16' : (16 : Int) ≤ out.length := by omega
            refine wp_region_quiet_below (by kernel_rfl) (by kernel_rfl) ?_
            repeat (first
              | (with_reducible refine wq_N rfl _ rfl g (k * 13) x.n H12.out rfl HX3.out hg3 ?_; simp only [Act.put, List.setIfInBounds_toArray, List.set_cons_zero, List.set_cons_succ])
              | (with_reducible refine wq_N rfl _ rfl b (ob + j * 13) yn H12y.out rfl HY3.out hb3 ?_; simp only [Act.put, List.setIfInBounds_toArray, List.set_cons_zero, List.set_cons_succ])
              | go_big_quiet_step (with_reducible exact rg_call HTx.out _ _))
            refine wpQuiet_nil ?_
            rintro _ ⟨⟨dq, osq⟩, rfl⟩
            have HStA : Hid (stepS out x = out) := by
              show _ = _
              rw [HSt.out, if_pos (Or.inr (Or.inr h16))]
            have hbg := below_regrown w3 dq osq
            go_wp2_with fail
            go_roundw
            case rel => exact ⟨k + 1, out, _, by omega, by go_num, HO3.out.below hbg, by rw [← HFold.out, HStA.out]; exact (rfl : out = out), HA3.out.below hbg, HL3.out, HW3.out.trans (hbg.mono HW3.out.size), Nat.le_trans HZ3.out hbg.size⟩
            case measure => simp [intOf]; omega
          have h16' : (out.length : Int) < 16 := by omega
          have HStB : Hid (stepS out x = out.take j ++ [cutX x] ++ out.drop j) := by
            show _ = _
            rw [HSt.out, if_neg (by rw [HR.out, HIA1.out]; simp; omega)]
          refine wp_region_quiet_below (by kernel_rfl) (by kernel_rfl) ?_
          repeat (first
            | (with_reducible refine wq_N rfl _ rfl g (k * 13) x.n H12.out rfl HX3.out hg3 ?_; simp only [Act.put, List.setIfInBounds_toArray, List.set_cons_zero, List.set_cons_succ])
            | (with_reducible refine wq_N rfl _ rfl b (ob + j * 13) yn H12y.out rfl HY3.out hb3 ?_; simp only [Act.put, List.setIfInBounds_toArray, List.set_cons_zero, List.set_cons_succ])
            | go_big_quiet_step (with_reducible exact rg_call HTx.out _ _))
          refine wpQuiet_nil ?_
          rintro _ ⟨⟨dq, osq⟩, rfl⟩
          have hbg := below_regrown w3 dq osq
          have HA4 := Lib.hid (HA3.out.below hbg)
          have HO4 := Lib.hid (HO3.out.below hbg)
          have HW4 : Hid (Below w.heap.size w (Sort.grow (redrawn w3 dq) osq)) := HW3.out.trans (hbg.mono HW3.out.size)
          have HZ4 : Hid (w1.heap.size ≤ (Sort.grow (redrawn w3 dq) osq).heap.size) := Nat.le_trans HZ3.out hbg.size
          have HXE4 : Hid (World.rangeAt (Sort.grow (redrawn w3 dq) osq) g (k * 13) (entC (cutX x))) := range_of_block HXE.out (hbg.block g hg3)
          have hg4 : g < (Sort.grow (redrawn w3 dq) osq).heap.size := Nat.lt_of_lt_of_le hg3 hbg.size
          have hco : j ≤ co := by omega
          clear HA3 HO3 HW3 HZ3 HXE hg3 HX3 hbg
          generalize (Sort.grow (redrawn w3 dq) osq) = w4 at *
          have HSa : Hid (SlAt entC 13 w4 (some ⟨b, ob, none⟩) out) := HO4.out.slAt entC_len
          have HQ0 : Hid (((some ⟨b, ob, none⟩) : Option Addr) = none → co = 0) := fun h => HO4.out.none_cap h
          go_upto_region 11 with fail
          refine wp_region_held_drew (S := fun w' => Below w4.heap.size w4 w') (by kernel_rfl) ((Below.refl _ _).drew) (fun hH => ?_)
          show wpAnyH Try.prog Region.Mode.any _ _ _ 16 #[false, false, false, false, false, false, false, false, false, false, false, false, false, false, false, false] _ _
          refine takeD (i := 1) (v := .slice (some ⟨b, ob, none⟩) out.length co) 83 rfl rfl (by kernel_rfl) (by kernel_rfl) (by kernel_rfl) (fun _ _ _ h => h) (Or.inl ⟨rfl, fun w' hS => rfl⟩) hH ?_
          simp only [Act.put, List.setIfInBounds_toArray, List.set_cons_zero, List.set_cons_succ]
          refine takeD (i := 2) (v := .int .i64 j) 84 rfl rfl (by kernel_rfl) (by kernel_rfl) (by kernel_rfl) (fun _ _ _ h => h) (Or.inl ⟨rfl, fun w' hS => rfl⟩) hH ?_
          simp only [Act.put, List.setIfInBounds_toArray, List.set_cons_zero, List.set_cons_succ]
          refine takeD (i := 3) (v := .slice (some ⟨b, ob, none⟩) j co) 85 rfl rfl (by kernel_rfl) (by kernel_rfl) (by kernel_rfl) (fun _ _ _ h => h) (Or.inl ⟨rfl, fun w' hS => y_hi _ _ rfl _ _ _ _ rfl rfl hco⟩) hH ?_
          simp only [Act.put, List.setIfInBounds_toArray, List.set_cons_zero, List.set_cons_succ]
          refine takeD (i := 5) (v := .slice (some ⟨g, 0, none⟩) c.length cap1) 87 rfl rfl (by kernel_rfl) (by kernel_rfl) (by kernel_rfl) (fun _ _ _ h => h) (Or.inl ⟨rfl, fun w' hS => rfl⟩) hH ?_
          simp only [Act.put, List.setIfInBounds_toArray, List.set_cons_zero, List.set_cons_succ]
          refine takeD (i := 6) (v := .int .i64 k) 88 rfl rfl (by kernel_rfl) (by kernel_rfl) (by kernel_rfl) (fun _ _ _ h => h) (Or.inl ⟨rfl, fun w' hS => rfl⟩) hH ?_
          simp only [Act.put, List.setIfInBounds_toArray, List.set_cons_zero, List.set_cons_succ]
          refine takeD (i := 7) (v := .pointer (some ⟨g, k * 13, none⟩)) 89 rfl rfl (by kernel_rfl) (by kernel_rfl) (by kernel_rfl) (fun _ _ _ h => h) (Or.inl ⟨rfl, fun w' hS => (by go_simp)⟩) hH ?_
          simp only [Act.put, List.setIfInBounds_toArray, List.set_cons_zero, List.set_cons_succ]
          refine takeD (i := 8) (v := .agg (entC (cutX x)).toArray) 90 rfl rfl (by kernel_rfl) (by kernel_rfl) (by kernel_rfl) (fun _ _ _ h => h) (Or.inl ⟨rfl, fun w' hS => y_loadE _ rfl g (k * 13) (cutX x) rfl (range_of_block HXE4.out (hS.block g hg4))⟩) hH ?_
          simp only [Act.put, List.setIfInBounds_toArray, List.set_cons_zero, List.set_cons_succ]
          refine takeD (i := 11) (v := .slice (some ⟨b, ob, none⟩) out.length co) 93 rfl rfl (by kernel_rfl) (by kernel_rfl) (by kernel_rfl) (fun _ _ _ h => h) (Or.inl ⟨rfl, fun w' hS => rfl⟩) hH ?_
          simp only [Act.put, List.setIfInBounds_toArray, List.set_cons_zero, List.set_cons_succ]
          refine takeD (i := 12) (v := .int .i64 j) 94 rfl rfl (by kernel_rfl) (by kernel_rfl) (by kernel_rfl) (fun _ _ _ h => h) (Or.inl ⟨rfl, fun w' hS => rfl⟩) hH ?_
          simp only [Act.put, List.setIfInBounds_toArray, List.set_cons_zero, List.set_cons_succ]
          refine takeD (i := 13) (v := .slice (cutQ 13 (some ⟨b, ob, none⟩) j co) (out.length - j) (co - j)) 95 rfl rfl (by kernel_rfl) (by kernel_rfl) (by kernel_rfl) (fun _ _ _ h => h) (Or.inl ⟨rfl, fun w' hS => y_lo _ _ rfl _ _ _ _ rfl rfl (by omega)⟩) hH ?_
          simp only [Act.put, List.setIfInBounds_toArray, List.set_cons_zero, List.set_cons_succ]
          refine wpAnyH_ready (rs := [0, 9]) (by kernel_rfl) (by simp) ?_
          refine AllReadyH.cons rfl (fun K hK => ?_) (AllReadyH.cons rfl (fun K hK => ?_) AllReadyH.nil)
          · refine st_if rfl (bs0_Eo rfl w4.heap.size hH.size (fun v82 wa ho82 hgr82 hob82 => ?_))
            have hSa' := hH.grown hgr82 hH.size (fun g hg => by cases hg)
            refine hK.out (.put _ (some 82) v82) _ hSa' (fun hSa => ?_)
            simp only [Act.put, List.setIfInBounds_toArray, List.set_cons_zero, List.set_cons_succ]
            clear hK K
            refine wpAnyH_ready (rs := [4, 9]) (by kernel_rfl) (by simp) ?_
            refine AllReadyH.cons rfl (fun K hK => ?_) (AllReadyH.cons rfl (fun K hK => ?_) AllReadyH.nil)
            · refine st_if rfl (app_Eo _ _ rfl w4.heap.size v82 [] rfl (ho82) (some ⟨b, ob, none⟩) j co (out.take j) rfl (by rw [List.length_take]; omega) ((HSa.out.below hSa).take j) HQ0.out (by simp; omega) hSa.size (fun v86 wb ho86 hgr86 hob86 => ?_))
              have hSb' := hSa.grown hgr86 hSa.size (fun g hg => (ho82.lt g hg).1)
              refine hK.out (.put _ (some 86) v86) _ hSb' (fun hSb => ?_)
              simp only [Act.put, List.setIfInBounds_toArray, List.set_cons_zero, List.set_cons_succ]
              clear hK K
              refine wpAnyH_ready (rs := [9]) (by kernel_rfl) (by simp) ?_
              refine AllReadyH.cons rfl (fun K hK => ?_) AllReadyH.nil
              refine st_if rfl (bs1_Eo _ rfl (cutX x) rfl ?_)
              have hr91 : (wb.alloc (.cells (entC (cutX x)).toArray 44)).rangeAt wb.heap.size 0 (entC (cutX x)) := range_whole (heap_alloc_new _ _)
              have hl91 : wb.heap.size < (wb.alloc (.cells (entC (cutX x)).toArray 44)).heap.size := by simp
              have ha91 : Below wb.heap.size wb (wb.alloc (.cells (entC (cutX x)).toArray 44)) := below_alloc1 _ _
              have hSc' := hSb.trans (ha91.mono hSb.size)
              refine hK.out (.put _ (some 91) _) _ hSc' (fun hSc => ?_)
              simp only [Act.put, List.setIfInBounds_toArray, List.set_cons_zero, List.set_cons_succ]
              clear hK K
              generalize (wb.alloc (.cells (entC (cutX x)).toArray 44)) = wc at *
              refine wpAnyH_ready (rs := [10]) (by kernel_rfl) (by simp) ?_
              refine AllReadyH.cons rfl (fun K hK => ?_) AllReadyH.nil
              refine st_if rfl (app_Eo _ _ rfl w4.heap.size v86 ([] ++ out.take j) rfl (ho86.below ha91) (some ⟨wb.heap.size, 0, none⟩) 1 1 [cutX x] rfl rfl (slat_one hl91 hr91) (fun h => by cases h) (by simp; omega) hSc.size (fun v92 wd ho92 hgr92 hob92 => ?_))
              have hSd' := hSc.grown hgr92 hSc.size (fun g hg => (ho86.lt g hg).1)
              refine hK.out (.put _ (some 92) v92) _ hSd' (fun hSd => ?_)
              simp only [Act.put, List.setIfInBounds_toArray, List.set_cons_zero, List.set_cons_succ]
              clear hK K
              refine wpAnyH_ready (rs := [14]) (by kernel_rfl) (by simp) ?_
              refine AllReadyH.cons rfl (fun K hK => ?_) AllReadyH.nil
              refine st_if rfl (app_Eo _ _ rfl w4.heap.size v92 ([] ++ out.take j ++ [cutX x]) rfl ho92 (cutQ 13 (some ⟨b, ob, none⟩) j co) (out.length - j) (co - j) (out.drop j) rfl (by simp) ((HSa.out.below hSd).cut j co (by omega)) (fun h => by have := HQ0.out (cutQ_isNone h); omega) (by simp; omega) hSd.size (fun v96 wf ho96 hgr96 hob96 => ?_))
              have hSf := hSd.grown hgr96 hSd.size (fun g hg => (ho92.lt g hg).1)
              refine hK.out (.put _ (some 96) v96) _ hSf (fun hSf => ?_)
              simp only [Act.put, List.setIfInBounds_toArray, List.set_cons_zero, List.set_cons_succ]
              clear hK K
              refine takeD (i := 15) (v := v96) 3 rfl rfl (by kernel_rfl) (by kernel_rfl) (by kernel_rfl) (fun _ _ _ h => h) (Or.inl ⟨rfl, fun w' hS => rfl⟩) hSf ?_
              simp only [Act.put, List.setIfInBounds_toArray, List.set_cons_zero, List.set_cons_succ]
              refine ⟨by kernel_rfl, ?_⟩
              have HF : Hid (OwnE entC 44 13 wf w1.heap.size v96 (stepS out x)) := by
                show OwnE _ _ _ _ _ _ _
                rw [HStB.out]; exact ho96.base HZ4.out
              have HSf := Lib.hid hSf
              go_wp2_with fail
              go_roundw
              case rel => exact ⟨k + 1, stepS out x, _, by omega, by go_num, HF.out, HFold.out, HA4.out.below HSf.out, HL3.out, HW4.out.trans (HSf.out.mono HW4.out.size), Nat.le_trans HZ4.out HSf.out.size⟩
              case measure => simp [intOf]; omega
            · refine st_if rfl (bs1_Eo _ rfl (cutX x) rfl ?_)
              have hr91 : (wa.alloc (.cells (entC (cutX x)).toArray 44)).rangeAt wa.heap.size 0 (entC (cutX x)) := range_whole (heap_alloc_new _ _)
              have hl91 : wa.heap.size < (wa.alloc (.cells (entC (cutX x)).toArray 44)).heap.size := by simp
              have ha91 : Below wa.heap.size wa (wa.alloc (.cells (entC (cutX x)).toArray 44)) := below_alloc1 _ _
              have hSb' := hSa.trans (ha91.mono hSa.size)
              refine hK.out (.put _ (some 91) _) _ hSb' (fun hSb => ?_)
              simp only [Act.put, List.setIfInBounds_toArray, List.set_cons_zero, List.set_cons_succ]
              clear hK K
              generalize (wa.alloc (.cells (entC (cutX x)).toArray 44)) = wb at *
              refine wpAnyH_ready (rs := [4]) (by kernel_rfl) (by simp) ?_
              refine AllReadyH.cons rfl (fun K hK => ?_) AllReadyH.nil
              refine st_if rfl (app_Eo _ _ rfl w4.heap.size v82 [] rfl (ho82.below ha91) (some ⟨b, ob, none⟩) j co (out.take j) rfl (by rw [List.length_take]; omega) ((HSa.out.below hSb).take j) HQ0.out (by simp; omega) hSb.size (fun v86 wc ho86 hgr86 hob86 => ?_))
              have hSc' := hSb.grown hgr86 hSb.size (fun g hg => (ho82.lt g hg).1)
              refine hK.out (.put _ (some 86) v86) _ hSc' (fun hSc => ?_)
              simp only [Act.put, List.setIfInBounds_toArray, List.set_cons_zero, List.set_cons_succ]
              clear hK K
              have hne : some wa.heap.size ≠ v82.ownBlock := fun e => by have := (ho82.lt wa.heap.size e.symm).2; omega
              have hr91' := range_of_block hr91 (hgr86.block _ hl91 hne)
              have hl91' := Nat.lt_of_lt_of_le hl91 hgr86.size
              refine wpAnyH_ready (rs := [10]) (by kernel_rfl) (by simp) ?_
              refine AllReadyH.cons rfl (fun K hK => ?_) AllReadyH.nil
              refine st_if rfl (app_Eo _ _ rfl w4.heap.size v86 ([] ++ out.take j) rfl (ho86) (some ⟨wa.heap.size, 0, none⟩) 1 1 [cutX x] rfl rfl (slat_one hl91' hr91') (fun h => by cases h) (by simp; omega) hSc.size (fun v92 wd ho92 hgr92 hob92 => ?_))
              have hSd' := hSc.grown hgr92 hSc.size (fun g hg => (ho86.lt g hg).1)
              refine hK.out (.put _ (some 92) v92) _ hSd' (fun hSd => ?_)
              simp only [Act.put, List.setIfInBounds_toArray, List.set_cons_zero, List.set_cons_succ]
              clear hK K
              refine wpAnyH_ready (rs := [14]) (by kernel_rfl) (by simp) ?_
              refine AllReadyH.cons rfl (fun K hK => ?_) AllReadyH.nil
              refine st_if rfl (app_Eo _ _ rfl w4.heap.size v92 ([] ++ out.take j ++ [cutX x]) rfl ho92 (cutQ 13 (some ⟨b, ob, none⟩) j co) (out.length - j) (co - j) (out.drop j) rfl (by simp) ((HSa.out.below hSd).cut j co (by omega)) (fun h => by have := HQ0.out (cutQ_isNone h); omega) (by simp; omega) hSd.size (fun v96 wf ho96 hgr96 hob96 => ?_))
              have hSf := hSd.grown hgr96 hSd.size (fun g hg => (ho92.lt g hg).1)
              refine hK.out (.put _ (some 96) v96) _ hSf (fun hSf => ?_)
              simp only [Act.put, List.setIfInBounds_toArray, List.set_cons_zero, List.set_cons_succ]
              clear hK K
              refine takeD (i := 15) (v := v96) 3 rfl rfl (by kernel_rfl) (by kernel_rfl) (by kernel_rfl) (fun _ _ _ h => h) (Or.inl ⟨rfl, fun w' hS => rfl⟩) hSf ?_
              simp only [Act.put, List.setIfInBounds_toArray, List.set_cons_zero, List.set_cons_succ]
              refine ⟨by kernel_rfl, ?_⟩
              have HF : Hid (OwnE entC 44 13 wf w1.heap.size v96 (stepS out x)) := by
                show OwnE _ _ _ _ _ _ _
                rw [HStB.out]; exact ho96.base HZ4.out
              have HSf := Lib.hid hSf
              go_wp2_with fail
              go_roundw
              case rel => exact ⟨k + 1, stepS out x, _, by omega, by go_num, HF.out, HFold.out, HA4.out.below HSf.out, HL3.out, HW4.out.trans (HSf.out.mono HW4.out.size), Nat.le_trans HZ4.out HSf.out.size⟩
              case measure => simp [intOf]; omega
          · refine st_if rfl (bs1_Eo _ rfl (cutX x) rfl ?_)
            have hr91 : (w4.drew.alloc (.cells (entC (cutX x)).toArray 44)).rangeAt w4.drew.heap.size 0 (entC (cutX x)) := range_whole (heap_alloc_new _ _)
            have hl91 : w4.drew.heap.size < (w4.drew.alloc (.cells (entC (cutX x)).toArray 44)).heap.size := by simp
            have ha91 : Below w4.drew.heap.size w4.drew (w4.drew.alloc (.cells (entC (cutX x)).toArray 44)) := below_alloc1 _ _
            have hSa' := hH.trans (ha91.mono hH.size)
            refine hK.out (.put _ (some 91) _) _ hSa' (fun hSa => ?_)
            simp only [Act.put, List.setIfInBounds_toArray, List.set_cons_zero, List.set_cons_succ]
            clear hK K
            generalize (w4.drew.alloc (.cells (entC (cutX x)).toArray 44)) = wa at *
            refine wpAnyH_ready (rs := [0]) (by kernel_rfl) (by simp) ?_
            refine AllReadyH.cons rfl (fun K hK => ?_) AllReadyH.nil
            refine st_if rfl (bs0_Eo rfl w4.heap.size hSa.size (fun v82 wb ho82 hgr82 hob82 => ?_))
            have hSb' := hSa.grown hgr82 hSa.size (fun g hg => by cases hg)
            refine hK.out (.put _ (some 82) v82) _ hSb' (fun hSb => ?_)
            simp only [Act.put, List.setIfInBounds_toArray, List.set_cons_zero, List.set_cons_succ]
            clear hK K
            refine wpAnyH_ready (rs := [4]) (by kernel_rfl) (by simp) ?_
            refine AllReadyH.cons rfl (fun K hK => ?_) AllReadyH.nil
            have hr91a := range_of_block hr91 (hgr82.block _ hl91 (fun e => by cases e))
            have hl91a := Nat.lt_of_lt_of_le hl91 hgr82.size
            refine st_if rfl (app_Eo _ _ rfl w4.heap.size v82 [] rfl (ho82) (some ⟨b, ob, none⟩) j co (out.take j) rfl (by rw [List.length_take]; omega) ((HSa.out.below hSb).take j) HQ0.out (by simp; omega) hSb.size (fun v86 wc ho86 hgr86 hob86 => ?_))
            have hSc' := hSb.grown hgr86 hSb.size (fun g hg => (ho82.lt g hg).1)
            refine hK.out (.put _ (some 86) v86) _ hSc' (fun hSc => ?_)
            simp only [Act.put, List.setIfInBounds_toArray, List.set_cons_zero, List.set_cons_succ]
            clear hK K
            have hne : some w4.drew.heap.size ≠ v82.ownBlock := fun e => by rw [hob82] at e; have := Option.some.inj e; omega
            have hr91' := range_of_block hr91a (hgr86.block _ hl91a hne)
            have hl91' := Nat.lt_of_lt_of_le hl91a hgr86.size
            refine wpAnyH_ready (rs := [10]) (by kernel_rfl) (by simp) ?_
            refine AllReadyH.cons rfl (fun K hK => ?_) AllReadyH.nil
            refine st_if rfl (app_Eo _ _ rfl w4.heap.size v86 ([] ++ out.take j) rfl (ho86) (some ⟨w4.drew.heap.size, 0, none⟩) 1 1 [cutX x] rfl rfl (slat_one hl91' hr91') (fun h => by cases h) (by simp; omega) hSc.size (fun v92 wd ho92 hgr92 hob92 => ?_))
            have hSd' := hSc.grown hgr92 hSc.size (fun g hg => (ho86.lt g hg).1)
            refine hK.out (.put _ (some 92) v92) _ hSd' (fun hSd => ?_)
            simp only [Act.put, List.setIfInBounds_toArray, List.set_cons_zero, List.set_cons_succ]
            clear hK K
            refine wpAnyH_ready (rs := [14]) (by kernel_rfl) (by simp) ?_
            refine AllReadyH.cons rfl (fun K hK => ?_) AllReadyH.nil
            refine st_if rfl (app_Eo _ _ rfl w4.heap.size v92 ([] ++ out.take j ++ [cutX x]) rfl ho92 (cutQ 13 (some ⟨b, ob, none⟩) j co) (out.length - j) (co - j) (out.drop j) rfl (by simp) ((HSa.out.below hSd).cut j co (by omega)) (fun h => by have := HQ0.out (cutQ_isNone h); omega) (by simp; omega) hSd.size (fun v96 wf ho96 hgr96 hob96 => ?_))
            have hSf := hSd.grown hgr96 hSd.size (fun g hg => (ho92.lt g hg).1)
            refine hK.out (.put _ (some 96) v96) _ hSf (fun hSf => ?_)
            simp only [Act.put, List.setIfInBounds_toArray, List.set_cons_zero, List.set_cons_succ]
            clear hK K
            refine takeD (i := 15) (v := v96) 3 rfl rfl (by kernel_rfl) (by kernel_rfl) (by kernel_rfl) (fun _ _ _ h => h) (Or.inl ⟨rfl, fun w' hS => rfl⟩) hSf ?_
            simp only [Act.put, List.setIfInBounds_toArray, List.set_cons_zero, List.set_cons_succ]
            refine ⟨by kernel_rfl, ?_⟩
            have HF : Hid (OwnE entC 44 13 wf w1.heap.size v96 (stepS out x)) := by
              show OwnE _ _ _ _ _ _ _
              rw [HStB.out]; exact ho96.base HZ4.out
            have HSf := Lib.hid hSf
            go_wp2_with fail
            go_roundw
            case rel => exact ⟨k + 1, stepS out x, _, by omega, by go_num, HF.out, HFold.out, HA4.out.below HSf.out, HL3.out, HW4.out.trans (HSf.out.mono HW4.out.size), Nat.le_trans HZ4.out HSf.out.size⟩
            case measure => simp [intOf]; omega
        case inr =>
          have hjd : decide (j < out.length) = false := by rw [hjl]; simp
          have HIA1 : Hid (isAt out x.n = false) := by
            show _ = _
            rw [HIA.out, List.getElem?_eq_none (by omega)]
          have hjle : out.length ≤ j := by omega
          clear hjl
          go_upto_region 7 with fail
          refine wp_region_quiet_below (by kernel_rfl) (by kernel_rfl) ?_
          repeat go_big_quiet_step (fail)
          refine wpQuiet_nil ?_
          rintro _ ⟨⟨dq, osq⟩, rfl⟩
          have HV2 : Hid (Below wo.heap.size wo (Sort.grow (redrawn wr dq) osq)) := HV.out.trans ((below_regrown wr dq osq).mono HV.out.size)
          have HA2 : Hid (OwnE entC 44 13 (Sort.grow (redrawn wr dq) osq) w.heap.size (.slice (some ⟨g, 0, none⟩) c.length cap1) xs) := HA.out.below HV2.out
          clear HV HXN2 HZg2 hz2
          generalize Sort.grow (redrawn wr dq) osq = w2 at *
          obtain ⟨hr2, hf2⟩ := HA2.out.cell entC_len k hxk
          rw [HXK.out] at hr2
          have hct : w2.cell? ⟨g, k * 13 + 12, none⟩ = some (.string x.t) := ent_text hr2
          have hfz : w2.frozen? ⟨g, k * 13 + 12, none⟩ = false := hf2 12
          have hsz' : (x.t.size : Int) ≤ 9223372036854775807 := by unfold maxLen at HSz; omega
          have h60a : (0 : Int) ≤ min (x.t.size : Int) 60 := by omega
          have h60b : min (x.t.size : Int) 60 ≤ (x.t.size : Int) := by omega
          clear hr2 hf2
          go_upto_region 9 with fail
          go_still_tail 17, (by kernel_rfl)
          go_upto_region 10 with fail
          have HST := Lib.hid (HA2.out.stored entC_len HL.out.1.symm k hxk 12 (by omega) (.string (x.t.extract 0 (min (x.t.size : Int) 60).toNat)) (cutX x) (by rw [HXK.out]; exact (entC_set x _).symm))
          have HA3 : Hid (OwnE entC 44 13 (w2.setCell ⟨g, k * 13 + 12, none⟩ (.string (x.t.extract 0 (min (x.t.size : Int) 60).toNat))).drew w.heap.size (.slice (some ⟨g, 0, none⟩) c.length cap1) (xs.set k (cutX x))) := HST.out.1
          have hne : ∀ g', Value.ownBlock (.slice qo out.length co) = some g' → (some g : Option Nat) ≠ some g' := by
            intro g' hg' e
            have h1 := (HO.out.lt g' hg').1
            have h2 := HG1.out
            have h3 : g = g' := by simpa using e
            omega
          have HO3 : Hid (OwnE entC 44 13 (w2.setCell ⟨g, k * 13 + 12, none⟩ (.string (x.t.extract 0 (min (x.t.size : Int) 60).toNat))).drew w1.heap.size (.slice qo out.length co) out) := by
            have := (HO.out.below HV2.out).grown HST.out.2 hne
            exact this
          clear hne
          have HW3 : Hid (Below w.heap.size w (w2.setCell ⟨g, k * 13 + 12, none⟩ (.string (x.t.extract 0 (min (x.t.size : Int) 60).toNat))).drew) := ((HW.out.trans (HV2.out.mono HW.out.size)).setCell (p := ⟨g, k * 13 + 12, none⟩) hgb _).drew
          have HZ3 : Hid (w1.heap.size ≤ (w2.setCell ⟨g, k * 13 + 12, none⟩ (.string (x.t.extract 0 (min (x.t.size : Int) 60).toNat))).drew.heap.size) := by
            have h1 := HZ.out
            have h2 := HV2.out.size
            show _ ≤ (w2.setCell _ _).heap.size
            simp; omega
          clear HST HA2 HV2 hct hfz
          generalize (w2.setCell ⟨g, k * 13 + 12, none⟩ (.string (x.t.extract 0 (min (x.t.size : Int) 60).toNat))).drew = w3 at *
          have HL3 : Hid ((xs.set k (cutX x)).length = c.length ∧ ∀ i, k + 1 ≤ i → (xs.set k (cutX x))[i]? = c[i]?) := by
            refine ⟨by rw [List.length_set]; exact HL.out.1, fun i hi => ?_⟩
            rw [List.getElem?_set_ne (by omega)]
            exact HL.out.2 i (by omega)
          have hxk3 : k < (xs.set k (cutX x)).length := by rw [List.length_set]; exact hxk
          have hr3 := (HA3.out.cell entC_len k hxk3).1
          rw [List.getElem_set_self] at hr3
          have HX3 : Hid (w3.rangeAt g (k * 13) (bC x.n).toList) := ent_name (x := cutX x) hr3
          have HXE := Lib.hid hr3
          have hg3 : g < w3.heap.size := Nat.lt_of_lt_of_le HG1.out HZ3.out
          clear hr3 hxk3
          have HTx : Hid (∀ W : World, Calls Try.prog 23 #[.agg (bC x.n)] W fun e w' => e = .returned (.string ⟨(textQ x.n).toArray⟩) ∧ Below W.heap.size W w') := fun W => lawText_any _ W x.hn
          have hask := ask_q x.n
          have hasb := ask_b x.n
          generalize (⟨(textQ x.n).toArray⟩ : ByteArray) = tq at *
          cases hr : rightB x.n
          · rw [hr] at hask hasb; simp only [Bool.not_false, Bool.not_true] at hask hasb
            have hr' := Lib.hid hr
            clear hr
            refine wp_region_quiet_below (by kernel_rfl) (by kernel_rfl) ?_
            repeat (first
              | (with_reducible refine wq_N rfl _ rfl g (k * 13) x.n H12.out rfl HX3.out hg3 ?_; simp only [Act.put, List.setIfInBounds_toArray, List.set_cons_zero, List.set_cons_succ])
              | go_big_quiet_step (with_reducible exact rg_call HTx.out _ _))
            refine wpQuiet_nil ?_
            rintro _ ⟨⟨dq, osq⟩, rfl⟩
            have HStA : Hid (stepS out x = out) := by
              show _ = _
              rw [HSt.out, if_pos (Or.inl hr'.out)]
            have hbg := below_regrown w3 dq osq
            go_wp2_with fail
            go_roundw
            case rel => exact ⟨k + 1, out, _, by omega, by go_num, HO3.out.below hbg, by rw [← HFold.out, HStA.out]; exact (rfl : out = out), HA3.out.below hbg, HL3.out, HW3.out.trans (hbg.mono HW3.out.size), Nat.le_trans HZ3.out hbg.size⟩
            case measure => simp [intOf]; omega
          rw [hr] at hask hasb; simp only [Bool.not_false, Bool.not_true] at hask hasb
          have HR := Lib.hid hr
          clear hr
          by_cases h16 : 16 ≤ out.length
          · have h16' : (16 : Int) ≤ out.length := by omega
            refine wp_region_quiet_below (by kernel_rfl) (by kernel_rfl) ?_
            repeat (first
              | (with_reducible refine wq_N rfl _ rfl g (k * 13) x.n H12.out rfl HX3.out hg3 ?_; simp only [Act.put, List.setIfInBounds_toArray, List.set_cons_zero, List.set_cons_succ])
              | go_big_quiet_step (with_reducible exact rg_call HTx.out _ _))
            refine wpQuiet_nil ?_
            rintro _ ⟨⟨dq, osq⟩, rfl⟩
            have HStA : Hid (stepS out x = out) := by
              show _ = _
              rw [HSt.out, if_pos (Or.inr (Or.inr h16))]
            have hbg := below_regrown w3 dq osq
            go_wp2_with fail
            go_roundw
            case rel => exact ⟨k + 1, out, _, by omega, by go_num, HO3.out.below hbg, by rw [← HFold.out, HStA.out]; exact (rfl : out = out), HA3.out.below hbg, HL3.out, HW3.out.trans (hbg.mono HW3.out.size), Nat.le_trans HZ3.out hbg.size⟩
            case measure => simp [intOf]; omega
          have h16' : (out.length : Int) < 16 := by omega
          have HStB : Hid (stepS out x = out.take j ++ [cutX x] ++ out.drop j) := by
            show _ = _
            rw [HSt.out, if_neg (by rw [HR.out, HIA1.out]; simp; omega)]
          refine wp_region_quiet_below (by kernel_rfl) (by kernel_rfl) ?_
          repeat (first
            | (with_reducible refine wq_N rfl _ rfl g (k * 13) x.n H12.out rfl HX3.out hg3 ?_; simp only [Act.put, List.setIfInBounds_toArray, List.set_cons_zero, List.set_cons_succ])
            | go_big_quiet_step (with_reducible exact rg_call HTx.out _ _))
          refine wpQuiet_nil ?_
          rintro _ ⟨⟨dq, osq⟩, rfl⟩
          have hbg := below_regrown w3 dq osq
          have HA4 := Lib.hid (HA3.out.below hbg)
          have HO4 := Lib.hid (HO3.out.below hbg)
          have HW4 : Hid (Below w.heap.size w (Sort.grow (redrawn w3 dq) osq)) := HW3.out.trans (hbg.mono HW3.out.size)
          have HZ4 : Hid (w1.heap.size ≤ (Sort.grow (redrawn w3 dq) osq).heap.size) := Nat.le_trans HZ3.out hbg.size
          have HXE4 : Hid (World.rangeAt (Sort.grow (redrawn w3 dq) osq) g (k * 13) (entC (cutX x))) := range_of_block HXE.out (hbg.block g hg3)
          have hg4 : g < (Sort.grow (redrawn w3 dq) osq).heap.size := Nat.lt_of_lt_of_le hg3 hbg.size
          have hco : j ≤ co := by omega
          clear HA3 HO3 HW3 HZ3 HXE hg3 HX3 hbg
          generalize (Sort.grow (redrawn w3 dq) osq) = w4 at *
          have HSa : Hid (SlAt entC 13 w4 qo out) := HO4.out.slAt entC_len
          have HQ0 : Hid ((qo : Option Addr) = none → co = 0) := fun h => HO4.out.none_cap h
          go_upto_region 11 with fail
          refine wp_region_held_drew (S := fun w' => Below w4.heap.size w4 w') (by kernel_rfl) ((Below.refl _ _).drew) (fun hH => ?_)
          show wpAnyH Try.prog Region.Mode.any _ _ _ 16 #[false, false, false, false, false, false, false, false, false, false, false, false, false, false, false, false] _ _
          refine takeD (i := 1) (v := .slice qo out.length co) 83 rfl rfl (by kernel_rfl) (by kernel_rfl) (by kernel_rfl) (fun _ _ _ h => h) (Or.inl ⟨rfl, fun w' hS => rfl⟩) hH ?_
          simp only [Act.put, List.setIfInBounds_toArray, List.set_cons_zero, List.set_cons_succ]
          refine takeD (i := 2) (v := .int .i64 j) 84 rfl rfl (by kernel_rfl) (by kernel_rfl) (by kernel_rfl) (fun _ _ _ h => h) (Or.inl ⟨rfl, fun w' hS => rfl⟩) hH ?_
          simp only [Act.put, List.setIfInBounds_toArray, List.set_cons_zero, List.set_cons_succ]
          refine takeD (i := 3) (v := .slice qo j co) 85 rfl rfl (by kernel_rfl) (by kernel_rfl) (by kernel_rfl) (fun _ _ _ h => h) (Or.inl ⟨rfl, fun w' hS => y_hi _ _ rfl _ _ _ _ rfl rfl hco⟩) hH ?_
          simp only [Act.put, List.setIfInBounds_toArray, List.set_cons_zero, List.set_cons_succ]
          refine takeD (i := 5) (v := .slice (some ⟨g, 0, none⟩) c.length cap1) 87 rfl rfl (by kernel_rfl) (by kernel_rfl) (by kernel_rfl) (fun _ _ _ h => h) (Or.inl ⟨rfl, fun w' hS => rfl⟩) hH ?_
          simp only [Act.put, List.setIfInBounds_toArray, List.set_cons_zero, List.set_cons_succ]
          refine takeD (i := 6) (v := .int .i64 k) 88 rfl rfl (by kernel_rfl) (by kernel_rfl) (by kernel_rfl) (fun _ _ _ h => h) (Or.inl ⟨rfl, fun w' hS => rfl⟩) hH ?_
          simp only [Act.put, List.setIfInBounds_toArray, List.set_cons_zero, List.set_cons_succ]
          refine takeD (i := 7) (v := .pointer (some ⟨g, k * 13, none⟩)) 89 rfl rfl (by kernel_rfl) (by kernel_rfl) (by kernel_rfl) (fun _ _ _ h => h) (Or.inl ⟨rfl, fun w' hS => (by go_simp)⟩) hH ?_
          simp only [Act.put, List.setIfInBounds_toArray, List.set_cons_zero, List.set_cons_succ]
          refine takeD (i := 8) (v := .agg (entC (cutX x)).toArray) 90 rfl rfl (by kernel_rfl) (by kernel_rfl) (by kernel_rfl) (fun _ _ _ h => h) (Or.inl ⟨rfl, fun w' hS => y_loadE _ rfl g (k * 13) (cutX x) rfl (range_of_block HXE4.out (hS.block g hg4))⟩) hH ?_
          simp only [Act.put, List.setIfInBounds_toArray, List.set_cons_zero, List.set_cons_succ]
          refine takeD (i := 11) (v := .slice qo out.length co) 93 rfl rfl (by kernel_rfl) (by kernel_rfl) (by kernel_rfl) (fun _ _ _ h => h) (Or.inl ⟨rfl, fun w' hS => rfl⟩) hH ?_
          simp only [Act.put, List.setIfInBounds_toArray, List.set_cons_zero, List.set_cons_succ]
          refine takeD (i := 12) (v := .int .i64 j) 94 rfl rfl (by kernel_rfl) (by kernel_rfl) (by kernel_rfl) (fun _ _ _ h => h) (Or.inl ⟨rfl, fun w' hS => rfl⟩) hH ?_
          simp only [Act.put, List.setIfInBounds_toArray, List.set_cons_zero, List.set_cons_succ]
          refine takeD (i := 13) (v := .slice (cutQ 13 qo j co) (out.length - j) (co - j)) 95 rfl rfl (by kernel_rfl) (by kernel_rfl) (by kernel_rfl) (fun _ _ _ h => h) (Or.inl ⟨rfl, fun w' hS => y_lo _ _ rfl _ _ _ _ rfl rfl (by omega)⟩) hH ?_
          simp only [Act.put, List.setIfInBounds_toArray, List.set_cons_zero, List.set_cons_succ]
          refine wpAnyH_ready (rs := [0, 9]) (by kernel_rfl) (by simp) ?_
          refine AllReadyH.cons rfl (fun K hK => ?_) (AllReadyH.cons rfl (fun K hK => ?_) AllReadyH.nil)
          · refine st_if rfl (bs0_Eo rfl w4.heap.size hH.size (fun v82 wa ho82 hgr82 hob82 => ?_))
            have hSa' := hH.grown hgr82 hH.size (fun g hg => by cases hg)
            refine hK.out (.put _ (some 82) v82) _ hSa' (fun hSa => ?_)
            simp only [Act.put, List.setIfInBounds_toArray, List.set_cons_zero, List.set_cons_succ]
            clear hK K
            refine wpAnyH_ready (rs := [4, 9]) (by kernel_rfl) (by simp) ?_
            refine AllReadyH.cons rfl (fun K hK => ?_) (AllReadyH.cons rfl (fun K hK => ?_) AllReadyH.nil)
            · refine st_if rfl (app_Eo _ _ rfl w4.heap.size v82 [] rfl (ho82) qo j co (out.take j) rfl (by rw [List.length_take]; omega) ((HSa.out.below hSa).take j) HQ0.out (by simp; omega) hSa.size (fun v86 wb ho86 hgr86 hob86 => ?_))
              have hSb' := hSa.grown hgr86 hSa.size (fun g hg => (ho82.lt g hg).1)
              refine hK.out (.put _ (some 86) v86) _ hSb' (fun hSb => ?_)
              simp only [Act.put, List.setIfInBounds_toArray, List.set_cons_zero, List.set_cons_succ]
              clear hK K
              refine wpAnyH_ready (rs := [9]) (by kernel_rfl) (by simp) ?_
              refine AllReadyH.cons rfl (fun K hK => ?_) AllReadyH.nil
              refine st_if rfl (bs1_Eo _ rfl (cutX x) rfl ?_)
              have hr91 : (wb.alloc (.cells (entC (cutX x)).toArray 44)).rangeAt wb.heap.size 0 (entC (cutX x)) := range_whole (heap_alloc_new _ _)
              have hl91 : wb.heap.size < (wb.alloc (.cells (entC (cutX x)).toArray 44)).heap.size := by simp
              have ha91 : Below wb.heap.size wb (wb.alloc (.cells (entC (cutX x)).toArray 44)) := below_alloc1 _ _
              have hSc' := hSb.trans (ha91.mono hSb.size)
              refine hK.out (.put _ (some 91) _) _ hSc' (fun hSc => ?_)
              simp only [Act.put, List.setIfInBounds_toArray, List.set_cons_zero, List.set_cons_succ]
              clear hK K
              generalize (wb.alloc (.cells (entC (cutX x)).toArray 44)) = wc at *
              refine wpAnyH_ready (rs := [10]) (by kernel_rfl) (by simp) ?_
              refine AllReadyH.cons rfl (fun K hK => ?_) AllReadyH.nil
              refine st_if rfl (app_Eo _ _ rfl w4.heap.size v86 ([] ++ out.take j) rfl (ho86.below ha91) (some ⟨wb.heap.size, 0, none⟩) 1 1 [cutX x] rfl rfl (slat_one hl91 hr91) (fun h => by cases h) (by simp; omega) hSc.size (fun v92 wd ho92 hgr92 hob92 => ?_))
              have hSd' := hSc.grown hgr92 hSc.size (fun g hg => (ho86.lt g hg).1)
              refine hK.out (.put _ (some 92) v92) _ hSd' (fun hSd => ?_)
              simp only [Act.put, List.setIfInBounds_toArray, List.set_cons_zero, List.set_cons_succ]
              clear hK K
              refine wpAnyH_ready (rs := [14]) (by kernel_rfl) (by simp) ?_
              refine AllReadyH.cons rfl (fun K hK => ?_) AllReadyH.nil
              refine st_if rfl (app_Eo _ _ rfl w4.heap.size v92 ([] ++ out.take j ++ [cutX x]) rfl ho92 (cutQ 13 qo j co) (out.length - j) (co - j) (out.drop j) rfl (by simp) ((HSa.out.below hSd).cut j co (by omega)) (fun h => by have := HQ0.out (cutQ_isNone h); omega) (by simp; omega) hSd.size (fun v96 wf ho96 hgr96 hob96 => ?_))
              have hSf := hSd.grown hgr96 hSd.size (fun g hg => (ho92.lt g hg).1)
              refine hK.out (.put _ (some 96) v96) _ hSf (fun hSf => ?_)
              simp only [Act.put, List.setIfInBounds_toArray, List.set_cons_zero, List.set_cons_succ]
              clear hK K
              refine takeD (i := 15) (v := v96) 3 rfl rfl (by kernel_rfl) (by kernel_rfl) (by kernel_rfl) (fun _ _ _ h => h) (Or.inl ⟨rfl, fun w' hS => rfl⟩) hSf ?_
              simp only [Act.put, List.setIfInBounds_toArray, List.set_cons_zero, List.set_cons_succ]
              refine ⟨by kernel_rfl, ?_⟩
              have HF : Hid (OwnE entC 44 13 wf w1.heap.size v96 (stepS out x)) := by
                show OwnE _ _ _ _ _ _ _
                rw [HStB.out]; exact ho96.base HZ4.out
              have HSf := Lib.hid hSf
              go_wp2_with fail
              go_roundw
              case rel => exact ⟨k + 1, stepS out x, _, by omega, by go_num, HF.out, HFold.out, HA4.out.below HSf.out, HL3.out, HW4.out.trans (HSf.out.mono HW4.out.size), Nat.le_trans HZ4.out HSf.out.size⟩
              case measure => simp [intOf]; omega
            · refine st_if rfl (bs1_Eo _ rfl (cutX x) rfl ?_)
              have hr91 : (wa.alloc (.cells (entC (cutX x)).toArray 44)).rangeAt wa.heap.size 0 (entC (cutX x)) := range_whole (heap_alloc_new _ _)
              have hl91 : wa.heap.size < (wa.alloc (.cells (entC (cutX x)).toArray 44)).heap.size := by simp
              have ha91 : Below wa.heap.size wa (wa.alloc (.cells (entC (cutX x)).toArray 44)) := below_alloc1 _ _
              have hSb' := hSa.trans (ha91.mono hSa.size)
              refine hK.out (.put _ (some 91) _) _ hSb' (fun hSb => ?_)
              simp only [Act.put, List.setIfInBounds_toArray, List.set_cons_zero, List.set_cons_succ]
              clear hK K
              generalize (wa.alloc (.cells (entC (cutX x)).toArray 44)) = wb at *
              refine wpAnyH_ready (rs := [4]) (by kernel_rfl) (by simp) ?_
              refine AllReadyH.cons rfl (fun K hK => ?_) AllReadyH.nil
              refine st_if rfl (app_Eo _ _ rfl w4.heap.size v82 [] rfl (ho82.below ha91) qo j co (out.take j) rfl (by rw [List.length_take]; omega) ((HSa.out.below hSb).take j) HQ0.out (by simp; omega) hSb.size (fun v86 wc ho86 hgr86 hob86 => ?_))
              have hSc' := hSb.grown hgr86 hSb.size (fun g hg => (ho82.lt g hg).1)
              refine hK.out (.put _ (some 86) v86) _ hSc' (fun hSc => ?_)
              simp only [Act.put, List.setIfInBounds_toArray, List.set_cons_zero, List.set_cons_succ]
              clear hK K
              have hne : some wa.heap.size ≠ v82.ownBlock := fun e => by have := (ho82.lt wa.heap.size e.symm).2; omega
              have hr91' := range_of_block hr91 (hgr86.block _ hl91 hne)
              have hl91' := Nat.lt_of_lt_of_le hl91 hgr86.size
              refine wpAnyH_ready (rs := [10]) (by kernel_rfl) (by simp) ?_
              refine AllReadyH.cons rfl (fun K hK => ?_) AllReadyH.nil
              refine st_if rfl (app_Eo _ _ rfl w4.heap.size v86 ([] ++ out.take j) rfl (ho86) (some ⟨wa.heap.size, 0, none⟩) 1 1 [cutX x] rfl rfl (slat_one hl91' hr91') (fun h => by cases h) (by simp; omega) hSc.size (fun v92 wd ho92 hgr92 hob92 => ?_))
              have hSd' := hSc.grown hgr92 hSc.size (fun g hg => (ho86.lt g hg).1)
              refine hK.out (.put _ (some 92) v92) _ hSd' (fun hSd => ?_)
              simp only [Act.put, List.setIfInBounds_toArray, List.set_cons_zero, List.set_cons_succ]
              clear hK K
              refine wpAnyH_ready (rs := [14]) (by kernel_rfl) (by simp) ?_
              refine AllReadyH.cons rfl (fun K hK => ?_) AllReadyH.nil
              refine st_if rfl (app_Eo _ _ rfl w4.heap.size v92 ([] ++ out.take j ++ [cutX x]) rfl ho92 (cutQ 13 qo j co) (out.length - j) (co - j) (out.drop j) rfl (by simp) ((HSa.out.below hSd).cut j co (by omega)) (fun h => by have := HQ0.out (cutQ_isNone h); omega) (by simp; omega) hSd.size (fun v96 wf ho96 hgr96 hob96 => ?_))
              have hSf := hSd.grown hgr96 hSd.size (fun g hg => (ho92.lt g hg).1)
              refine hK.out (.put _ (some 96) v96) _ hSf (fun hSf => ?_)
              simp only [Act.put, List.setIfInBounds_toArray, List.set_cons_zero, List.set_cons_succ]
              clear hK K
              refine takeD (i := 15) (v := v96) 3 rfl rfl (by kernel_rfl) (by kernel_rfl) (by kernel_rfl) (fun _ _ _ h => h) (Or.inl ⟨rfl, fun w' hS => rfl⟩) hSf ?_
              simp only [Act.put, List.setIfInBounds_toArray, List.set_cons_zero, List.set_cons_succ]
              refine ⟨by kernel_rfl, ?_⟩
              have HF : Hid (OwnE entC 44 13 wf w1.heap.size v96 (stepS out x)) := by
                show OwnE _ _ _ _ _ _ _
                rw [HStB.out]; exact ho96.base HZ4.out
              have HSf := Lib.hid hSf
              go_wp2_with fail
              go_roundw
              case rel => exact ⟨k + 1, stepS out x, _, by omega, by go_num, HF.out, HFold.out, HA4.out.below HSf.out, HL3.out, HW4.out.trans (HSf.out.mono HW4.out.size), Nat.le_trans HZ4.out HSf.out.size⟩
              case measure => simp [intOf]; omega
          · refine st_if rfl (bs1_Eo _ rfl (cutX x) rfl ?_)
            have hr91 : (w4.drew.alloc (.cells (entC (cutX x)).toArray 44)).rangeAt w4.drew.heap.size 0 (entC (cutX x)) := range_whole (heap_alloc_new _ _)
            have hl91 : w4.drew.heap.size < (w4.drew.alloc (.cells (entC (cutX x)).toArray 44)).heap.size := by simp
            have ha91 : Below w4.drew.heap.size w4.drew (w4.drew.alloc (.cells (entC (cutX x)).toArray 44)) := below_alloc1 _ _
            have hSa' := hH.trans (ha91.mono hH.size)
            refine hK.out (.put _ (some 91) _) _ hSa' (fun hSa => ?_)
            simp only [Act.put, List.setIfInBounds_toArray, List.set_cons_zero, List.set_cons_succ]
            clear hK K
            generalize (w4.drew.alloc (.cells (entC (cutX x)).toArray 44)) = wa at *
            refine wpAnyH_ready (rs := [0]) (by kernel_rfl) (by simp) ?_
            refine AllReadyH.cons rfl (fun K hK => ?_) AllReadyH.nil
            refine st_if rfl (bs0_Eo rfl w4.heap.size hSa.size (fun v82 wb ho82 hgr82 hob82 => ?_))
            have hSb' := hSa.grown hgr82 hSa.size (fun g hg => by cases hg)
            refine hK.out (.put _ (some 82) v82) _ hSb' (fun hSb => ?_)
            simp only [Act.put, List.setIfInBounds_toArray, List.set_cons_zero, List.set_cons_succ]
            clear hK K
            refine wpAnyH_ready (rs := [4]) (by kernel_rfl) (by simp) ?_
            refine AllReadyH.cons rfl (fun K hK => ?_) AllReadyH.nil
            have hr91a := range_of_block hr91 (hgr82.block _ hl91 (fun e => by cases e))
            have hl91a := Nat.lt_of_lt_of_le hl91 hgr82.size
            refine st_if rfl (app_Eo _ _ rfl w4.heap.size v82 [] rfl (ho82) qo j co (out.take j) rfl (by rw [List.length_take]; omega) ((HSa.out.below hSb).take j) HQ0.out (by simp; omega) hSb.size (fun v86 wc ho86 hgr86 hob86 => ?_))
            have hSc' := hSb.grown hgr86 hSb.size (fun g hg => (ho82.lt g hg).1)
            refine hK.out (.put _ (some 86) v86) _ hSc' (fun hSc => ?_)
            simp only [Act.put, List.setIfInBounds_toArray, List.set_cons_zero, List.set_cons_succ]
            clear hK K
            have hne : some w4.drew.heap.size ≠ v82.ownBlock := fun e => by rw [hob82] at e; have := Option.some.inj e; omega
            have hr91' := range_of_block hr91a (hgr86.block _ hl91a hne)
            have hl91' := Nat.lt_of_lt_of_le hl91a hgr86.size
            refine wpAnyH_ready (rs := [10]) (by kernel_rfl) (by simp) ?_
            refine AllReadyH.cons rfl (fun K hK => ?_) AllReadyH.nil
            refine st_if rfl (app_Eo _ _ rfl w4.heap.size v86 ([] ++ out.take j) rfl (ho86) (some ⟨w4.drew.heap.size, 0, none⟩) 1 1 [cutX x] rfl rfl (slat_one hl91' hr91') (fun h => by cases h) (by simp; omega) hSc.size (fun v92 wd ho92 hgr92 hob92 => ?_))
            have hSd' := hSc.grown hgr92 hSc.size (fun g hg => (ho86.lt g hg).1)
            refine hK.out (.put _ (some 92) v92) _ hSd' (fun hSd => ?_)
            simp only [Act.put, List.setIfInBounds_toArray, List.set_cons_zero, List.set_cons_succ]
            clear hK K
            refine wpAnyH_ready (rs := [14]) (by kernel_rfl) (by simp) ?_
            refine AllReadyH.cons rfl (fun K hK => ?_) AllReadyH.nil
            refine st_if rfl (app_Eo _ _ rfl w4.heap.size v92 ([] ++ out.take j ++ [cutX x]) rfl ho92 (cutQ 13 qo j co) (out.length - j) (co - j) (out.drop j) rfl (by simp) ((HSa.out.below hSd).cut j co (by omega)) (fun h => by have := HQ0.out (cutQ_isNone h); omega) (by simp; omega) hSd.size (fun v96 wf ho96 hgr96 hob96 => ?_))
            have hSf := hSd.grown hgr96 hSd.size (fun g hg => (ho92.lt g hg).1)
            refine hK.out (.put _ (some 96) v96) _ hSf (fun hSf => ?_)
            simp only [Act.put, List.setIfInBounds_toArray, List.set_cons_zero, List.set_cons_succ]
            clear hK K
            refine takeD (i := 15) (v := v96) 3 rfl rfl (by kernel_rfl) (by kernel_rfl) (by kernel_rfl) (fun _ _ _ h => h) (Or.inl ⟨rfl, fun w' hS => rfl⟩) hSf ?_
            simp only [Act.put, List.setIfInBounds_toArray, List.set_cons_zero, List.set_cons_succ]
            refine ⟨by kernel_rfl, ?_⟩
            have HF : Hid (OwnE entC 44 13 wf w1.heap.size v96 (stepS out x)) := by
              show OwnE _ _ _ _ _ _ _
              rw [HStB.out]; exact ho96.base HZ4.out
            have HSf := Lib.hid hSf
            go_wp2_with fail
            go_roundw
            case rel => exact ⟨k + 1, stepS out x, _, by omega, by go_num, HF.out, HFold.out, HA4.out.below HSf.out, HL3.out, HW4.out.trans (HSf.out.mono HW4.out.size), Nat.le_trans HZ4.out HSf.out.size⟩
            case measure => simp [intOf]; omega
end Go.Proofs.Ytpnmficlebnajaa
