/- SheetBack, walked (but for Sheet). -/
import Derived.Test.YtpnmficlebnajaaF13
import Derived.Test.YtpnmficlebnajaaF9
namespace Go.Proofs.Ytpnmficlebnajaa
open Go.RowKit

theorem getT_snoc {x : List Ent} (h : Good x) {k : Nat} (hk : k < x.length) (n : List UInt8) :
    getT (x.take (k + 1)) n = (if x[k].n == n then x[k].t else getT (x.take k) n) ∧ getB (x.take (k + 1)) n = (if x[k].n == n then true else getB (x.take k) n) := by
  unfold getT getB
  rw [getR_snoc h hk n]
  split <;> exact ⟨rfl, rfl⟩
theorem Good.small {x : List Ent} (h : Good x) : ∀ y ∈ x, y.t.size ≤ maxLen := fun y hy => by
  have := (h.each y hy).2
  unfold maxLen; omega
theorem neqB (b : Bool) (W : World) : (binOp .neq 4 (.bool b) (.bool b)).run Try.prog W = .ok (.bool false) W := by
  go_simp

set_option maxRecDepth 100000 in
set_option maxHeartbeats 4000000 in
theorem SheetBack_walkS (HSH : ∀ (q : Option Addr) (l : List Ent) (n cap : Nat) (w : World), l.length = n → n ≤ cap → cap ≤ maxLen → SlAt entC 13 w q l → (∀ x ∈ l, x.t.size ≤ maxLen) →
      Calls Try.prog 16 #[.slice q n cap] w fun e w' => Below w.heap.size w w' ∧ ∃ v', e = .returned v' ∧ OwnE entC 44 13 w' w.heap.size v' (sheetL l))
    (q : Option Addr) (l : List Ent) (n cap : Nat) (nm : List UInt8) (w : World) (hn : l.length = n) (hc : n ≤ cap) (hm : cap ≤ maxLen) (hq : SlAt entC 13 w q l) (hs : ∀ x ∈ l, x.t.size ≤ maxLen) (h12 : nm.length = 12) :
    Calls Try.prog 5 #[.slice q n cap, .agg (bC nm)] w fun e w' => e = .returned (.bool true) ∧ Below w.heap.size w w' := by
  have HW0 : Hid (Below w.heap.size w (w.alloc (.cells (bC nm) 40))) := below_alloc1 _ _
  have HSh := Lib.hid (HSH q l n cap (w.alloc (.cells (bC nm) 40)) hn hc hm (hq.below HW0.out) hs)
  have H12 := Lib.hid h12
  have HBX0 : Hid ((w.alloc (.cells (bC nm) 40)).heap[w.heap.size]? = some (.cells (bC nm) 40)) := heap_alloc_new _ _
  have HZ0 : Hid (w.heap.size < (w.alloc (.cells (bC nm) 40)).heap.size) := by show _ < _; simp
  have HGd := Lib.hid (sheetL_good l)
  clear hn hc hm hq hs h12 HSH
  generalize sheetL l = x at *
  go_enter Try.func5, Try.ntmps5
  go_upto_region 1 with fail
  generalize w.alloc (.cells (bC nm) 40) = W0 at *
  go_upto_region 2 with (go_at_call 16; (refine HSh.out.mono ?_); rintro e w1 ⟨hb1, v1, rfl, ho1⟩; obtain ⟨q1, cap1, rfl, hc1, hm1, hq1, hq1'⟩ := ho1.at entC_len; have HB1 := Lib.hid hb1; have HQ1 := Lib.hid hq1; have HQ1' := Lib.hid hq1'; have HM1 := Lib.hid hm1; clear hb1 ho1 hq1 hq1')
  have HBX1 : Hid (w1.heap[w.heap.size]? = some (.cells (bC nm) 40)) := by show _ = _; rw [HB1.out.block _ HZ0.out]; exact HBX0.out
  have HN1 : Hid (w1.rangeAt w.heap.size 0 (bC nm).toList) := range_whole (by rw [HBX1.out, toArr])
  have HG := Lib.hid (get_any q1 x x.length cap1 nm w1 rfl hc1 hm1 HQ1.out H12.out)
  have hx16 : x.length ≤ 16 := HGd.out.len
  unfold maxLen at hm1
  go_upto_region 3 with (first
    | (with_reducible refine ld_N rfl _ rfl w.heap.size 0 nm H12.out rfl HN1.out ?_)
    | (go_at_call 17; (refine HG.out.mono ?_); rintro e w2 ⟨rfl, hb2⟩; have HB2 := Lib.hid hb2; clear hb2))
  have HQ2 := Lib.hid (HQ1.out.below HB2.out)
  have HBX2 : Hid (w2.heap[w.heap.size]? = some (.cells (bC nm) 40)) := by show _ = _; rw [HB2.out.block _ (lt_heap HBX1.out)]; exact HBX1.out
  have HW2 : Hid (Below w.heap.size w w2) := (HW0.out.trans (HB1.out.mono HW0.out.size)).trans (HB2.out.mono (by have := HW0.out.size; have := HB1.out.size; omega))
  clear HQ1 HN1 HBX1 HG HB2
  have HK := Lib.hid known_any
  have HPr : Hid (∀ W, Below w2.heap.size w2 W → Calls Try.prog 8 #[.slice q1 x.length cap1] W fun e w' => e = .returned (.tuple #[.string ⟨(printT x).toArray⟩, .int .i64 (printE x : Nat)]) ∧ Below W.heap.size W w') := fun W hW => print_any q1 x x.length cap1 W rfl hc1 HM1.out (HQ2.out.below hW) HGd.out.small
  have HOf : Hid (∀ W, Below w2.heap.size w2 W → Calls Try.prog 11 #[.slice q1 x.length cap1] W fun e w' => Below W.heap.size W w' ∧ ∃ v', e = .returned v' ∧ OwnE rentC 77 2 w' W.heap.size v' (x.map toR)) := fun W hW => by
    have := of_any q1 x x.length cap1 W rfl hc1 HM1.out (HQ2.out.below hW) HGd.out.small
    rw [ofL_eq, HGd.out.cut] at this; exact this
  have HPT : Hid (printE x = 0 → (printT x).length ≤ 1200 ∧ parseS (printT x) = (x, 0, 0)) := fun h => by
    refine ⟨?_, HGd.out.parsed h⟩
    have h2 := HGd.out.print
    rw [h] at h2
    rw [printT, if_pos h]
    apply Nat.le_of_not_lt; intro h4; rw [if_pos h4] at h2; cases h2
  have HPE : Hid (printE x = 0 ∨ printE x = 2) := by
    have h2 := HGd.out.print
    show _ ∨ _
    split at h2
    · exact .inr h2
    · exact .inl h2
  go_wp2_with fail
  go_loopw [8, 9, 10] (fun t b i wr => ∃ k : Nat, k ≤ x.length ∧ i = .int .i64 k ∧ t = .string (getT (x.take k) nm) ∧ b = .bool (getB (x.take k) nm) ∧ Hid (Below w2.heap.size w2 wr)) (fun _ _ i _ => x.length - (intOf i).toNat)
  case atStart => exact ⟨0, Nat.zero_le _, rfl, rfl, rfl, Below.refl _ _⟩
  case round =>
    obtain ⟨k, hk, rfl, rfl, rfl, HV⟩ := hrel
    by_cases hlt : k < x.length
    · have hlt' : (k : Int) < x.length := by omega
      have hk0 : (0 : Int) ≤ (k : Int) := by omega
      obtain ⟨b, ob, rfl, hb, hr⟩ := HQ2.out k hlt
      have HR : Hid (wr.rangeAt b (ob + k * 13) (entC x[k])) := range_of_block hr (HV.out.block b hb)
      have hbw : b < wr.heap.size := Nat.lt_of_lt_of_le hb HV.out.size
      have hgw : w.heap.size < wr.heap.size := Nat.lt_of_lt_of_le (lt_heap HBX2.out) HV.out.size
      have HBX3 : Hid (wr.heap[w.heap.size]? = some (.cells (bC nm) 40)) := by show _ = _; rw [HV.out.block _ (lt_heap HBX2.out)]; exact HBX2.out
      have HN3 : Hid (wr.rangeAt w.heap.size 0 (bC nm).toList) := range_whole (by rw [HBX3.out, toArr])
      have HXN := Lib.hid (ent_name HR.out)
      have hxt : wr.cell? ⟨b, ob + k * 13 + 12, none⟩ = some (.string x[k].t) := ent_text HR.out
      have hd3 := fun d os => cell_regrown hxt d os
      have HX12 : Hid (x[k].n.length = 12) := x[k].hn
      have HS := Lib.hid (getT_snoc HGd.out hlt nm)
      clear hr
      generalize x[k].n = xn at *
      generalize x[k].t = xt at *
      have he23 : ∀ W : World, (binOp .eql 40 (.agg (bC xn)) (.agg (bC nm))).run Try.prog W = .ok (.bool (xn == nm)) W := fun W => eql23 W xn nm HX12.out H12.out
      cases heq : (xn == nm)
      all_goals
        rw [heq] at he23 HS
        clear heq
        go_upto_region 7 with fail
        refine wp_region_quiet_below (by kernel_rfl) (by kernel_rfl) ?_
        repeat (first
          | (with_reducible refine wq_N rfl _ rfl b (ob + k * 13) xn HX12.out rfl HXN.out hbw ?_; simp only [Act.put, List.setIfInBounds_toArray, List.set_cons_zero, List.set_cons_succ])
          | (with_reducible refine wq_N rfl _ rfl w.heap.size 0 nm H12.out rfl HN3.out hgw ?_; simp only [Act.put, List.setIfInBounds_toArray, List.set_cons_zero, List.set_cons_succ])
          | go_big_quiet_step (fail))
        refine wpQuiet_nil ?_
        rintro _ ⟨⟨dq, osq⟩, rfl⟩
        have hb2 : Below w2.heap.size w2 (Sort.grow (redrawn wr dq) osq) := HV.out.trans ((below_regrown wr dq osq).mono HV.out.size)
        have HV2 := Lib.hid hb2
        clear hb2
        go_wp2_with fail
        go_roundw
        case rel => exact ⟨k + 1, by omega, by go_num, by rw [HS.out.1]; rfl, by rw [HS.out.2]; rfl, HV2.out⟩
        case measure => simp [intOf]; omega
    · obtain rfl : k = x.length := by omega
      simp only [List.take_length]
      have HPr2 := Lib.hid (HPr.out wr HV.out)
      have n1 := neq9s (getT x nm)
      have n2 := neqB (getB x nm)
      generalize getT x nm = tt at *
      generalize getB x nm = bb at *
      rcases HPE.out with he | he
      · have HPT2 := Lib.hid (HPT.out he)
        rw [he] at HPr2
        have HPar : Hid (∀ W, Calls Try.prog 13 #[.string ⟨(printT x).toArray⟩] W fun e w' => ParPost W (x, 0, 0) e w') := fun W => by
          have := sheetParse_any ⟨(printT x).toArray⟩ W (by rw [← size_len]; show (printT x).length ≤ _; have := HPT2.out.1; omega)
          have e : (⟨(printT x).toArray⟩ : ByteArray).data.toList = printT x := rfl
          rw [e, HPT2.out.2] at this; exact this
        clear HPT HPE he
        generalize (⟨(printT x).toArray⟩ : ByteArray) = c at *
        go_wp2_with (first
          | (go_at_call 8; (refine HPr2.out.mono ?_); rintro e w3 ⟨rfl, hb3⟩; have HB3 := Lib.hid (HV.out.trans (hb3.mono HV.out.size)); clear hb3)
          | (go_at_call 13; (refine (HPar.out _).mono ?_); rintro e w4 ⟨hb4, v4, rfl, ho4⟩; obtain ⟨q4, cap4, rfl, hc4, hm4, hq4, hq4'⟩ := ho4.at entC_len; have HQ4 := Lib.hid hq4; have HB4 := Lib.hid (HB3.out.trans (hb4.mono HB3.out.size)); clear ho4 hq4 hq4' hb4)
          | (go_at_call 12; (refine (HK.out _).mono ?_); rintro e w5 ⟨rfl, hb5⟩; have HB5 := Lib.hid (HB4.out.trans (hb5.mono HB4.out.size)); have HQ5 := Lib.hid (HQ4.out.below hb5); clear hb5)
          | (go_at_call 11; (refine (HOf.out _ HB5.out).mono ?_); rintro e w6 ⟨hb6, v6, rfl, ho6⟩; obtain ⟨q6, cap6, hv6, hc6, hm6, hq6, hq6'⟩ := ho6.at rentC_len; rw [List.length_map] at hv6 hc6; subst hv6; have HQ6 := Lib.hid hq6; have HQ56 := Lib.hid (HQ5.out.below hb6); have HB6 := Lib.hid (HB5.out.trans (hb6.mono HB5.out.size)); clear ho6 hq6 hq6' hb6)
          | (go_at_call 15; (refine (same_any _ _ x _ _ _ _ rfl hc4 hm4 hc6 hm6 HQ56.out HQ6.out).mono ?_); rintro e w7 ⟨rfl, hb7⟩; have HB7 := Lib.hid (HB6.out.trans (hb7.mono HB6.out.size)); clear hb7))
        go_ret
        exact ⟨rfl, HW2.out.trans (HB7.out.mono HW2.out.size)⟩
      · rw [he] at HPr2
        clear HPT HPE he
        go_wp2_with (first
          | (go_at_call 8; (refine HPr2.out.mono ?_); rintro e w3 ⟨rfl, hb3⟩; have HB3 := Lib.hid (HV.out.trans (hb3.mono HV.out.size)); clear hb3)
          | (go_at_call 12; (refine (HK.out _).mono ?_); rintro e w5 ⟨rfl, hb5⟩; have HB5 := Lib.hid (HB3.out.trans (hb5.mono HB3.out.size)); clear hb5))
        go_ret
        exact ⟨rfl, HW2.out.trans (HB5.out.mono HW2.out.size)⟩
end Go.Proofs.Ytpnmficlebnajaa
