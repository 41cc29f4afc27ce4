/- HistoryFits: the walk. -/
import Derived.Test.YthimpgnagjgmdaaH13
import Derived.Deep.RegionHeld
namespace Go.Proofs.Ythimpgnagjgmdaa
open Go.RowKit

theorem takeD {P : Program} {md : Region.Mode} {ops : Array Oper} {Q : Exit → Act → World → Prop} {S : World → Prop} {i : Nat} {oi : Oper} {v : Value} {fuel : Nat} {listed : Array Bool} {a : Act} {w : World} (d : Nat) (hi : ops[i]? = some oi) (hd : oi.dst = some d)
    (hs : Region.noSelect ops = true) (hf : Region.free md ops listed i = true) (hr : (Region.ready md ops listed).contains i = true)
    (hQ : ∀ c a w, Q (.panic c) (a.put (some d) v) w → Q (.panic c) a w) (hy : YieldsIf P ops S oi v a) (hS : S w)
    (h : wpAnyH P md ops Q S fuel (listed.setIfInBounds i true) (a.put (some d) v) w) : wpAnyH P md ops Q S (fuel + 1) listed a w :=
  wpAnyH_take hi hs hf hr (by rw [hd]; exact hQ) hy hS (by rw [hd]; exact h)
theorem stG {P : Program} {ops : Array Oper} {o : Oper} {a : Act} {w : World} {K : Act → World → Prop} {Q : Exit → Act → World → Prop} {E : Prop} (hg : Region.wanted o (yielded ops a.tmps) = true) (h : o.wp P a w K Q) : if Region.wanted o (yielded ops a.tmps) = true then o.wp P a w K Q else E := by
  rw [if_pos hg]; exact h
theorem OkOwn.n20 {B : Nat} {w : World} {x : Ca} (h : OkOwn B w x) : x.n ≤ 20 := by
  obtain ⟨ws, h1, h2⟩ := h
  obtain ⟨q, c, hv, _⟩ := h1.at wrC_len
  simp only [Value.slice.injEq] at hv
  omega
set_option maxRecDepth 100000 in
set_option maxHeartbeats 16000000 in
theorem HistoryFits_walkI (q1 : Option Addr) (n1 c1 : Nat) (xs1 : List Ca) (q2 : Option Addr) (n2 c2 : Nat) (ord : List Int) (w : World)
    (hn1 : xs1.length = n1) (hs1 : SlAt caC 51 w q1 xs1) (ho1 : ∀ x ∈ xs1, OkIn w x) (hn2 : ord.length = n2) (hc2 : n2 ≤ c2) (hs2 : SlAt eI 1 w q2 ord) :
    Calls Try.prog 4 #[.slice q1 n1 c1, .slice q2 n2 c2] w fun e w' => e = .returned (.bool true) ∧ Below w.heap.size w w' := by
  obtain ⟨m, hm, hmn, hm30⟩ : ∃ m : Nat, min (n2 : Int) 30 = (m : Int) ∧ m ≤ n2 ∧ m ≤ 30 := ⟨min n2 30, by omega, Nat.min_le_left _ _, Nat.min_le_right _ _⟩
  have HM := Lib.hid hm
  have HMn := Lib.hid hmn
  have HC2 := Lib.hid hc2
  have HN1 := Lib.hid hn1
  have HS1 := Lib.hid hs1
  have HO1 := Lib.hid ho1
  have HOrd : Hid ((ord.take m).length = m) := by show _ = _; rw [List.length_take]; omega
  have HSo := Lib.hid (hs2.take m)
  clear hm hmn hc2 hn1 hs1 ho1 hn2 hs2
  go_enter Try.func4, Try.ntmps4
  go_upto_region 1 with fail
  refine wp_region_held_drew (S := fun w' => Below w.heap.size w w') (by kernel_rfl) (Below.refl _ _).drew (fun hH => ?_)
  show wpAnyH Try.prog Region.Mode.any _ _ _ 9 #[false, false, false, false, false, false, false, false, false] _ _
  refine takeD (i := 0) (v := .slice q1 n1 c1) 11 rfl rfl (by kernel_rfl) (by kernel_rfl) (by kernel_rfl) (fun _ _ _ h => h) (Or.inl ⟨rfl, fun w' hS => rfl⟩) hH ?_
  simp only [Act.put, List.setIfInBounds_toArray, List.set_cons_zero, List.set_cons_succ]
  refine takeD (i := 2) (v := .slice q2 n2 c2) 13 rfl rfl (by kernel_rfl) (by kernel_rfl) (by kernel_rfl) (fun _ _ _ h => h) (Or.inl ⟨rfl, fun w' hS => rfl⟩) hH ?_
  simp only [Act.put, List.setIfInBounds_toArray, List.set_cons_zero, List.set_cons_succ]
  refine takeD (i := 3) (v := .slice q2 n2 c2) 14 rfl rfl (by kernel_rfl) (by kernel_rfl) (by kernel_rfl) (fun _ _ _ h => h) (Or.inl ⟨rfl, fun w' hS => rfl⟩) hH ?_
  simp only [Act.put, List.setIfInBounds_toArray, List.set_cons_zero, List.set_cons_succ]
  refine takeD (i := 4) (v := .int .i64 (n2 : Int)) 15 rfl rfl (by kernel_rfl) (by kernel_rfl) (by kernel_rfl) (fun _ _ _ h => h) (Or.inl ⟨rfl, fun w' hS => exec_lenI 14 rfl q2 n2 c2 rfl⟩) hH ?_
  simp only [Act.put, List.setIfInBounds_toArray, List.set_cons_zero, List.set_cons_succ]
  refine takeD (i := 5) (v := .int .i64 (m : Int)) 16 rfl rfl (by kernel_rfl) (by kernel_rfl) (by kernel_rfl) (fun _ _ _ h => h) (Or.inl ⟨rfl, fun w' hS => exec_min30 15 rfl (n2 : Int) m HM.out rfl⟩) hH ?_
  simp only [Act.put, List.setIfInBounds_toArray, List.set_cons_zero, List.set_cons_succ]
  refine takeD (i := 6) (v := .slice q2 m c2) 17 rfl rfl (by kernel_rfl) (by kernel_rfl) (by kernel_rfl) (fun _ _ _ h => h) (Or.inl ⟨rfl, fun w' hS => exec_sl30 (.tmp 13) (.tmp 16) rfl q2 n2 c2 m HMn.out HC2.out rfl rfl⟩) hH ?_
  simp only [Act.put, List.setIfInBounds_toArray, List.set_cons_zero, List.set_cons_succ]
  refine wpAnyH_ready (rs := [1]) (by kernel_rfl) (by simp) ?_
  refine AllReadyH.cons rfl (fun K hK => ?_) AllReadyH.nil
  refine stG rfl ?_
  go_wp2_with (go_at_call 5; (refine (cut30_any q1 n1 c1 xs1 _ HN1.out (HS1.out.below hH) (fun x hx => (HO1.out x hx).below hH)).mono ?_); rintro e W2 ⟨gv, rfl, ys, hy30, hyo, hyw, hbn⟩)
  have hHn : Below w.heap.size w W2 := hH.trans (hbn.mono hH.size)
  refine hK.out _ _ hHn (fun hHx => ?_)
  have HYo := Lib.hid (hyo.base hH.size)
  have HYw : Hid (∀ y ∈ ys, OkIn W2 y ∧ y.n ≤ 20) := fun y hy => ⟨(hyw y hy).inn, (hyw y hy).n20⟩
  clear hyo hyw hK K hH hbn hHx
  have hH := hHn
  clear hHn
  simp only [List.setIfInBounds_toArray, List.set_cons_zero, List.set_cons_succ]
  refine takeD (i := 7) (v := gv) 0 rfl rfl (by kernel_rfl) (by kernel_rfl) (by kernel_rfl) (fun _ _ _ h => h) (Or.inl ⟨rfl, fun w' hS => rfl⟩) hH ?_
  simp only [Act.put, List.setIfInBounds_toArray, List.set_cons_zero, List.set_cons_succ]
  refine takeD (i := 8) (v := .slice q2 m c2) 1 rfl rfl (by kernel_rfl) (by kernel_rfl) (by kernel_rfl) (fun _ _ _ h => h) (Or.inl ⟨rfl, fun w' hS => rfl⟩) hH ?_
  simp only [Act.put, List.setIfInBounds_toArray, List.set_cons_zero, List.set_cons_succ]
  refine ⟨by kernel_rfl, ?_⟩
  have HB2 := Lib.hid hH
  have HSo2 := Lib.hid (HSo.out.below hH)
  obtain ⟨q, c, rfl, _, _, hs, _⟩ := HYo.out.at caC_len
  have HSy := Lib.hid hs
  clear hH hs HYo HM HMn HC2 HSo HS1 HO1 HN1
  obtain ⟨ny, hny⟩ : ∃ ny, ny = ys.length := ⟨_, rfl⟩
  rw [← hny]
  have HNy := Lib.hid hny
  have hny30 : ny ≤ 30 := by omega
  clear hny
  generalize ord.take m = od at *
  have KF := Lib.hid (fits_any q ny c ys q2 m c2 od W2 HNy.out.symm HSy.out HOrd.out HSo2.out hm30)
  go_upto_region 3 with (go_at_call 14; (refine KF.out.mono ?_); rintro e W3 ⟨⟨a1, a2, a3⟩, rfl, hf, hb⟩; have HF := Lib.hid hf; have HB3 := Lib.hid (HB2.out.trans (hb.mono HB2.out.size)); have HS3 := Lib.hid (HSy.out.below hb); have HO3 := Lib.hid (HSo2.out.below hb); have HY3 : Hid (∀ y ∈ ys, OkIn W3 y ∧ y.n ≤ 20) := (fun y hy => ⟨(HYw.out y hy).1.below hb, (HYw.out y hy).2⟩); clear hf hb)
  clear KF HB2 HSy HSo2 HYw
  have KO := Lib.hid (ofs30_any q ny c ys W3 HNy.out.symm hny30 HS3.out (fun y hy => (HY3.out y hy).1) (fun y hy => (HY3.out y hy).2))
  go_upto_region 4 with (first
    | (go_at_call 6; (refine KO.out.mono ?_); rintro e W4 ⟨gv, rfl, zs, hz, hzo, hb⟩; obtain ⟨q3, c3, rfl, _, _, hs3, _⟩ := hzo.at caC_len; have HT := Lib.hid (trs_core hz); have HB4 := Lib.hid (HB3.out.trans (hb.mono HB3.out.size)); have KR := Lib.hid (refFits_any q3 zs.length c3 zs q2 m c2 od W4 rfl hs3 HOrd.out (HO3.out.below hb) hm30); clear hz hzo hs3 hb)
    | (go_at_call 15; (refine KR.out.mono ?_); rintro e W5 ⟨⟨b1, b2, b3⟩, rfl, hf, hb⟩; have HF2 := Lib.hid hf; have HB5 := Lib.hid (HB4.out.trans (hb.mono HB4.out.size)); clear hf hb))
  have hu : (a1, a2, a3) = (b1, b2, b3) := by
    have h2 := HF2.out
    rw [HT.out] at h2
    exact HF.out.uniq h2
  simp only [Prod.mk.injEq] at hu
  obtain ⟨rfl, rfl, rfl⟩ := hu
  have KK := Lib.hid (known30_any W5)
  clear HF HF2 HT KO KR HB3 HB4 HS3 HO3 HY3
  go_wp2_with (go_at_call 9; (refine KK.out.mono ?_); rintro e W6 ⟨rfl, hb⟩; have HB6 := Lib.hid (HB5.out.trans (hb.mono HB5.out.size)); clear hb)
  go_ret
  exact ⟨ret_bool (by simp), HB6.out⟩
end Go.Proofs.Ythimpgnagjgmdaa
