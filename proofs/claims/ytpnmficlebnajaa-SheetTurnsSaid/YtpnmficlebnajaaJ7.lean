/- The document's Over. -/
import Derived.Test.YtpnmficlebnajaaJ6
namespace Go.Proofs.Ytpnmficlebnajaa
open Go.RowKit

theorem sizR' (y : REnt) : (Try.prog.info? 77).map (·.size) = some (rentC y).length := by rw [sizR]; rfl
theorem ld_R {ops : Array Oper} {rest : List Oper} {o : Oper} {a : Act} {w : World} {Q : Exit → Act → World → Prop} (hw : Region.wanted o (yielded ops a.tmps) = true) (x : Operand) (ho : o.op = .load 77 x) (b i : Nat) (y : REnt) (hx : a.eval x = .pointer (some ⟨b, i, none⟩)) (hc : w.rangeAt b i (rentC y))
    (h : wpList Try.prog ops Q rest (a.put o.dst (.agg (rentC y).toArray)) w) : wpList Try.prog ops Q (o :: rest) a w :=
  wl_ldr hw _ x ho b i (rentC y) _ Try.underlying77 rfl (sizR' y) hx hc h
/-- How far a merge is. -/
structure AtO (a b : List Ent) (i k : Nat) (o : List Ent) : Prop where
  out : o ++ overL (a.drop i) (b.drop k) = overL a b
  len : o.length ≤ i + k
theorem AtO.nil (a b : List Ent) : AtO a b 0 0 [] := ⟨rfl, Nat.le_refl _⟩
theorem AtO.left {a b : List Ent} {i k : Nat} {o : List Ent} (h : AtO a b i k o) (hi : i < a.length) (hl : ∀ hk : k < b.length, lessR a[i].n b[k].n = true) : AtO a b (i + 1) k (o ++ [a[i]]) := by
  refine ⟨?_, by rw [List.length_append, List.length_singleton]; have := h.len; omega⟩
  rw [← h.out, List.append_assoc]
  congr 1
  rw [List.drop_eq_getElem_cons hi]
  rcases Nat.lt_or_ge k b.length with hk | hk
  · rw [List.drop_eq_getElem_cons hk, over_less (hl hk)]; rfl
  · rw [List.drop_eq_nil_of_le hk, over_nil, over_nil]; rfl
theorem AtO.both {a b : List Ent} {i k : Nat} {o : List Ent} (h : AtO a b i k o) (hi : i < a.length) (hk : k < b.length) (he : a[i].n = b[k].n) : AtO a b (i + 1) (k + 1) (o ++ [b[k]]) := by
  refine ⟨?_, by rw [List.length_append, List.length_singleton]; have := h.len; omega⟩
  rw [← h.out, List.append_assoc]
  congr 1
  rw [List.drop_eq_getElem_cons hi, List.drop_eq_getElem_cons hk, over_same he]; rfl
theorem AtO.right {a b : List Ent} {i k : Nat} {o : List Ent} (h : AtO a b i k o) (hk : k < b.length) (hl : ∀ hi : i < a.length, lessR a[i].n b[k].n = false ∧ a[i].n ≠ b[k].n) : AtO a b i (k + 1) (o ++ [b[k]]) := by
  refine ⟨?_, by rw [List.length_append, List.length_singleton]; have := h.len; omega⟩
  rw [← h.out, List.append_assoc]
  congr 1
  rw [List.drop_eq_getElem_cons hk]
  rcases Nat.lt_or_ge i a.length with hi | hi
  · rw [List.drop_eq_getElem_cons hi, over_more (hl hi).1 (hl hi).2]; rfl
  · rw [List.drop_eq_nil_of_le hi, nil_over, nil_over]; rfl
theorem AtO.end_ {a b : List Ent} {i k : Nat} {o : List Ent} (h : AtO a b i k o) (hi : a.length ≤ i) (hk : b.length ≤ k) : o = overL a b := by
  rw [← h.out, List.drop_eq_nil_of_le hi, List.drop_eq_nil_of_le hk, nil_over, List.append_nil]

set_option maxRecDepth 100000 in
set_option maxHeartbeats 8000000 in
theorem rover_any (qa : Option Addr) (a : List Ent) (na ca : Nat) (qb : Option Addr) (b : List Ent) (nb cb : Nat) (w : World) (hna : a.length = na) (hqa : SlAt rentC 2 w qa (a.map toR)) (hnb : b.length = nb) (hqb : SlAt rentC 2 w qb (b.map toR))
    (ha : ∀ e ∈ a, rightB e.n = true) (hb : ∀ e ∈ b, rightB e.n = true) (hla : na ≤ 1000) (hlb : nb ≤ 1000) :
    Calls Try.prog 21 #[.slice qa na ca, .slice qb nb cb] w fun e w' => Below w.heap.size w w' ∧ ∃ v', e = .returned v' ∧ OwnE rentC 77 2 w' w.heap.size v' ((overL a b).map toR) := by
  have HQA := Lib.hid hqa
  have HQB := Lib.hid hqb
  have HNA := Lib.hid hna
  have HNB := Lib.hid hnb
  have HGRA := Lib.hid ha
  have HGRB := Lib.hid hb
  clear hqa hqb hna hnb ha hb
  go_enter Try.func21, Try.ntmps21
  go_wp2_with fail
  go_loopw [5, 6, 7] (fun v i k wr => ∃ (i' k' : Nat) (o : List Ent), i' ≤ na ∧ k' ≤ nb ∧ i = .int .i64 i' ∧ k = .int .i64 k' ∧ Hid (AtO a b i' k' o) ∧ Hid (Below w.heap.size w wr) ∧ Hid (OwnE rentC 77 2 wr w.heap.size v (o.map toR))) (fun _ i k _ => (na - (intOf i).toNat) + (nb - (intOf k).toNat))
  case atStart => exact ⟨0, 0, [], Nat.zero_le _, Nat.zero_le _, rfl, rfl, AtO.nil a b, Below.refl _ _, OwnE.nil _ _⟩
  case round =>
    obtain ⟨i, k, o, hi, hk, rfl, rfl, HA, HW, HO⟩ := hrel
    by_cases hki : ¬ i < na ∧ ¬ k < nb
    · obtain ⟨h1, h2⟩ := hki
      obtain rfl : i = na := by omega
      obtain rfl : k = nb := by omega
      have HE : Hid (o = overL a b) := HA.out.end_ (by rw [HNA.out]; omega) (by rw [HNB.out]; omega)
      go_wp2_with fail
      go_ret
      exact ⟨HW.out, _, rfl, by have := HO.out; rw [HE.out] at this; exact this⟩
    · have hol : o.length ≤ 1000000 := by have := HA.out.len; omega
      have HOl : Hid ((o.map toR).length ≤ 1000000) := by show _ ≤ _; rw [List.length_map]; exact hol
      clear hol
      by_cases hkn : k < nb
      · by_cases hin : i < na
        · have hAi : i < a.length := by rw [HNA.out]; omega
          have hAi' : (i : Int) < na := by omega
          have hA0 : (0 : Int) ≤ (i : Int) := by omega
          obtain ⟨ba, oa, rfl, hba, hrA⟩ := HQA.out i (by simpa using hAi)
          rw [List.getElem_map] at hrA
          have HRA : Hid (wr.rangeAt ba (oa + i * 2) (rentC (toR a[i]))) := range_of_block hrA (HW.out.block ba hba)
          have hcA : wr.cell? ⟨ba, oa + i * 2, none⟩ = some (.string (tq a[i].n)) := (rentC_cells HRA.out).1
          have hcAd := fun d os => cell_regrown hcA d os
          have hrAR : rightB a[i].n = true := HGRA.out _ (List.getElem_mem hAi)
          have hbaw : ba < wr.heap.size := Nat.lt_of_lt_of_le hba HW.out.size
          have HPA : Hid (∀ W : World, Calls Try.prog 34 #[.string (tq a[i].n)] W fun e w' => e = .returned (.agg (bC a[i].n)) ∧ Below W.heap.size W w') := fun W => padN_any _ a[i].hn hrAR W
          clear hrA
          have hBi : k < b.length := by rw [HNB.out]; omega
          have hBi' : (k : Int) < nb := by omega
          have hB0 : (0 : Int) ≤ (k : Int) := by omega
          obtain ⟨bb, ob, rfl, hbb, hrB⟩ := HQB.out k (by simpa using hBi)
          rw [List.getElem_map] at hrB
          have HRB : Hid (wr.rangeAt bb (ob + k * 2) (rentC (toR b[k]))) := range_of_block hrB (HW.out.block bb hbb)
          have hcB : wr.cell? ⟨bb, ob + k * 2, none⟩ = some (.string (tq b[k].n)) := (rentC_cells HRB.out).1
          have hcBd := fun d os => cell_regrown hcB d os
          have hrBR : rightB b[k].n = true := HGRB.out _ (List.getElem_mem hBi)
          have hbbw : bb < wr.heap.size := Nat.lt_of_lt_of_le hbb HW.out.size
          have HPB : Hid (∀ W : World, Calls Try.prog 34 #[.string (tq b[k].n)] W fun e w' => e = .returned (.agg (bC b[k].n)) ∧ Below W.heap.size W w') := fun W => padN_any _ b[k].hn hrBR W
          clear hrB
          have HX : Hid (∀ h : lessR a[i].n b[k].n = true, AtO a b (i + 1) k (o ++ [a[i]])) := fun h => HA.out.left hAi fun _ => h
          have HY : Hid (a[i].n = b[k].n → AtO a b (i + 1) (k + 1) (o ++ [b[k]])) := fun h => HA.out.both hAi hBi h
          have HZ : Hid (lessR a[i].n b[k].n = false → a[i].n ≠ b[k].n → AtO a b i (k + 1) (o ++ [b[k]])) := fun h1 h2 => HA.out.right hBi fun _ => ⟨h1, h2⟩
          have HTE := Lib.hid (tq_eq hrAR hrBR)
          have HLs : Hid (∀ W : World, Calls Try.prog 33 #[.agg (bC a[i].n), .agg (bC b[k].n)] W fun e w' => e = .returned (.bool (lessR a[i].n b[k].n)) ∧ Below W.heap.size W w') := fun W => refLess_any _ _ W a[i].hn b[k].hn
          have hkb : ((k : Int) == (nb : Int)) = false := by simp; omega
          generalize a[i] = x at *
          generalize b[k] = y at *
          generalize hxt : tq x.n = xt at *
          generalize hyt : tq y.n = yt at *
          cases hle : lessR x.n y.n
          · rw [hle] at HLs
            go_upto_region 4 with fail
            refine wp_region_quiet_below (by kernel_rfl) (by kernel_rfl) ?_
            repeat (first
              | go_big_quiet_skip
              | go_big_quiet_step (first | (with_reducible exact rg_call HPA.out _ _) | (with_reducible exact rg_call HPB.out _ _) | (with_reducible exact rg_call HLs.out _ _)))
            refine wpQuiet_nil ?_
            rintro _ ⟨⟨dq, osq⟩, rfl⟩
            have hbg := below_regrown wr dq osq
            have HW2 : Hid (Below w.heap.size w (Sort.grow (redrawn wr dq) osq)) := HW.out.trans (hbg.mono HW.out.size)
            have HO2 := Lib.hid (HO.out.below hbg)
            have HRA2 : Hid ((Sort.grow (redrawn wr dq) osq).rangeAt ba (oa + i * 2) (rentC (toR x))) := range_of_block HRA.out (hbg.block ba hbaw)
            have HRB2 : Hid ((Sort.grow (redrawn wr dq) osq).rangeAt bb (ob + k * 2) (rentC (toR y))) := range_of_block HRB.out (hbg.block bb hbbw)
            have hcA2 : (Sort.grow (redrawn wr dq) osq).cell? ⟨ba, oa + i * 2, none⟩ = some (.string xt) := by rw [← hxt]; exact (rentC_cells HRA2.out).1
            have hcB2 : (Sort.grow (redrawn wr dq) osq).cell? ⟨bb, ob + k * 2, none⟩ = some (.string yt) := by rw [← hyt]; exact (rentC_cells HRB2.out).1
            have hbaw2 : ba < (Sort.grow (redrawn wr dq) osq).heap.size := Nat.lt_of_lt_of_le hbaw hbg.size
            have hbbw2 : bb < (Sort.grow (redrawn wr dq) osq).heap.size := Nat.lt_of_lt_of_le hbbw hbg.size
            clear HW HO HRA HRB hcA hcB hcAd hcBd hbg hbaw hbbw
            generalize Sort.grow (redrawn wr dq) osq = wr at *
            have HW : Hid (Below w.heap.size w wr) := HW2.out
            have HO := HO2
            have HRA := HRA2
            have HRB := HRB2
            have hcAd := fun d os => cell_regrown hcA2 d os
            have hcBd := fun d os => cell_regrown hcB2 d os
            have hbaw := hbaw2
            have hbbw := hbbw2
            clear HW2 HO2 HRA2 HRB2 hbaw2 hbbw2
            by_cases hxy : x.n = y.n
            · have HN1 := Lib.hid (HY.out hxy)
              have hte : (xt.toList == yt.toList) = true := by rw [HTE.out]; simpa using hxy
              clear hxy
              go_upto_region 7 with fail
              refine wp_region_quiet_below (by kernel_rfl) (by kernel_rfl) ?_
              repeat (first
                | go_big_quiet_skip
                | go_big_quiet_step (fail))
              refine wpQuiet_nil ?_
              rintro _ ⟨⟨dq, osq⟩, rfl⟩
              have hbg := below_regrown wr dq osq
              have HW2 : Hid (Below w.heap.size w (Sort.grow (redrawn wr dq) osq)) := HW.out.trans (hbg.mono HW.out.size)
              have HO2 := Lib.hid (HO.out.below hbg)
              have HRB2 : Hid ((Sort.grow (redrawn wr dq) osq).rangeAt bb (ob + k * 2) (rentC (toR y))) := range_of_block HRB.out (hbg.block bb hbbw)
              clear HW HO hbg
              generalize Sort.grow (redrawn wr dq) osq = W2 at *
              have hWa : Below w.heap.size w (W2.alloc (.cells (rentC (toR y)).toArray 77)) := HW2.out.trans ((below_alloc1 _ _).mono HW2.out.size)
              have hOa := HO2.out.below (below_alloc1 W2 (.cells (rentC (toR y)).toArray 77))
              have hga := heap_alloc_new W2 (.cells (rentC (toR y)).toArray 77)
              have HWa := Lib.hid hWa
              have HOa := Lib.hid hOa
              have HGa := Lib.hid hga
              clear hWa hOa hga
              go_wp2_with (first
                | (with_reducible refine ld_R rfl _ rfl bb (ob + k * 2) (toR y) rfl HRB2.out ?_)
                | (refine bs_R rfl _ rfl (toR y) rfl ?_)
                | (at_builtin; (refine app_R rfl _ _ rfl w.heap.size _ (o.map toR) rfl HOa.out W2.heap.size 1 (toR y) rfl (range_whole HGa.out) HOl.out HWa.out.size ?_); intro v' w4 ho4 hg4))
              have hb4 : Below w.heap.size w w4 := HWa.out.trans (grown_below hg4 (fun z hz => (HOa.out.lt z hz).1) HWa.out.size)
              go_roundw
              case rel => exact ⟨i + 1, k + 1, o ++ [y], by omega, by omega, by go_num, by go_num, HN1, hb4, by rw [List.map_append]; exact ho4⟩
              case measure => simp [intOf]; omega
            · have HN1 := Lib.hid (HZ.out hle hxy)
              have hte : (xt.toList == yt.toList) = false := by rw [HTE.out]; simpa using hxy
              clear hxy
              go_upto_region 7 with fail
              refine wp_region_quiet_below (by kernel_rfl) (by kernel_rfl) ?_
              repeat (first
                | go_big_quiet_skip
                | go_big_quiet_step (fail))
              refine wpQuiet_nil ?_
              rintro _ ⟨⟨dq, osq⟩, rfl⟩
              have hbg := below_regrown wr dq osq
              have HW2 : Hid (Below w.heap.size w (Sort.grow (redrawn wr dq) osq)) := HW.out.trans (hbg.mono HW.out.size)
              have HO2 := Lib.hid (HO.out.below hbg)
              have HRB2 : Hid ((Sort.grow (redrawn wr dq) osq).rangeAt bb (ob + k * 2) (rentC (toR y))) := range_of_block HRB.out (hbg.block bb hbbw)
              clear HW HO hbg
              generalize Sort.grow (redrawn wr dq) osq = W2 at *
              have hWa : Below w.heap.size w (W2.alloc (.cells (rentC (toR y)).toArray 77)) := HW2.out.trans ((below_alloc1 _ _).mono HW2.out.size)
              have hOa := HO2.out.below (below_alloc1 W2 (.cells (rentC (toR y)).toArray 77))
              have hga := heap_alloc_new W2 (.cells (rentC (toR y)).toArray 77)
              have HWa := Lib.hid hWa
              have HOa := Lib.hid hOa
              have HGa := Lib.hid hga
              clear hWa hOa hga
              go_wp2_with (first
                | (with_reducible refine ld_R rfl _ rfl bb (ob + k * 2) (toR y) rfl HRB2.out ?_)
                | (refine bs_R rfl _ rfl (toR y) rfl ?_)
                | (at_builtin; (refine app_R rfl _ _ rfl w.heap.size _ (o.map toR) rfl HOa.out W2.heap.size 1 (toR y) rfl (range_whole HGa.out) HOl.out HWa.out.size ?_); intro v' w4 ho4 hg4))
              have hb4 : Below w.heap.size w w4 := HWa.out.trans (grown_below hg4 (fun z hz => (HOa.out.lt z hz).1) HWa.out.size)
              go_roundw
              case rel => exact ⟨i, k + 1, o ++ [y], by omega, by omega, by go_num, by go_num, HN1, hb4, by rw [List.map_append]; exact ho4⟩
              case measure => simp [intOf]; omega
          · rw [hle] at HLs
            have HN1 := Lib.hid (HX.out hle)
            go_upto_region 4 with fail
            refine wp_region_quiet_below (by kernel_rfl) (by kernel_rfl) ?_
            repeat (first
              | go_big_quiet_skip
              | go_big_quiet_step (first | (with_reducible exact rg_call HPA.out _ _) | (with_reducible exact rg_call HPB.out _ _) | (with_reducible exact rg_call HLs.out _ _)))
            refine wpQuiet_nil ?_
            rintro _ ⟨⟨dq, osq⟩, rfl⟩
            have hbg := below_regrown wr dq osq
            have HW2 : Hid (Below w.heap.size w (Sort.grow (redrawn wr dq) osq)) := HW.out.trans (hbg.mono HW.out.size)
            have HO2 := Lib.hid (HO.out.below hbg)
            have HRA2 : Hid ((Sort.grow (redrawn wr dq) osq).rangeAt ba (oa + i * 2) (rentC (toR x))) := range_of_block HRA.out (hbg.block ba hbaw)
            clear HW HO hbg
            generalize Sort.grow (redrawn wr dq) osq = W2 at *
            have hWa : Below w.heap.size w (W2.alloc (.cells (rentC (toR x)).toArray 77)) := HW2.out.trans ((below_alloc1 _ _).mono HW2.out.size)
            have hOa := HO2.out.below (below_alloc1 W2 (.cells (rentC (toR x)).toArray 77))
            have hga := heap_alloc_new W2 (.cells (rentC (toR x)).toArray 77)
            have HWa := Lib.hid hWa
            have HOa := Lib.hid hOa
            have HGa := Lib.hid hga
            clear hWa hOa hga
            go_wp2_with (first
              | (with_reducible refine ld_R rfl _ rfl ba (oa + i * 2) (toR x) rfl HRA2.out ?_)
              | (refine bs_R rfl _ rfl (toR x) rfl ?_)
              | (at_builtin; (refine app_R rfl _ _ rfl w.heap.size _ (o.map toR) rfl HOa.out W2.heap.size 1 (toR x) rfl (range_whole HGa.out) HOl.out HWa.out.size ?_); intro v' w4 ho4 hg4))
            have hb4 : Below w.heap.size w w4 := HWa.out.trans (grown_below hg4 (fun z hz => (HOa.out.lt z hz).1) HWa.out.size)
            go_roundw
            case rel => exact ⟨i + 1, k, o ++ [x], by omega, by omega, by go_num, by go_num, HN1, hb4, by rw [List.map_append]; exact ho4⟩
            case measure => simp [intOf]; omega
        · obtain rfl : i = na := by omega
          have hBi : k < b.length := by rw [HNB.out]; omega
          have hBi' : (k : Int) < nb := by omega
          have hB0 : (0 : Int) ≤ (k : Int) := by omega
          obtain ⟨bb, ob, rfl, hbb, hrB⟩ := HQB.out k (by simpa using hBi)
          rw [List.getElem_map] at hrB
          have HRB : Hid (wr.rangeAt bb (ob + k * 2) (rentC (toR b[k]))) := range_of_block hrB (HW.out.block bb hbb)
          have hcB : wr.cell? ⟨bb, ob + k * 2, none⟩ = some (.string (tq b[k].n)) := (rentC_cells HRB.out).1
          have hcBd := fun d os => cell_regrown hcB d os
          have hrBR : rightB b[k].n = true := HGRB.out _ (List.getElem_mem hBi)
          have hbbw : bb < wr.heap.size := Nat.lt_of_lt_of_le hbb HW.out.size
          have HPB : Hid (∀ W : World, Calls Try.prog 34 #[.string (tq b[k].n)] W fun e w' => e = .returned (.agg (bC b[k].n)) ∧ Below W.heap.size W w') := fun W => padN_any _ b[k].hn hrBR W
          clear hrB
          have HN1 := Lib.hid (HA.out.right hBi fun h => absurd h (by rw [HNA.out]; omega))
          have hkb : ((k : Int) == (nb : Int)) = false := by simp; omega
          generalize b[k] = y at *
          generalize hyt : tq y.n = yt at *
          go_upto_region 4 with fail
          refine wp_region_quiet_below (by kernel_rfl) (by kernel_rfl) ?_
          repeat (first
            | go_big_quiet_skip
            | go_big_quiet_step (fail))
          refine wpQuiet_nil ?_
          rintro _ ⟨⟨dq, osq⟩, rfl⟩
          have hbg := below_regrown wr dq osq
          have HW2 : Hid (Below w.heap.size w (Sort.grow (redrawn wr dq) osq)) := HW.out.trans (hbg.mono HW.out.size)
          have HO2 := Lib.hid (HO.out.below hbg)
          have HRB2 : Hid ((Sort.grow (redrawn wr dq) osq).rangeAt bb (ob + k * 2) (rentC (toR y))) := range_of_block HRB.out (hbg.block bb hbbw)
          have hbbw2 : bb < (Sort.grow (redrawn wr dq) osq).heap.size := Nat.lt_of_lt_of_le hbbw hbg.size
          clear HW HO HRB hcB hcBd hbg hbbw
          generalize Sort.grow (redrawn wr dq) osq = wr at *
          have HW : Hid (Below w.heap.size w wr) := HW2.out
          have HO := HO2
          have HRB := HRB2
          have hbbw := hbbw2
          clear HW2 HO2 HRB2 hbbw2
          go_upto_region 7 with fail
          refine wp_region_quiet_below (by kernel_rfl) (by kernel_rfl) ?_
          repeat (first
            | go_big_quiet_skip
            | go_big_quiet_step (fail))
          refine wpQuiet_nil ?_
          rintro _ ⟨⟨dq, osq⟩, rfl⟩
          have hbg := below_regrown wr dq osq
          have HW2 : Hid (Below w.heap.size w (Sort.grow (redrawn wr dq) osq)) := HW.out.trans (hbg.mono HW.out.size)
          have HO2 := Lib.hid (HO.out.below hbg)
          have HRB2 : Hid ((Sort.grow (redrawn wr dq) osq).rangeAt bb (ob + k * 2) (rentC (toR y))) := range_of_block HRB.out (hbg.block bb hbbw)
          clear HW HO hbg
          generalize Sort.grow (redrawn wr dq) osq = W2 at *
          have hWa : Below w.heap.size w (W2.alloc (.cells (rentC (toR y)).toArray 77)) := HW2.out.trans ((below_alloc1 _ _).mono HW2.out.size)
          have hOa := HO2.out.below (below_alloc1 W2 (.cells (rentC (toR y)).toArray 77))
          have hga := heap_alloc_new W2 (.cells (rentC (toR y)).toArray 77)
          have HWa := Lib.hid hWa
          have HOa := Lib.hid hOa
          have HGa := Lib.hid hga
          clear hWa hOa hga
          go_wp2_with (first
            | (with_reducible refine ld_R rfl _ rfl bb (ob + k * 2) (toR y) rfl HRB2.out ?_)
            | (refine bs_R rfl _ rfl (toR y) rfl ?_)
            | (at_builtin; (refine app_R rfl _ _ rfl w.heap.size _ (o.map toR) rfl HOa.out W2.heap.size 1 (toR y) rfl (range_whole HGa.out) HOl.out HWa.out.size ?_); intro v' w4 ho4 hg4))
          have hb4 : Below w.heap.size w w4 := HWa.out.trans (grown_below hg4 (fun z hz => (HOa.out.lt z hz).1) HWa.out.size)
          go_roundw
          case rel => exact ⟨i, k + 1, o ++ [y], by omega, by omega, by go_num, by go_num, HN1, hb4, by rw [List.map_append]; exact ho4⟩
          case measure => simp [intOf]; omega
      · obtain rfl : k = nb := by omega
        have hin : i < na := by omega
        have hAi : i < a.length := by rw [HNA.out]; omega
        have hAi' : (i : Int) < na := by omega
        have hA0 : (0 : Int) ≤ (i : Int) := by omega
        obtain ⟨ba, oa, rfl, hba, hrA⟩ := HQA.out i (by simpa using hAi)
        rw [List.getElem_map] at hrA
        have HRA : Hid (wr.rangeAt ba (oa + i * 2) (rentC (toR a[i]))) := range_of_block hrA (HW.out.block ba hba)
        have hcA : wr.cell? ⟨ba, oa + i * 2, none⟩ = some (.string (tq a[i].n)) := (rentC_cells HRA.out).1
        have hcAd := fun d os => cell_regrown hcA d os
        have hrAR : rightB a[i].n = true := HGRA.out _ (List.getElem_mem hAi)
        have hbaw : ba < wr.heap.size := Nat.lt_of_lt_of_le hba HW.out.size
        have HPA : Hid (∀ W : World, Calls Try.prog 34 #[.string (tq a[i].n)] W fun e w' => e = .returned (.agg (bC a[i].n)) ∧ Below W.heap.size W w') := fun W => padN_any _ a[i].hn hrAR W
        clear hrA
        have HN1 := Lib.hid (HA.out.left hAi fun h => absurd h (by rw [HNB.out]; omega))
        generalize a[i] = x at *
        generalize hxt : tq x.n = xt at *
        go_upto_region 4 with fail
        refine wp_region_quiet_below (by kernel_rfl) (by kernel_rfl) ?_
        repeat (first
          | go_big_quiet_skip
          | go_big_quiet_step (fail))
        refine wpQuiet_nil ?_
        rintro _ ⟨⟨dq, osq⟩, rfl⟩
        have hbg := below_regrown wr dq osq
        have HW2 : Hid (Below w.heap.size w (Sort.grow (redrawn wr dq) osq)) := HW.out.trans (hbg.mono HW.out.size)
        have HO2 := Lib.hid (HO.out.below hbg)
        have HRA2 : Hid ((Sort.grow (redrawn wr dq) osq).rangeAt ba (oa + i * 2) (rentC (toR x))) := range_of_block HRA.out (hbg.block ba hbaw)
        clear HW HO hbg
        generalize Sort.grow (redrawn wr dq) osq = W2 at *
        have hWa : Below w.heap.size w (W2.alloc (.cells (rentC (toR x)).toArray 77)) := HW2.out.trans ((below_alloc1 _ _).mono HW2.out.size)
        have hOa := HO2.out.below (below_alloc1 W2 (.cells (rentC (toR x)).toArray 77))
        have hga := heap_alloc_new W2 (.cells (rentC (toR x)).toArray 77)
        have HWa := Lib.hid hWa
        have HOa := Lib.hid hOa
        have HGa := Lib.hid hga
        clear hWa hOa hga
        go_wp2_with (first
          | (with_reducible refine ld_R rfl _ rfl ba (oa + i * 2) (toR x) rfl HRA2.out ?_)
          | (refine bs_R rfl _ rfl (toR x) rfl ?_)
          | (at_builtin; (refine app_R rfl _ _ rfl w.heap.size _ (o.map toR) rfl HOa.out W2.heap.size 1 (toR x) rfl (range_whole HGa.out) HOl.out HWa.out.size ?_); intro v' w4 ho4 hg4))
        have hb4 : Below w.heap.size w w4 := HWa.out.trans (grown_below hg4 (fun z hz => (HOa.out.lt z hz).1) HWa.out.size)
        go_roundw
        case rel => exact ⟨i + 1, k, o ++ [x], by omega, by omega, by go_num, by go_num, HN1, hb4, by rw [List.map_append]; exact ho4⟩
        case measure => simp [intOf]; omega
end Go.Proofs.Ytpnmficlebnajaa
