/- made: a tree, and the document's list, behind some calls. Printed by gE1.py. -/
import Derived.Test.YtagdedjclbmlkaaD10
import Derived.Deep.DeepCutAuto
namespace Go.Proofs.Ytagdedjclbmlkaa
open Go.RowKit

/-- Del of one key. -/
theorem pl_del1 {w1 W : World} {tb : Nat} {q : Option Addr} {n c : Nat} {ys : List RE} {o : Option T} {m : Nat} (y : K25) (h : PlSt w1 tb W q n c ys o m) (hm : m ≤ 1000000) (q' : Option Addr) (n' c' : Nat) (ys' : List RE) (hR : RSl W q' n' c' ys') (ha : ys'.map RE.p = delL (ys.map RE.p) y.k) (g : Int) (hg : g = if (findL (ys.map RE.p) y.k).isSome then 1 else 0) :
    Calls Try.prog 11 #[ptrA tb, .slice (some ⟨W.heap.size, 0, none⟩) 1 1] (W.alloc (.cells (encK y).toArray 30)) fun e W' => e = .returned (.int .i64 g) ∧ ∃ o', PlSt w1 tb W' q' n' c' ys' o' m := by
  have hb := below_alloc1 W (.cells (encK y).toArray 30)
  have hT := h.tree.below hb
  have hl := h.len
  have hle := h.le
  have hsl : SlAt keyE 25 (W.alloc (.cells (encK y).toArray 30)) (some ⟨W.heap.size, 0, none⟩) [y.k] := by
    have := slat_key (slat1 (enc := encK) (k := 25) W y 30)
    exact this
  refine (del_any _ 1 1 [y.k] _ w1.heap.size tb o rfl (by omega) hsl (fun k hk => by simp at hk; rw [hk]; exact y.hk) (fun a e hm => ?_) hT (Nat.le_trans h.bel.size hb.size) (by omega)).mono ?_
  · cases e
    have := h.tree.lt _ hm
    exact absurd this (Nat.lt_irrefl _)
  · rintro e W' ⟨gone, rfl, o', hD⟩
    have e1 : allO o' = delL (allO o) y.k := by rw [hD.all, delAll, List.foldl_cons, List.foldl_nil]
    rw [hg]
    rw [h.all] at ha ⊢
    refine ⟨?_, o', hD.at_, (hR.below hb).turn hD.turn ((hR.below hb).off hT), by rw [ha, e1], ?_, (h.bel.trans (hb.mono h.bel.size)).trans (hD.turn.below hT.base (Nat.le_trans h.bel.size hb.size))⟩
    · rw [hD.gone, e1]
      cases hf : findL (allO o) y.k with
      | none => rw [delL_none hf]; simp
      | some i => have := delL_len hf; simp; omega
    · have h1 := congrArg List.length ha
      rw [List.length_map, hR.len] at h1
      have := delL_le (allO o) y.k
      omega
set_option maxRecDepth 100000 in
set_option maxHeartbeats 16000000 in
theorem made_any (q0 : Option Addr) (n0 c0 most : Nat) (xs : List AC) (W0 : World) (hn : xs.length = n0) (hn9 : n0 ≤ maxLen) (hm9 : most ≤ 60) (hq : SlAt acC 27 W0 q0 xs) :
    Calls Try.prog 18 #[.slice q0 n0 c0, .int .i64 most] W0 fun e w' => ∃ (tb : Nat) (q : Option Addr) (n c : Nat) (ys : List RE) (o : Option T), e = .returned (.tuple #[ptrA tb, .slice q n c, .bool true]) ∧ PlSt W0 tb w' q n c ys o most := by
  have HN := Lib.hid hn
  have HQ := Lib.hid hq
  have HN9 := Lib.hid hn9
  clear hn hq hn9
  go_enter Try.func18, Try.ntmps18
  go_upto_region 2 with (go_at_call 8; (refine (new_any _).mono ?_); rintro e W1 ⟨rfl, rfl⟩)
  have HS1 : Hid (PlSt W0 W0.heap.size (W0.alloc (.cells #[.pointer none, .int .i64 0] TREE)) none 0 0 [] none 0) :=
    ⟨new_tree (Nat.le_refl _), ⟨rfl, Nat.le_refl _, SlAt.nil _ _, fun a e => (by cases e), fun _ => rfl, fun a e => (by cases e)⟩, rfl, Nat.le_refl _, below_alloc1 _ _⟩
  generalize W0.alloc (.cells #[.pointer none, .int .i64 0] TREE) = W1 at *
  obtain ⟨tb, htb⟩ : ∃ tb, tb = W0.heap.size := ⟨_, rfl⟩
  rw [show PlSt W0 W0.heap.size W1 none 0 0 [] none 0 = PlSt W0 tb W1 none 0 0 [] none 0 by rw [htb]] at HS1
  rw [← htb]
  clear htb
  go_wp2_with fail
  go_loopw [8, 9] (fun vl vi wr => ∃ (i : Nat) (q : Option Addr) (n c : Nat) (ys : List RE) (o : Option T), i ≤ n0 ∧ i ≤ most ∧ vi = .int .i64 i ∧ vl = .slice q n c ∧ Hid (PlSt W0 tb wr q n c ys o i)) (fun _ vi _ => most - (intOf vi).toNat)
  case atStart => exact ⟨0, none, 0, 0, [], none, Nat.zero_le _, Nat.zero_le _, rfl, rfl, HS1⟩
  case round =>
    obtain ⟨i, q, n, c, ys, o, hi, hi6, rfl, rfl, HS⟩ := hrel
    by_cases h1 : i < n0
    · by_cases h2 : i < most
      · have h1i : (i : Int) < n0 := by omega
        have h2i : (i : Int) < most := by omega
        have hil : i < xs.length := by rw [HN.out]; exact h1
        obtain ⟨x, hx⟩ : ∃ x, x = xs[i] := ⟨_, rfl⟩
        obtain ⟨qb, qo, rfl, hqb, hqr⟩ := (HQ.out.below HS.out.bel) i hil
        rw [← hx] at hqr
        have HRq := Lib.hid hqr
        clear hqr hx
        have HX2 : Hid ((wr.alloc (.cells (acC x).toArray 35)).heap[wr.heap.size]? = some (.cells (acC x).toArray 35 (0, 0))) := heap_alloc_new _ _
        have HS2 := Lib.hid (HS.out.below (below_alloc1 wr (.cells (acC x).toArray 35)))
        go_upto_region 7 with (first
          | ((with_reducible refine gate_ld 35 (.tmp 29) rfl ?_); refine wl_ldr rfl 35 _ rfl qb (qo + i * 27) (acC x) _ Try.underlying35 rfl (by rw [sizAc, acC_len]) rfl HRq.out ?_)
          | ((with_reducible refine gate_st 35 (.tmp 10) _ rfl ?_); refine wl_strn rfl _ _ _ rfl (acC x).toArray az27 _ (by rw [sizAc]; simp [acC_len]) (by rw [az27_sz]; simp [acC_len]) (by simpa [List.all_eq_true] using acC_one x) (by simp [Act.eval]) rfl ?_))
        simp only [Act.put]
        generalize wr.alloc (.cells (acC x).toArray 35) = W2 at *
        obtain ⟨ab, hab⟩ : ∃ ab, ab = wr.heap.size := ⟨_, rfl⟩
        rw [← hab] at HX2 ⊢
        clear hab HRq HS hqb
        have hra : W2.rangeAt ab 0 (acC x) := range_whole (by simpa using HX2.out)
        have hc0 : W2.cell? ⟨ab, 0, none⟩ = some (.bool x.out) := ac_out hra
        have HKr : Hid (W2.rangeAt ab 1 (bC x.k).toList) := ac_key hra
        have HVr : Hid (W2.cell? ⟨ab, 26, none⟩ = some (.int .i64 x.v)) := by
          have := ac_val hra
          rw [Nat.zero_add] at this
          exact this
        clear hra
        obtain ⟨b, hb⟩ : ∃ b, (findL (ys.map RE.p) x.k).isSome = b := ⟨_, rfl⟩
        have HBb := Lib.hid hb
        clear hb
        cases hxo : x.out with
        | true =>
          go_upto_region 9 with (first
            | ((with_reducible refine gate_ld 30 (.tmp 35) rfl ?_); refine wl_ldr rfl 30 _ rfl ab 1 (bC x.k).toList _ Try.underlying30 rfl (by rw [sizKey]; simp [bC, x.hk]) rfl HKr.out ?_)
            | (go_at_call 10; (refine (of06_key x.k _ x.hk).mono ?_); rintro e W3 ⟨rfl, hb3⟩; have HS3 := Lib.hid (HS2.out.below hb3); have HK3 : Hid (W3.rangeAt ab 1 (bC x.k).toList) := range_of_block HKr.out (hb3.block _ (lt_heap HX2.out)); have HL3 : Hid (ab < W3.heap.size) := Nat.lt_of_lt_of_le (lt_heap HX2.out) hb3.size; clear hb3)
            | (go_at_call 9; (refine (pl_rdel x.k x.hk HS3.out (by omega) b HBb.out).mono ?_); rintro e W4 ⟨q', n', c', ys', rfl, hR, ha, hb4⟩; have HS4 := Lib.hid (HS3.out.below hb4); have HR4 := Lib.hid hR; have HA4 := Lib.hid ha; have HK4 : Hid (W4.rangeAt ab 1 (bC x.k).toList) := range_of_block HK3.out (hb4.block _ HL3.out); clear hb4 hR ha))
          clear HS2 HS3 HK3 HL3 HKr HVr HX2 hc0
          cases b with
          | true =>
            go_wp2_with (first
              | ((with_reducible refine gate_ld 30 (.tmp 43) rfl ?_); refine wl_ldr rfl 30 _ rfl ab 1 (bC x.k).toList _ Try.underlying30 rfl (by rw [sizKey]; simp [bC, x.hk]) rfl HK4.out ?_)
              | ((with_reducible refine gate_op (.buildSlice 64 1 #[(0, .tmp 44)]) rfl ?_); refine wl_bs1 (enc := encK) (k := 25) 64 30 25 _ Try.underlying64 infoKey kz_sz (by omega) (by omega) encK_len rfl (.tmp 44) rfl ⟨x.k, x.hk⟩ rfl ?_)
              | (go_at_call 11; (refine (pl_del1 ⟨x.k, x.hk⟩ HS4.out (by omega) q' n' c' ys' HR4.out HA4.out 1 (by rw [HBb.out]; rfl)).mono ?_); rintro e W6 ⟨rfl, o', hs6⟩; have HS6 := Lib.hid hs6; clear hs6))
            go_roundw
            case rel => exact ⟨i + 1, q', n', c', ys', o', by omega, by omega, by go_num, rfl, Lib.hid (HS6.out.more (by omega))⟩
            case measure => simp [intOf]; omega
          | false =>
            go_wp2_with (first
              | ((with_reducible refine gate_ld 30 (.tmp 43) rfl ?_); refine wl_ldr rfl 30 _ rfl ab 1 (bC x.k).toList _ Try.underlying30 rfl (by rw [sizKey]; simp [bC, x.hk]) rfl HK4.out ?_)
              | ((with_reducible refine gate_op (.buildSlice 64 1 #[(0, .tmp 44)]) rfl ?_); refine wl_bs1 (enc := encK) (k := 25) 64 30 25 _ Try.underlying64 infoKey kz_sz (by omega) (by omega) encK_len rfl (.tmp 44) rfl ⟨x.k, x.hk⟩ rfl ?_)
              | (go_at_call 11; (refine (pl_del1 ⟨x.k, x.hk⟩ HS4.out (by omega) q' n' c' ys' HR4.out HA4.out 0 (by rw [HBb.out]; rfl)).mono ?_); rintro e W6 ⟨rfl, o', hs6⟩; have HS6 := Lib.hid hs6; clear hs6))
            go_roundw
            case rel => exact ⟨i + 1, q', n', c', ys', o', by omega, by omega, by go_num, rfl, Lib.hid (HS6.out.more (by omega))⟩
            case measure => simp [intOf]; omega
        | false =>
          go_upto_region 12 with fail
          have hbd : Below W2.heap.size W2 W2.drew := ⟨rfl, rfl, rfl, Nat.le_refl _, fun _ _ => rfl⟩
          refine wp_region_held_drew (S := fun w' => Below W2.heap.size W2 w') (by kernel_rfl) hbd (fun _ => ?_)
          show wpAnyH Try.prog Region.Mode.any _ _ _ 12 #[false, false, false, false, false, false, false, false, false, false, false, false] _ _
          generalize W2.drew = Wd at *
          refine takeD (i := 0) (v := .slice q n c) 53 rfl rfl (by kernel_rfl) (by kernel_rfl) (by kernel_rfl) (fun _ _ _ h => h) (Or.inl ⟨rfl, fun w' hS => rfl⟩) hbd ?_
          simp only [Act.put, List.setIfInBounds_toArray, List.set_cons_zero, List.set_cons_succ]
          refine takeD (i := 1) (v := .pointer (some ⟨ab, 1, none⟩)) 54 rfl rfl (by kernel_rfl) (by kernel_rfl) (by kernel_rfl) (fun _ _ _ h => h) (Or.inl ⟨rfl, fun w' hS => by kernel_rfl⟩) hbd ?_
          simp only [Act.put, List.setIfInBounds_toArray, List.set_cons_zero, List.set_cons_succ]
          refine takeD (i := 2) (v := .agg (bC x.k)) 55 rfl rfl (by kernel_rfl) (by kernel_rfl) (by kernel_rfl) (fun _ _ _ h => h) (Or.inl ⟨rfl, fun w' hS => exec_ldr 30 (.tmp 54) rfl ab 1 (bC x.k).toList _ Try.underlying30 rfl (by rw [sizKey]; simp [bC, x.hk]) rfl (range_of_block HKr.out (hS.block _ (lt_heap HX2.out)))⟩) hbd ?_
          simp only [Act.put, List.setIfInBounds_toArray, List.set_cons_zero, List.set_cons_succ]
          refine takeD (i := 4) (v := .pointer (some ⟨ab, 26, none⟩)) 57 rfl rfl (by kernel_rfl) (by kernel_rfl) (by kernel_rfl) (fun _ _ _ h => h) (Or.inl ⟨rfl, fun w' hS => by kernel_rfl⟩) hbd ?_
          simp only [Act.put, List.setIfInBounds_toArray, List.set_cons_zero, List.set_cons_succ]
          refine takeD (i := 5) (v := .int .i64 x.v) 58 rfl rfl (by kernel_rfl) (by kernel_rfl) (by kernel_rfl) (fun _ _ _ h => h) (Or.inl ⟨rfl, fun w' hS => exec_ld1G 3 ag3 (.tmp 57) rfl ab 26 _ rfl ((cell_of (hS.block _ (lt_heap HX2.out)) 26).trans HVr.out)⟩) hbd ?_
          simp only [Act.put, List.setIfInBounds_toArray, List.set_cons_zero, List.set_cons_succ]
          refine oneH 3 (by kernel_rfl) (wpOp_enter rfl rfl (exec_call1 rfl (enters_of Try.func10 (by kernel_rfl) rfl) (x := .tmp 55) (v := .agg (bC x.k)) rfl Wd) (of06_key x.k Wd x.hk) (fun W3 hb3 => ?_))
          have hb23 : Below W2.heap.size W2 W3 := hbd.trans (hb3.mono hbd.size)
          refine ⟨hb23, ?_⟩
          simp only [Act.put, List.setIfInBounds_toArray, List.set_cons_zero, List.set_cons_succ]
          refine oneH 6 (by kernel_rfl) (wpOp_call rfl rfl (exec_calls rfl (enters_of Try.func12 (by kernel_rfl) rfl) (vs := #[.slice q n c, .agg (rkC x.k).toArray, .int .i64 x.v]) (by simp [Act.eval]) W3) (pl_rput x.k x.v x.hk (HS2.out.below hb23) (by omega) b HBb.out) ?_)
          rintro e W4 ⟨q', n', c', ys', rfl, hR, ha, hb4⟩
          have hb24 : Below W2.heap.size W2 W4 := hb23.trans (hb4.mono hb23.size)
          refine ⟨_, rfl, hb24, ?_⟩
          simp only [Act.put, List.setIfInBounds_toArray, List.set_cons_zero, List.set_cons_succ]
          refine takeD (i := 7) (v := .tuple #[.slice q' n' c', .bool (!b)]) 52 rfl rfl (by kernel_rfl) (by kernel_rfl) (by kernel_rfl) (fun _ _ _ h => h) (Or.inl ⟨rfl, fun w' hS => rfl⟩) hb24 ?_
          simp only [Act.put, List.setIfInBounds_toArray, List.set_cons_zero, List.set_cons_succ]
          refine takeD (i := 8) (v := .slice q' n' c') 60 rfl rfl (by kernel_rfl) (by kernel_rfl) (by kernel_rfl) (fun _ _ _ h => h) (Or.inl ⟨rfl, fun w' hS => rfl⟩) hb24 ?_
          simp only [Act.put, List.setIfInBounds_toArray, List.set_cons_zero, List.set_cons_succ]
          refine takeD (i := 9) (v := .bool (!b)) 61 rfl rfl (by kernel_rfl) (by kernel_rfl) (by kernel_rfl) (fun _ _ _ h => h) (Or.inl ⟨rfl, fun w' hS => rfl⟩) hb24 ?_
          simp only [Act.put, List.setIfInBounds_toArray, List.set_cons_zero, List.set_cons_succ]
          refine oneH 10 (by kernel_rfl) (wpOp_as rfl rfl (.tmp 60) rfl _ rfl ⟨hb24, ?_⟩)
          refine oneH 11 (by kernel_rfl) (wpOp_as rfl rfl (.tmp 61) rfl _ rfl ⟨hb24, ?_⟩)
          refine wpAnyH_done (by kernel_rfl) ?_ _
          have HS4 := Lib.hid (HS2.out.below hb24)
          have HR4 := Lib.hid hR
          have HA4 := Lib.hid ha
          have HK4 : Hid (W4.rangeAt ab 1 (bC x.k).toList) := range_of_block HKr.out (hb24.block _ (lt_heap HX2.out))
          have hv4 : W4.cell? ⟨ab, 26, none⟩ = some (.int .i64 x.v) := (cell_of (hb24.block _ (lt_heap HX2.out)) 26).trans HVr.out
          clear hbd hb3 hb23 hb4 hb24 hR ha HS2 HKr HVr HX2 hc0
          simp only [Act.put, List.getElem_toArray, List.getElem_cons_zero, List.getElem_cons_succ, List.setIfInBounds_toArray, List.set_cons_zero, List.set_cons_succ]
          go_wp2_with (first
            | ((with_reducible refine gate_ld 30 (.tmp 64) rfl ?_); refine wl_ldr rfl 30 _ rfl ab 1 (bC x.k).toList _ Try.underlying30 rfl (by rw [sizKey]; simp [bC, x.hk]) rfl HK4.out ?_)
            | (go_at_call 13; (refine (pl_put x.k x.v x.hk HS4.out (by omega) q' n' c' ys' HR4.out HA4.out b HBb.out).mono ?_); rintro e W6 ⟨rfl, o', hs6⟩; have HS6 := Lib.hid hs6; clear hs6))
          go_roundw
          case rel => exact ⟨i + 1, q', n', c', ys', o', by omega, by omega, by go_num, rfl, HS6⟩
          case measure => simp [intOf]; omega
      · have h1i : (i : Int) < n0 := by omega
        have h2i : ¬ (i : Int) < most := by omega
        go_wp2_with fail
        refine bodyPost_ret (results_tmp3 rfl _ _ _) rfl ?_
        first | exact ⟨tb, q, n, c, rfl, ys, o, HS.out.more hi6⟩ | exact ⟨tb, q, n, c, ys, o, rfl, HS.out.more hi6⟩
    · have h1i : ¬ (i : Int) < n0 := by omega
      go_wp2_with fail
      refine bodyPost_ret (results_tmp3 rfl _ _ _) rfl ?_
      first | exact ⟨tb, q, n, c, rfl, ys, o, HS.out.more hi6⟩ | exact ⟨tb, q, n, c, ys, o, rfl, HS.out.more hi6⟩
end Go.Proofs.Ytagdedjclbmlkaa
