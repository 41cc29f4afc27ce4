/- Texts joined: DX. -/
import Derived.Test.YtagdedjclbmlkaaD5
/- The document's Put, of a key that is there. -/
namespace Go.Proofs.Ytagdedjclbmlkaa
open Go.RowKit

def RE.upd (x : RE) (v : Int) : RE := ⟨x.k, v, x.hk⟩
theorem flat_at {xs : List RE} {i : Nat} (hi : i < xs.length) : ∀ o, o < 26 → (xs.flatMap reC)[i * 26 + o]? = (reC xs[i])[o]? := by
  induction xs generalizing i with
  | nil => simp at hi
  | cons x xs ih =>
    intro o ho
    rw [List.flatMap_cons]
    cases i with
    | zero =>
      rw [Nat.zero_mul, Nat.zero_add, List.getElem?_append_left (by rw [reC_len]; exact ho)]
      rfl
    | succ i =>
      rw [List.getElem?_append_right (by rw [reC_len]; omega), reC_len, show (i + 1) * 26 + o - 26 = i * 26 + o by omega]
      exact ih (by simpa using hi) o ho
/-- A number set in a list of entries. -/
theorem rset {w : World} {base : Nat} {v : Value} {xs : List RE} (h : OwnE reC 57 26 w base v xs) (i : Nat) (hi : i < xs.length) (z : Int) :
    ∃ g c, v = .slice (some ⟨g, 0, none⟩) xs.length c ∧ base ≤ g ∧ g < w.heap.size ∧ w.cell? ⟨g, i * 26 + 25, none⟩ = some (.int .i64 xs[i].v) ∧ w.frozen? ⟨g, i * 26 + 25, none⟩ = false ∧ RSl (w.setCell ⟨g, i * 26 + 25, none⟩ (.int .i64 z)) (some ⟨g, 0, none⟩) xs.length c (xs.set i (xs[i].upd z)) := by
  obtain ⟨h1, ⟨rfl, h2⟩ | ⟨g, cap, cur, rfl, hg, hh, hc, hm, hs, ht⟩⟩ := h
  · have := List.length_eq_zero_iff.1 h2
    subst this; simp at hi
  · have hcell : ∀ j o, (hj : j < xs.length) → o < 26 → cur[j * 26 + o]? = (reC xs[j])[o]? := fun j o hj ho => by
      rw [← flat_at hj o ho, ← ht, List.getElem?_take_of_lt (by omega), Array.getElem?_toList]
    refine ⟨g, cap, rfl, hg, lt_heap hh, ?_, by simp [World.frozen?, hh], by simp, hc, ?_, ?_, (fun e => by cases e), ?_⟩
    · rw [cell_blk hh, hcell i 25 hi (by omega)]
      have : (reC xs[i])[25]? = some (.int .i64 xs[i].v) := by
        unfold reC
        rw [List.getElem?_append_right (by rw [rkC_len xs[i].hk]; exact Nat.le_refl _), rkC_len xs[i].hk]
        rfl
      exact this
    · have hh2 : (w.setCell ⟨g, i * 26 + 25, none⟩ (.int .i64 z)).heap[g]? = some (.cells (cur.setIfInBounds (i * 26 + 25) (.int .i64 z)) 57 (0, 0)) := heap_setCell_self _ hh
      intro j hj
      have hj' : j < xs.length := by simpa using hj
      refine ⟨g, 0, rfl, lt_heap hh2, ?_⟩
      intro o u hu
      rw [cell_blk hh2]
      have ho : o < 26 := by
        have := (List.getElem?_eq_some_iff.1 hu).1
        rwa [reC_len] at this
      rw [Array.getElem?_setIfInBounds, Nat.zero_add]
      by_cases hij : i = j
      · subst hij
        rw [List.getElem_set_self] at hu
        by_cases ho5 : o = 25
        · subst ho5
          have h25 : (reC (xs[i].upd z))[25]? = some (.int .i64 z) := by
            unfold reC
            rw [List.getElem?_append_right (by rw [rkC_len (xs[i].upd z).hk]; exact Nat.le_refl _), rkC_len (xs[i].upd z).hk]
            rfl
          rw [h25] at hu
          rw [if_pos rfl, if_pos (by omega)]
          exact hu
        · rw [if_neg (by omega), hcell i o hi ho, ← hu]
          unfold reC
          rw [List.getElem?_append_left (by rw [rkC_len xs[i].hk]; omega), List.getElem?_append_left (by rw [rkC_len (xs[i].upd z).hk]; omega)]
          rfl
      · rw [List.getElem_set_ne hij] at hu
        rw [if_neg (by omega), hcell j o hj' ho, hu]
    · intro a e
      cases e
      show g < (w.setCell _ _).heap.size
      exact lt_heap (heap_setCell_self (w := w) _ hh)
    · intro a e
      cases e
      exact ⟨_, heap_setCell_self (w := w) _ hh⟩
set_option maxRecDepth 100000 in
set_option maxHeartbeats 4000000 in
theorem rputS_any (q : Option Addr) (n c : Nat) (xs : List RE) (k : List UInt8) (z : Int) (w : World) (i : Nat) (hR : RSl w q n c xs) (hn9 : n ≤ 1000000) (hk : k.length = 25) (hf : findL (xs.map RE.p) k = some i) :
    Calls Try.prog 12 #[.slice q n c, .agg (rkC k).toArray, .int .i64 z] w fun e w' => ∃ q' n' c' ys, e = .returned (.tuple #[.slice q' n' c', .bool false]) ∧ RSl w' q' n' c' ys ∧ ys.map RE.p = putL (xs.map RE.p) k z ∧ Below w.heap.size w w' := by
  have HK := Lib.hid hk
  have HB0 := Lib.hid (below_alloc1 w (.cells (rkC k).toArray 40))
  have HX0 := Lib.hid (heap_alloc_new w (.cells (rkC k).toArray 40))
  have HR := Lib.hid (hR.below HB0.out)
  obtain ⟨hi, he⟩ := find_some hf
  have hil : i < xs.length := by simpa using hi
  have hin : i < n := by rw [← hR.len]; exact hil
  have hini : (i : Int) < n := by omega
  have HD : Hid ((xs.set i (xs[i].upd z)).map RE.p = putL (xs.map RE.p) k z) := by
    show _ = _
    unfold putL
    rw [hf]
    simp only [List.map_set]
    congr 1
    have : xs[i].k = k := by simpa [RE.p] using he
    simp [RE.upd, RE.p, this]
  clear hk hR hi he
  go_enter Try.func12, Try.ntmps12
  go_upto_region 1 with fail
  generalize w.alloc (.cells (rkC k).toArray 40) = W0 at *
  have HB1 := Lib.hid (below_alloc1 W0 (.cells #[] 57))
  have HO : Hid (OwnE reC 57 26 (W0.alloc (.cells #[] 57)) W0.heap.size (.slice (some ⟨W0.heap.size, 0, none⟩) 0 0) []) := ⟨by simp, .inr ⟨W0.heap.size, 0, #[], rfl, Nat.le_refl _, heap_alloc_new _ _, by simp, by unfold maxLen; omega, rfl, rfl⟩⟩
  go_upto_region 2 with (first
    | ((with_reducible refine gate_op (.call { callee := .builtin .append, args := #[.tmp 11, .tmp 12], argTypes := #[33, 33] }) rfl ?_); refine wl_appO (enc := reC) (k := 26) rfl 33 57 56 _ Try.underlying33 infoRE reZ_sz (by omega) reC_len reC_one (.tmp 11) (.tmp 12) rfl W0.heap.size _ [] rfl HO.out q n c xs rfl HR.out.len (HR.out.at_.below HB1.out) HR.out.nil (by simp; omega) (by unfold maxLen; simp; omega) (by simp) (fun v1 w1 ho1 hg1 hv1 => ?_); clear hv1; have HO1 : Hid (OwnE reC 57 26 w1 W0.heap.size v1 xs) := ho1; have HB2 : Hid (Below W0.heap.size W0 w1) := HB1.out.grown hg1 (by simp) (fun g e => Nat.le_of_eq (by simpa [Value.ownBlock, Act.eval, Act.put] using e)); clear ho1 hg1))
  have HX1 := Lib.hid ((HB2.out.block _ (lt_heap HX0.out)).trans HX0.out)
  have HR1 := Lib.hid (HR.out.below HB2.out)
  have HBw := Lib.hid (HB0.out.trans (HB2.out.mono HB0.out.size))
  have HBs : Hid (w.heap.size ≤ W0.heap.size) := HB0.out.size
  clear HX0 HR HB0 HB1 HB2 HO
  have KF : Hid (∀ W, RSl W q n c xs → Calls Try.prog 33 #[.slice q n c, .agg (rkC k).toArray] W fun e w' => e = .returned (.int .i64 (i : Int)) ∧ Below W.heap.size W w') := fun W h => by
    have := rfind_any q n c xs k W h.len hn9 HK.out h.at_
    rwa [hf] at this
  go_upto_region 4 with (first
    | ((with_reducible refine gate_ld 40 (.tmp 4) rfl ?_); refine wl_ldr rfl 40 _ rfl w.heap.size 0 (rkC k) _ Try.underlying40 rfl (by rw [sizRK, rkC_len HK.out]) rfl (range_whole (by simpa using HX1.out)) ?_)
    | (go_at_call 33; (refine (KF.out _ HR1.out).mono ?_); rintro e W3 ⟨rfl, hb3⟩; have HB3 := Lib.hid hb3; clear hb3))
  obtain ⟨g, cap, rfl, hbg, hgl, hc, hfz, hR3⟩ := rset (HO1.out.below HB3.out) i hil z
  have hix : (i : Int) < xs.length := by omega
  have HR3 := Lib.hid hR3
  have HB4 : Hid (Below w.heap.size w (W3.setCell ⟨g, i * 26 + 25, none⟩ (.int .i64 z))) := (HBw.out.trans (HB3.out.mono HBw.out.size)).setCell (p := ⟨g, i * 26 + 25, none⟩) (Nat.le_trans HBs.out hbg) _
  clear hR3 HO1 HB3 HBw HR1 HX1 KF hf
  go_wp2_with fail
  refine bodyPost_ret (results_tmp2 rfl _ _ _) rfl ?_
  exact ⟨_, _, _, _, rfl, HR3.out, HD.out, HB4.out⟩
end Go.Proofs.Ytagdedjclbmlkaa

/- The document's Put, of a key that is new. -/
namespace Go.Proofs.Ytagdedjclbmlkaa
open Go.RowKit

theorem builtRE (k : List UInt8) (hk : k.length = 25) (z : Int) : Try.prog.built 57 [(0, .agg (rkC k).toArray), (1, .int .i64 z)] = some (reC ⟨k, z, hk⟩).toArray := by
  obtain ⟨a0, a1, a2, a3, a4, a5, a6, a7, a8, a9, a10, a11, a12, a13, a14, a15, a16, a17, a18, a19, a20, a21, a22, a23, a24, rfl⟩ := list25 k hk
  kernel_rfl
theorem exec_bdE {o : Oper} {a : Act} {w : World} (x y : Operand) (ho : o.op = .build 57 #[(0, x), (1, y)]) (k : List UInt8) (hk : k.length = 25) (z : Int) (hx : a.eval x = .agg (rkC k).toArray) (hy : a.eval y = .int .i64 z) : (execOp a.eval o).run Try.prog w = .ok (.value (.agg (reC ⟨k, z, hk⟩).toArray)) w := by
  have := run_build (P := Try.prog) w 57 #[(0, .agg (rkC k).toArray), (1, .int .i64 z)] _ (builtRE k hk z)
  unfold execOp
  simp only [ho, List.map_toArray, List.map_cons, List.map_nil, hx, hy, Sem.run_bind, this, Result.andThen_ok, Sem.run_pure]
theorem at_eq {xs : List RE} {k : List UInt8} {j : Nat} (hj : j ≤ xs.length) (hlt : ∀ i (h : i < xs.length), i < j → ltK xs[i].k k = true) (hst : ∀ h : j < xs.length, ltK xs[j].k k = false) : atL (xs.map RE.p) k = j := by
  unfold atL
  induction xs generalizing j with
  | nil => simp at hj; subst hj; rfl
  | cons x xs ih =>
    cases j with
    | zero =>
      have := hst (by simp)
      simp only [List.getElem_cons_zero] at this
      simp [RE.p, this]
    | succ j =>
      have h0 := hlt 0 (by simp) (by omega)
      simp only [List.getElem_cons_zero] at h0
      have := ih (j := j) (by simpa using hj) (fun i h hi => hlt (i + 1) (by simpa using h) (by omega)) (fun h => hst (by simpa using h))
      simp only [List.map_cons, List.takeWhile_cons, RE.p, h0, if_true, List.length_cons] at this ⊢
      rw [this]
theorem slat_kept {w w' : World} {b : Nat} {x : RE} (h : SlAt reC 26 w (some ⟨b, 0, none⟩) [x]) (he : w'.heap[b]? = w.heap[b]?) (hl : b < w'.heap.size) : SlAt reC 26 w' (some ⟨b, 0, none⟩) [x] := fun i hi => by
  obtain ⟨b', o, h1, h2, h3⟩ := h i hi
  cases h1
  exact ⟨b, 0, rfl, hl, range_of_block h3 he⟩
set_option maxRecDepth 100000 in
set_option maxHeartbeats 4000000 in
theorem rputN_any (q : Option Addr) (n c : Nat) (xs : List RE) (k : List UInt8) (z : Int) (w : World) (hR : RSl w q n c xs) (hn9 : n ≤ 1000000) (hk : k.length = 25) (hf : findL (xs.map RE.p) k = none) :
    Calls Try.prog 12 #[.slice q n c, .agg (rkC k).toArray, .int .i64 z] w fun e w' => ∃ q' n' c' ys, e = .returned (.tuple #[.slice q' n' c', .bool true]) ∧ RSl w' q' n' c' ys ∧ ys.map RE.p = putL (xs.map RE.p) k z ∧ Below w.heap.size w w' := by
  have HK := Lib.hid hk
  have HB0 := Lib.hid (below_alloc1 w (.cells (rkC k).toArray 40))
  have HX0 := Lib.hid (heap_alloc_new w (.cells (rkC k).toArray 40))
  have HR := Lib.hid (hR.below HB0.out)
  have HD : Hid (∀ j, atL (xs.map RE.p) k = j → (xs.take j ++ [(⟨k, z, HK.out⟩ : RE)] ++ xs.drop j).map RE.p = putL (xs.map RE.p) k z) := fun j hj => by
    unfold putL
    rw [hf, hj]
    simp [List.map_take, List.map_drop, RE.p]
  clear hk hR
  go_enter Try.func12, Try.ntmps12
  go_upto_region 1 with fail
  generalize w.alloc (.cells (rkC k).toArray 40) = W0 at *
  have HB1 := Lib.hid (below_alloc1 W0 (.cells #[] 57))
  have HO : Hid (OwnE reC 57 26 (W0.alloc (.cells #[] 57)) W0.heap.size (.slice (some ⟨W0.heap.size, 0, none⟩) 0 0) []) := ⟨by simp, .inr ⟨W0.heap.size, 0, #[], rfl, Nat.le_refl _, heap_alloc_new _ _, by simp, by unfold maxLen; omega, rfl, rfl⟩⟩
  go_upto_region 2 with (first
    | ((with_reducible refine gate_op (.call { callee := .builtin .append, args := #[.tmp 11, .tmp 12], argTypes := #[33, 33] }) rfl ?_); refine wl_appO (enc := reC) (k := 26) rfl 33 57 56 _ Try.underlying33 infoRE reZ_sz (by omega) reC_len reC_one (.tmp 11) (.tmp 12) rfl W0.heap.size _ [] rfl HO.out q n c xs rfl HR.out.len (HR.out.at_.below HB1.out) HR.out.nil (by simp; omega) (by unfold maxLen; simp; omega) (by simp) (fun v1 w1 ho1 hg1 hv1 => ?_); clear hv1; have HB2 : Hid (Below W0.heap.size W0 w1) := HB1.out.grown hg1 (by simp) (fun g e => Nat.le_of_eq (by simpa [Value.ownBlock, Act.eval, Act.put] using e)); clear ho1 hg1))
  have HX1 := Lib.hid ((HB2.out.block _ (lt_heap HX0.out)).trans HX0.out)
  have HR1 := Lib.hid (HR.out.below HB2.out)
  have HBw := Lib.hid (HB0.out.trans (HB2.out.mono HB0.out.size))
  clear HX0 HR HB0 HB1 HB2 HO
  have KF : Hid (∀ W, RSl W q n c xs → Calls Try.prog 33 #[.slice q n c, .agg (rkC k).toArray] W fun e w' => e = .returned (.int .i64 (-1)) ∧ Below W.heap.size W w') := fun W h => by
    have := rfind_any q n c xs k W h.len hn9 HK.out h.at_
    rwa [hf] at this
  clear hf
  go_upto_region 6 with (first
    | ((with_reducible refine gate_ld 40 (.tmp 4) rfl ?_); refine wl_ldr rfl 40 _ rfl w.heap.size 0 (rkC k) _ Try.underlying40 rfl (by rw [sizRK, rkC_len HK.out]) rfl (range_whole (by simpa using HX1.out)) ?_)
    | (go_at_call 33; (refine (KF.out _ HR1.out).mono ?_); rintro e W3 ⟨rfl, hb3⟩; have HB3 := Lib.hid (HBw.out.trans (hb3.mono HBw.out.size)); have HX3 := Lib.hid ((hb3.block _ (lt_heap HX1.out)).trans HX1.out); have HR3 := Lib.hid (HR1.out.below hb3); clear hb3 HBw HX1 HR1 KF))
  go_wp2_with fail
  go_loopw [10] (fun vi wr => ∃ (j : Nat), j ≤ n ∧ vi = .int .i64 j ∧ Hid (Below W3.heap.size W3 wr) ∧ Hid (∀ i (h : i < xs.length), i < j → ltK xs[i].k k = true)) (fun vi _ => n - (intOf vi).toNat)
  case atStart => exact ⟨0, Nat.zero_le _, rfl, Lib.hid (Below.refl _ _), Lib.hid (fun i _ h => absurd h (by omega))⟩
  case round =>
    obtain ⟨j, hj, rfl, HB, HL⟩ := hrel
    have HOUT : Hid (∀ (W : World), Below W3.heap.size W3 W → atL (xs.map RE.p) k = j → True) := fun _ _ _ => trivial
    have HRr := Lib.hid (HR3.out.below HB.out)
    have HXr := Lib.hid ((HB.out.block _ (lt_heap HX3.out)).trans HX3.out)
    have hXl := lt_heap HXr.out
    by_cases h1 : j < n
    · have h1i : (j : Int) < n := by omega
      have hil : j < xs.length := by rw [HRr.out.len]; exact h1
      obtain ⟨x, hx⟩ : ∃ x, x = xs[j] := ⟨_, rfl⟩
      obtain ⟨qb, qo, rfl, hqb, hqr⟩ := HRr.out.at_ j hil
      rw [← hx] at hqr
      have HRq := Lib.hid (re_key hqr)
      have HXe := Lib.hid hx
      have HLx := x.hk
      have KL := Lib.hid (fun W => rless_any x.k k W HLx HK.out)
      clear hqr hx
      go_upto_region 7 with fail
      refine wp_region_quiet_below (by kernel_rfl) (by kernel_rfl) ?_
      repeat (first
        | go_big_quiet_skip
        | (refine wq_ix _ rfl 33 57 (.tmp 30) (.tmp 31) rfl Try.underlying33 26 sizRE qb qo n c j rfl rfl h1 ?_; simp only [Act.put, List.setIfInBounds_toArray, List.set_cons_zero, List.set_cons_succ])
        | (with_reducible refine wq_ldr rfl 40 (.tmp 33) rfl qb (qo + j * 26) (rkC x.k) _ Try.underlying40 rfl (by rw [sizRK, rkC_len HLx]) rfl HRq.out hqb ?_; simp only [Act.put, List.setIfInBounds_toArray, List.set_cons_zero, List.set_cons_succ])
        | (with_reducible refine wq_ldr rfl 40 (.tmp 4) rfl w.heap.size 0 (rkC k) _ Try.underlying40 rfl (by rw [sizRK, rkC_len HK.out]) rfl (range_whole (by simpa using HXr.out)) hXl ?_; simp only [Act.put, List.setIfInBounds_toArray, List.set_cons_zero, List.set_cons_succ])
        | go_big_quiet_step (first | (exact rg_call KL.out _ _)))
      refine wpQuiet_nil ?_
      rintro _ ⟨⟨dq, osq⟩, rfl⟩
      have hbel := below_regrown wr dq osq
      have HB9 := Lib.hid (HB.out.trans (hbel.mono HB.out.size))
      clear HRq HXr hXl hqb hbel
      generalize Sort.grow (redrawn wr dq) osq = Wx at *
      cases hlt : ltK x.k k with
      | true =>
        have HT : Hid (ltK x.k k = true) := hlt
        clear hlt
        go_wp2_with fail
        go_roundw
        case rel => exact ⟨j + 1, by omega, by go_num, HB9, Lib.hid (fun i hi hij => by
          rcases Nat.lt_succ_iff_lt_or_eq.1 hij with h | h
          · exact HL.out i hi h
          · subst h; rw [← HXe.out]; exact HT.out)⟩
        case measure => simp [intOf]; omega
      | false =>
        have HAt : Hid (atL (xs.map RE.p) k = j) := at_eq (by omega) HL.out (fun h => by rw [← HXe.out]; exact hlt)
        clear hlt HXe
        have hbd : Below Wx.heap.size Wx Wx.drew := ⟨rfl, rfl, rfl, Nat.le_refl _, fun _ _ => rfl⟩
        have hRd := (HR3.out.below HB9.out).below hbd
        have hSd := (hbd.block _ (lt_heap ((HB9.out.block _ (lt_heap HX3.out)).trans HX3.out))).trans ((HB9.out.block _ (lt_heap HX3.out)).trans HX3.out)
        have hBd : Below w.heap.size w Wx.drew := HB3.out.trans ((HB9.out.trans (hbd.mono HB9.out.size)).mono HB3.out.size)
        have hjc : j ≤ c := by have := hRd.le; omega
        clear hbd
        go_upto_region 9 with fail
        refine wp_region_held_drew (S := fun w' => w'.heap[w.heap.size]? = some (.cells (rkC k).toArray 40 (0, 0))) (by kernel_rfl) hSd (fun hS0 => ?_)
        show wpAnyH Try.prog Region.Mode.any _ _ _ 11 #[false, false, false, false, false, false, false, false, false, false, false] _ _
        have hSb : ∀ w', Below Wx.drew.heap.size Wx.drew w' → w'.heap[w.heap.size]? = some (.cells (rkC k).toArray 40 (0, 0)) := fun w' h => (h.block _ (lt_heap hSd)).trans hSd
        generalize Wx.drew = Wd at *
        refine takeD (i := 1) (v := .slice (some ⟨qb, qo, none⟩) n c) 41 rfl rfl (by kernel_rfl) (by kernel_rfl) (by kernel_rfl) (fun _ _ _ h => h) (Or.inl ⟨rfl, fun w' hS => rfl⟩) hS0 ?_
        simp only [Act.put, List.setIfInBounds_toArray, List.set_cons_zero, List.set_cons_succ]
        refine takeD (i := 2) (v := .int .i64 (j : Int)) 42 rfl rfl (by kernel_rfl) (by kernel_rfl) (by kernel_rfl) (fun _ _ _ h => h) (Or.inl ⟨rfl, fun w' hS => rfl⟩) hS0 ?_
        simp only [Act.put, List.setIfInBounds_toArray, List.set_cons_zero, List.set_cons_succ]
        refine takeD (i := 3) (v := .slice (some ⟨qb, qo, none⟩) j c) 43 rfl rfl (by kernel_rfl) (by kernel_rfl) (by kernel_rfl) (fun _ _ _ h => h) (Or.inl ⟨rfl, fun w' hS => exec_hi Try.underlying33 sizRE (.tmp 41) (.tmp 42) rfl (some ⟨qb, qo, none⟩) n c j rfl rfl hjc⟩) hS0 ?_
        simp only [Act.put, List.setIfInBounds_toArray, List.set_cons_zero, List.set_cons_succ]
        refine takeD (i := 5) (v := .agg (rkC k).toArray) 45 rfl rfl (by kernel_rfl) (by kernel_rfl) (by kernel_rfl) (fun _ _ _ h => h) (Or.inl ⟨rfl, fun w' hS => exec_ldr 40 (.tmp 4) rfl w.heap.size 0 (rkC k) _ Try.underlying40 rfl (by rw [sizRK, rkC_len HK.out]) rfl (range_whole (by simpa using hS))⟩) hS0 ?_
        simp only [Act.put, List.setIfInBounds_toArray, List.set_cons_zero, List.set_cons_succ]
        refine takeD (i := 6) (v := .int .i64 z) 46 rfl rfl (by kernel_rfl) (by kernel_rfl) (by kernel_rfl) (fun _ _ _ h => h) (Or.inl ⟨rfl, fun w' hS => rfl⟩) hS0 ?_
        simp only [Act.put, List.setIfInBounds_toArray, List.set_cons_zero, List.set_cons_succ]
        refine takeD (i := 7) (v := .agg (reC ⟨k, z, HK.out⟩).toArray) 47 rfl rfl (by kernel_rfl) (by kernel_rfl) (by kernel_rfl) (fun _ _ _ h => h) (Or.inl ⟨rfl, fun w' hS => exec_bdE (.tmp 45) (.tmp 46) rfl k HK.out z rfl rfl⟩) hS0 ?_
        simp only [Act.put, List.setIfInBounds_toArray, List.set_cons_zero, List.set_cons_succ]
        have hbr : Below Wd.heap.size Wd Wd := Below.refl _ _
        have hbA := below_alloc1 Wd (.cells (reC ⟨k, z, HK.out⟩).toArray 57)
        refine twoH 0 8 (by kernel_rfl) (wpOp_wp rfl rfl (op_bs0 (enc := reC) (k := 26) 33 57 Try.underlying33 sizRE rfl Wd.heap.size hbr.size (fun v1 w1 ho1 hg1 _ => ⟨hSb _ (hbr.grown hg1 hbr.size (fun k e => by cases e)), ?_⟩))) (wpOp_val rfl rfl (exec_bs1 (enc := reC) (k := 26) 33 57 56 _ Try.underlying33 infoRE (by omega) (by omega) reC_len (.tmp 47) rfl ⟨k, z, HK.out⟩ rfl) ⟨hSb _ (hbr.trans ((below_alloc1 Wd _).mono hbr.size)), ?_⟩)
        · have hb1 : Below Wd.heap.size Wd w1 := hbr.grown hg1 hbr.size (fun k e => by cases e)
          have hbA1 := hb1.trans ((below_alloc1 w1 (.cells (reC ⟨k, z, HK.out⟩).toArray 57)).mono hb1.size)
          refine twoH 4 8 (by kernel_rfl) (wpOp_wp rfl rfl (op_app (enc := reC) (k := 26) 33 57 56 _ Try.underlying33 infoRE reZ_sz (by omega) reC_len reC_one (.tmp 40) (.tmp 43) rfl Wd.heap.size v1 [] rfl ho1 (some ⟨qb, qo, none⟩) j c (xs.take j) rfl (by rw [List.length_take]; have := hRd.len; omega) ((hRd.at_.take j).below hb1) hRd.nil (by simp; omega) (by unfold maxLen; simp; omega) hb1.size (fun v4 w4 ho4 hg4 _ => ⟨hSb _ (hb1.trans (grown_below hg4 (fun g e => ((ho1).lt g e).1) hb1.size)), ?_⟩))) (wpOp_val rfl rfl (exec_bs1 (enc := reC) (k := 26) 33 57 56 _ Try.underlying33 infoRE (by omega) (by omega) reC_len (.tmp 47) rfl ⟨k, z, HK.out⟩ rfl) ⟨hSb _ (hb1.trans ((below_alloc1 w1 _).mono hb1.size)), ?_⟩)
          · simp only [List.nil_append] at ho4
            have hb4 := hb1.trans (grown_below hg4 (fun g e => (ho1.lt g e).1) hb1.size)
            refine oneH 8 (by kernel_rfl) (wpOp_val rfl rfl (exec_bs1 (enc := reC) (k := 26) 33 57 56 _ Try.underlying33 infoRE (by omega) (by omega) reC_len (.tmp 47) rfl ⟨k, z, HK.out⟩ rfl) ⟨hSb _ (hb4.trans ((below_alloc1 w4 _).mono hb4.size)), ?_⟩)
            obtain ⟨bF, hbFe⟩ : ∃ bF, bF = w4.heap.size := ⟨_, rfl⟩
            have hbF := hb4.trans ((below_alloc1 w4 (.cells (reC ⟨k, z, HK.out⟩).toArray 57)).mono hb4.size)
            have hoF := ho4.below (below_alloc1 w4 (.cells (reC ⟨k, z, HK.out⟩).toArray 57))
            have hyF := slat1 (enc := reC) (k := 26) w4 ⟨k, z, HK.out⟩ 57
            rw [← hbFe] at hyF ⊢
            refine oneH 9 (by kernel_rfl) (wpOp_wp rfl rfl (op_app (enc := reC) (k := 26) 33 57 56 _ Try.underlying33 infoRE reZ_sz (by omega) reC_len reC_one (.tmp 44) (.tmp 48) rfl Wd.heap.size v4 (xs.take j) rfl hoF (some ⟨bF, 0, none⟩) 1 1 [⟨k, z, HK.out⟩] rfl rfl hyF (fun e => by cases e) (by rw [List.length_take]; omega) (by unfold maxLen; rw [List.length_take]; omega) hbF.size (fun v9 w9 ho9 hg9 _ => ⟨hSb _ (hbF.trans (grown_below hg9 (fun g e => (hoF.lt g e).1) hbF.size)), ?_⟩)))
            have hb9 := hbF.trans (grown_below hg9 (fun g e => (hoF.lt g e).1) hbF.size)
            refine oneH 10 (by kernel_rfl) (wpOp_as rfl rfl (.tmp 49) rfl v9 rfl ⟨hSb _ hb9, ?_⟩)
            refine wpAnyH_done (by kernel_rfl) ?_ _
            have HO9 := Lib.hid ho9
            have HB9 := Lib.hid (hBd.trans (hb9.mono hBd.size))
            have HR9 := Lib.hid (hRd.below hb9)
            have HS9 : Hid (Wd.heap.size ≤ w9.heap.size) := hb9.size
            have HBd : Hid (w.heap.size ≤ Wd.heap.size) := hBd.size
            clear hyF hbF hoF hb9 ho9 hg9 hSb hS0 hRd hBd
            simp only [Act.put, List.getElem_toArray, List.getElem_cons_zero, List.getElem_cons_succ, List.setIfInBounds_toArray, List.set_cons_zero, List.set_cons_succ]
            go_wp2_with (first
              | ((with_reducible refine gate_op (.slice 33 (.tmp 51) (some (.tmp 52)) none none) rfl ?_); refine wl_valG rfl _ (exec_lo Try.underlying33 sizRE (.tmp 51) (.tmp 52) rfl (some ⟨qb, qo, none⟩) n c j rfl rfl hj) ?_)
              | ((with_reducible refine gate_op (.call { callee := .builtin .append, args := #[.tmp 50, .tmp 53], argTypes := #[33, 33] }) rfl ?_); refine wl_appO (enc := reC) (k := 26) rfl 33 57 56 _ Try.underlying33 infoRE reZ_sz (by omega) reC_len reC_one (.tmp 50) (.tmp 53) rfl Wd.heap.size v9 (xs.take j ++ [⟨k, z, HK.out⟩]) rfl HO9.out (cutQ 26 (some ⟨qb, qo, none⟩) j c) (n - j) (c - j) (xs.drop j) rfl (by rw [List.length_drop, HR9.out.len]) (HR9.out.at_.cut j c (by rw [HR9.out.len]; exact HR9.out.le)) (fun e => by rw [HR9.out.nil (cutQ_isNone e)]; omega) (by simp only [List.length_append, List.length_take, List.length_singleton]; omega) (by unfold maxLen; simp only [List.length_append, List.length_take, List.length_singleton]; omega) HS9.out (fun v10 w10 ho10 hg10 hx10 => ?_); clear hx10; have HO10 := Lib.hid ho10; have HB10 : Hid (Below w.heap.size w w10) := HB9.out.grown hg10 HB9.out.size (fun g e => Nat.le_trans HBd.out (HO9.out.lt g e).1); clear ho10 hg10))
            obtain ⟨q', c', rfl, hRf⟩ := RSl.own HO10.out
            refine bodyPost_ret (results_tmp2 rfl _ _ _) rfl ?_
            first | exact ⟨q', _, c', _, rfl, hRf, HD.out j HAt.out, HB10.out⟩ | exact ⟨q', _, c', rfl, _, hRf, HD.out j HAt.out, HB10.out⟩
          · refine oneH 4 (by kernel_rfl) (wpOp_wp rfl rfl (op_app (enc := reC) (k := 26) 33 57 56 _ Try.underlying33 infoRE reZ_sz (by omega) reC_len reC_one (.tmp 40) (.tmp 43) rfl Wd.heap.size v1 [] rfl (ho1.below (below_alloc1 w1 (.cells (reC ⟨k, z, HK.out⟩).toArray 57))) (some ⟨qb, qo, none⟩) j c (xs.take j) rfl (by rw [List.length_take]; have := hRd.len; omega) ((hRd.at_.take j).below hbA1) hRd.nil (by simp; omega) (by unfold maxLen; simp; omega) hbA1.size (fun v4 w4 ho4 hg4 _ => ⟨hSb _ (hbA1.trans (grown_below hg4 (fun g e => (((ho1.below (below_alloc1 w1 (.cells (reC ⟨k, z, HK.out⟩).toArray 57)))).lt g e).1) hbA1.size)), ?_⟩)))
            simp only [List.nil_append] at ho4
            have hgb := grown_below hg4 (fun g e => ((ho1.below (below_alloc1 w1 (.cells (reC ⟨k, z, HK.out⟩).toArray 57))).lt g e).1) hbA1.size
            obtain ⟨bF, hbFe⟩ : ∃ bF, bF = w1.heap.size := ⟨_, rfl⟩
            have hbF := hbA1.trans hgb
            have hoF := ho4
            have hyF : SlAt reC 26 w4 (some ⟨w1.heap.size, 0, none⟩) [⟨k, z, HK.out⟩] := slat_kept (slat1 (enc := reC) (k := 26) w1 ⟨k, z, HK.out⟩ 57) (hg4.block _ (by simp) (fun e => by have := (ho1.lt _ e.symm).2; omega)) (by have := hg4.size; simp at this; omega)
            rw [← hbFe] at hyF ⊢
            refine oneH 9 (by kernel_rfl) (wpOp_wp rfl rfl (op_app (enc := reC) (k := 26) 33 57 56 _ Try.underlying33 infoRE reZ_sz (by omega) reC_len reC_one (.tmp 44) (.tmp 48) rfl Wd.heap.size v4 (xs.take j) rfl hoF (some ⟨bF, 0, none⟩) 1 1 [⟨k, z, HK.out⟩] rfl rfl hyF (fun e => by cases e) (by rw [List.length_take]; omega) (by unfold maxLen; rw [List.length_take]; omega) hbF.size (fun v9 w9 ho9 hg9 _ => ⟨hSb _ (hbF.trans (grown_below hg9 (fun g e => (hoF.lt g e).1) hbF.size)), ?_⟩)))
            have hb9 := hbF.trans (grown_below hg9 (fun g e => (hoF.lt g e).1) hbF.size)
            refine oneH 10 (by kernel_rfl) (wpOp_as rfl rfl (.tmp 49) rfl v9 rfl ⟨hSb _ hb9, ?_⟩)
            refine wpAnyH_done (by kernel_rfl) ?_ _
            have HO9 := Lib.hid ho9
            have HB9 := Lib.hid (hBd.trans (hb9.mono hBd.size))
            have HR9 := Lib.hid (hRd.below hb9)
            have HS9 : Hid (Wd.heap.size ≤ w9.heap.size) := hb9.size
            have HBd : Hid (w.heap.size ≤ Wd.heap.size) := hBd.size
            clear hyF hbF hoF hb9 ho9 hg9 hSb hS0 hRd hBd
            simp only [Act.put, List.getElem_toArray, List.getElem_cons_zero, List.getElem_cons_succ, List.setIfInBounds_toArray, List.set_cons_zero, List.set_cons_succ]
            go_wp2_with (first
              | ((with_reducible refine gate_op (.slice 33 (.tmp 51) (some (.tmp 52)) none none) rfl ?_); refine wl_valG rfl _ (exec_lo Try.underlying33 sizRE (.tmp 51) (.tmp 52) rfl (some ⟨qb, qo, none⟩) n c j rfl rfl hj) ?_)
              | ((with_reducible refine gate_op (.call { callee := .builtin .append, args := #[.tmp 50, .tmp 53], argTypes := #[33, 33] }) rfl ?_); refine wl_appO (enc := reC) (k := 26) rfl 33 57 56 _ Try.underlying33 infoRE reZ_sz (by omega) reC_len reC_one (.tmp 50) (.tmp 53) rfl Wd.heap.size v9 (xs.take j ++ [⟨k, z, HK.out⟩]) rfl HO9.out (cutQ 26 (some ⟨qb, qo, none⟩) j c) (n - j) (c - j) (xs.drop j) rfl (by rw [List.length_drop, HR9.out.len]) (HR9.out.at_.cut j c (by rw [HR9.out.len]; exact HR9.out.le)) (fun e => by rw [HR9.out.nil (cutQ_isNone e)]; omega) (by simp only [List.length_append, List.length_take, List.length_singleton]; omega) (by unfold maxLen; simp only [List.length_append, List.length_take, List.length_singleton]; omega) HS9.out (fun v10 w10 ho10 hg10 hx10 => ?_); clear hx10; have HO10 := Lib.hid ho10; have HB10 : Hid (Below w.heap.size w w10) := HB9.out.grown hg10 HB9.out.size (fun g e => Nat.le_trans HBd.out (HO9.out.lt g e).1); clear ho10 hg10))
            obtain ⟨q', c', rfl, hRf⟩ := RSl.own HO10.out
            refine bodyPost_ret (results_tmp2 rfl _ _ _) rfl ?_
            first | exact ⟨q', _, c', _, rfl, hRf, HD.out j HAt.out, HB10.out⟩ | exact ⟨q', _, c', rfl, _, hRf, HD.out j HAt.out, HB10.out⟩
        · refine oneH 0 (by kernel_rfl) (wpOp_wp rfl rfl (op_bs0 (enc := reC) (k := 26) 33 57 Try.underlying33 sizRE rfl Wd.heap.size hbA.size (fun v1 w1 ho1 hg1 hv1 => ⟨hSb _ (hbA.grown hg1 hbA.size (fun k e => by cases e)), ?_⟩)))
          have hb1 := hbA.grown hg1 hbA.size (fun k e => by cases e)
          refine oneH 4 (by kernel_rfl) (wpOp_wp rfl rfl (op_app (enc := reC) (k := 26) 33 57 56 _ Try.underlying33 infoRE reZ_sz (by omega) reC_len reC_one (.tmp 40) (.tmp 43) rfl Wd.heap.size v1 [] rfl ho1 (some ⟨qb, qo, none⟩) j c (xs.take j) rfl (by rw [List.length_take]; have := hRd.len; omega) ((hRd.at_.take j).below hb1) hRd.nil (by simp; omega) (by unfold maxLen; simp; omega) hb1.size (fun v4 w4 ho4 hg4 _ => ⟨hSb _ (hb1.trans (grown_below hg4 (fun g e => ((ho1).lt g e).1) hb1.size)), ?_⟩)))
          simp only [List.nil_append] at ho4
          have hgb := grown_below hg4 (fun g e => (ho1.lt g e).1) hb1.size
          obtain ⟨bF, hbFe⟩ : ∃ bF, bF = Wd.heap.size := ⟨_, rfl⟩
          have hbF := hb1.trans hgb
          have hoF := ho4
          have hyF : SlAt reC 26 w4 (some ⟨Wd.heap.size, 0, none⟩) [⟨k, z, HK.out⟩] := slat_kept (slat1 (enc := reC) (k := 26) Wd ⟨k, z, HK.out⟩ 57) ((hg4.block _ (Nat.lt_of_lt_of_le (by simp) hg1.size) (fun e => by rw [hv1] at e; simp at e)).trans (hg1.block _ (by simp) (by simp))) (Nat.lt_of_lt_of_le (Nat.lt_of_lt_of_le (by simp) hg1.size) hg4.size)
          rw [← hbFe] at hyF ⊢
          refine oneH 9 (by kernel_rfl) (wpOp_wp rfl rfl (op_app (enc := reC) (k := 26) 33 57 56 _ Try.underlying33 infoRE reZ_sz (by omega) reC_len reC_one (.tmp 44) (.tmp 48) rfl Wd.heap.size v4 (xs.take j) rfl hoF (some ⟨bF, 0, none⟩) 1 1 [⟨k, z, HK.out⟩] rfl rfl hyF (fun e => by cases e) (by rw [List.length_take]; omega) (by unfold maxLen; rw [List.length_take]; omega) hbF.size (fun v9 w9 ho9 hg9 _ => ⟨hSb _ (hbF.trans (grown_below hg9 (fun g e => (hoF.lt g e).1) hbF.size)), ?_⟩)))
          have hb9 := hbF.trans (grown_below hg9 (fun g e => (hoF.lt g e).1) hbF.size)
          refine oneH 10 (by kernel_rfl) (wpOp_as rfl rfl (.tmp 49) rfl v9 rfl ⟨hSb _ hb9, ?_⟩)
          refine wpAnyH_done (by kernel_rfl) ?_ _
          have HO9 := Lib.hid ho9
          have HB9 := Lib.hid (hBd.trans (hb9.mono hBd.size))
          have HR9 := Lib.hid (hRd.below hb9)
          have HS9 : Hid (Wd.heap.size ≤ w9.heap.size) := hb9.size
          have HBd : Hid (w.heap.size ≤ Wd.heap.size) := hBd.size
          clear hyF hbF hoF hb9 ho9 hg9 hSb hS0 hRd hBd
          simp only [Act.put, List.getElem_toArray, List.getElem_cons_zero, List.getElem_cons_succ, List.setIfInBounds_toArray, List.set_cons_zero, List.set_cons_succ]
          go_wp2_with (first
            | ((with_reducible refine gate_op (.slice 33 (.tmp 51) (some (.tmp 52)) none none) rfl ?_); refine wl_valG rfl _ (exec_lo Try.underlying33 sizRE (.tmp 51) (.tmp 52) rfl (some ⟨qb, qo, none⟩) n c j rfl rfl hj) ?_)
            | ((with_reducible refine gate_op (.call { callee := .builtin .append, args := #[.tmp 50, .tmp 53], argTypes := #[33, 33] }) rfl ?_); refine wl_appO (enc := reC) (k := 26) rfl 33 57 56 _ Try.underlying33 infoRE reZ_sz (by omega) reC_len reC_one (.tmp 50) (.tmp 53) rfl Wd.heap.size v9 (xs.take j ++ [⟨k, z, HK.out⟩]) rfl HO9.out (cutQ 26 (some ⟨qb, qo, none⟩) j c) (n - j) (c - j) (xs.drop j) rfl (by rw [List.length_drop, HR9.out.len]) (HR9.out.at_.cut j c (by rw [HR9.out.len]; exact HR9.out.le)) (fun e => by rw [HR9.out.nil (cutQ_isNone e)]; omega) (by simp only [List.length_append, List.length_take, List.length_singleton]; omega) (by unfold maxLen; simp only [List.length_append, List.length_take, List.length_singleton]; omega) HS9.out (fun v10 w10 ho10 hg10 hx10 => ?_); clear hx10; have HO10 := Lib.hid ho10; have HB10 : Hid (Below w.heap.size w w10) := HB9.out.grown hg10 HB9.out.size (fun g e => Nat.le_trans HBd.out (HO9.out.lt g e).1); clear ho10 hg10))
          obtain ⟨q', c', rfl, hRf⟩ := RSl.own HO10.out
          refine bodyPost_ret (results_tmp2 rfl _ _ _) rfl ?_
          first | exact ⟨q', _, c', _, rfl, hRf, HD.out j HAt.out, HB10.out⟩ | exact ⟨q', _, c', rfl, _, hRf, HD.out j HAt.out, HB10.out⟩
    · have hjn : j = n := by omega
      have h1i : ¬ (j : Int) < n := by omega
      go_upto_region 7 with fail
      refine wp_region_quiet_below (by kernel_rfl) (by kernel_rfl) ?_
      repeat (first
        | go_big_quiet_skip
        | go_big_quiet_step (fail))
      refine wpQuiet_nil ?_
      rintro _ ⟨⟨dq, osq⟩, rfl⟩
      have hbel := below_regrown wr dq osq
      have HB9 := Lib.hid (HB.out.trans (hbel.mono HB.out.size))
      clear HXr hXl hbel
      generalize Sort.grow (redrawn wr dq) osq = Wx at *
      have HAt : Hid (atL (xs.map RE.p) k = j) := at_eq (by rw [HRr.out.len]; exact hj) HL.out (fun h => absurd h (by rw [HRr.out.len]; omega))
      have hbd : Below Wx.heap.size Wx Wx.drew := ⟨rfl, rfl, rfl, Nat.le_refl _, fun _ _ => rfl⟩
      have hRd := (HR3.out.below HB9.out).below hbd
      have hSd := (hbd.block _ (lt_heap ((HB9.out.block _ (lt_heap HX3.out)).trans HX3.out))).trans ((HB9.out.block _ (lt_heap HX3.out)).trans HX3.out)
      have hBd : Below w.heap.size w Wx.drew := HB3.out.trans ((HB9.out.trans (hbd.mono HB9.out.size)).mono HB3.out.size)
      have hjc : j ≤ c := by have := hRd.le; omega
      clear hbd hjn
      go_upto_region 9 with fail
      refine wp_region_held_drew (S := fun w' => w'.heap[w.heap.size]? = some (.cells (rkC k).toArray 40 (0, 0))) (by kernel_rfl) hSd (fun hS0 => ?_)
      show wpAnyH Try.prog Region.Mode.any _ _ _ 11 #[false, false, false, false, false, false, false, false, false, false, false] _ _
      have hSb : ∀ w', Below Wx.drew.heap.size Wx.drew w' → w'.heap[w.heap.size]? = some (.cells (rkC k).toArray 40 (0, 0)) := fun w' h => (h.block _ (lt_heap hSd)).trans hSd
      generalize Wx.drew = Wd at *
      refine takeD (i := 1) (v := .slice q n c) 41 rfl rfl (by kernel_rfl) (by kernel_rfl) (by kernel_rfl) (fun _ _ _ h => h) (Or.inl ⟨rfl, fun w' hS => rfl⟩) hS0 ?_
      simp only [Act.put, List.setIfInBounds_toArray, List.set_cons_zero, List.set_cons_succ]
      refine takeD (i := 2) (v := .int .i64 (j : Int)) 42 rfl rfl (by kernel_rfl) (by kernel_rfl) (by kernel_rfl) (fun _ _ _ h => h) (Or.inl ⟨rfl, fun w' hS => rfl⟩) hS0 ?_
      simp only [Act.put, List.setIfInBounds_toArray, List.set_cons_zero, List.set_cons_succ]
      refine takeD (i := 3) (v := .slice q j c) 43 rfl rfl (by kernel_rfl) (by kernel_rfl) (by kernel_rfl) (fun _ _ _ h => h) (Or.inl ⟨rfl, fun w' hS => exec_hi Try.underlying33 sizRE (.tmp 41) (.tmp 42) rfl q n c j rfl rfl hjc⟩) hS0 ?_
      simp only [Act.put, List.setIfInBounds_toArray, List.set_cons_zero, List.set_cons_succ]
      refine takeD (i := 5) (v := .agg (rkC k).toArray) 45 rfl rfl (by kernel_rfl) (by kernel_rfl) (by kernel_rfl) (fun _ _ _ h => h) (Or.inl ⟨rfl, fun w' hS => exec_ldr 40 (.tmp 4) rfl w.heap.size 0 (rkC k) _ Try.underlying40 rfl (by rw [sizRK, rkC_len HK.out]) rfl (range_whole (by simpa using hS))⟩) hS0 ?_
      simp only [Act.put, List.setIfInBounds_toArray, List.set_cons_zero, List.set_cons_succ]
      refine takeD (i := 6) (v := .int .i64 z) 46 rfl rfl (by kernel_rfl) (by kernel_rfl) (by kernel_rfl) (fun _ _ _ h => h) (Or.inl ⟨rfl, fun w' hS => rfl⟩) hS0 ?_
      simp only [Act.put, List.setIfInBounds_toArray, List.set_cons_zero, List.set_cons_succ]
      refine takeD (i := 7) (v := .agg (reC ⟨k, z, HK.out⟩).toArray) 47 rfl rfl (by kernel_rfl) (by kernel_rfl) (by kernel_rfl) (fun _ _ _ h => h) (Or.inl ⟨rfl, fun w' hS => exec_bdE (.tmp 45) (.tmp 46) rfl k HK.out z rfl rfl⟩) hS0 ?_
      simp only [Act.put, List.setIfInBounds_toArray, List.set_cons_zero, List.set_cons_succ]
      have hbr : Below Wd.heap.size Wd Wd := Below.refl _ _
      have hbA := below_alloc1 Wd (.cells (reC ⟨k, z, HK.out⟩).toArray 57)
      refine twoH 0 8 (by kernel_rfl) (wpOp_wp rfl rfl (op_bs0 (enc := reC) (k := 26) 33 57 Try.underlying33 sizRE rfl Wd.heap.size hbr.size (fun v1 w1 ho1 hg1 _ => ⟨hSb _ (hbr.grown hg1 hbr.size (fun k e => by cases e)), ?_⟩))) (wpOp_val rfl rfl (exec_bs1 (enc := reC) (k := 26) 33 57 56 _ Try.underlying33 infoRE (by omega) (by omega) reC_len (.tmp 47) rfl ⟨k, z, HK.out⟩ rfl) ⟨hSb _ (hbr.trans ((below_alloc1 Wd _).mono hbr.size)), ?_⟩)
      · have hb1 : Below Wd.heap.size Wd w1 := hbr.grown hg1 hbr.size (fun k e => by cases e)
        have hbA1 := hb1.trans ((below_alloc1 w1 (.cells (reC ⟨k, z, HK.out⟩).toArray 57)).mono hb1.size)
        refine twoH 4 8 (by kernel_rfl) (wpOp_wp rfl rfl (op_app (enc := reC) (k := 26) 33 57 56 _ Try.underlying33 infoRE reZ_sz (by omega) reC_len reC_one (.tmp 40) (.tmp 43) rfl Wd.heap.size v1 [] rfl ho1 q j c (xs.take j) rfl (by rw [List.length_take]; have := hRd.len; omega) ((hRd.at_.take j).below hb1) hRd.nil (by simp; omega) (by unfold maxLen; simp; omega) hb1.size (fun v4 w4 ho4 hg4 _ => ⟨hSb _ (hb1.trans (grown_below hg4 (fun g e => ((ho1).lt g e).1) hb1.size)), ?_⟩))) (wpOp_val rfl rfl (exec_bs1 (enc := reC) (k := 26) 33 57 56 _ Try.underlying33 infoRE (by omega) (by omega) reC_len (.tmp 47) rfl ⟨k, z, HK.out⟩ rfl) ⟨hSb _ (hb1.trans ((below_alloc1 w1 _).mono hb1.size)), ?_⟩)
        · simp only [List.nil_append] at ho4
          have hb4 := hb1.trans (grown_below hg4 (fun g e => (ho1.lt g e).1) hb1.size)
          refine oneH 8 (by kernel_rfl) (wpOp_val rfl rfl (exec_bs1 (enc := reC) (k := 26) 33 57 56 _ Try.underlying33 infoRE (by omega) (by omega) reC_len (.tmp 47) rfl ⟨k, z, HK.out⟩ rfl) ⟨hSb _ (hb4.trans ((below_alloc1 w4 _).mono hb4.size)), ?_⟩)
          obtain ⟨bF, hbFe⟩ : ∃ bF, bF = w4.heap.size := ⟨_, rfl⟩
          have hbF := hb4.trans ((below_alloc1 w4 (.cells (reC ⟨k, z, HK.out⟩).toArray 57)).mono hb4.size)
          have hoF := ho4.below (below_alloc1 w4 (.cells (reC ⟨k, z, HK.out⟩).toArray 57))
          have hyF := slat1 (enc := reC) (k := 26) w4 ⟨k, z, HK.out⟩ 57
          rw [← hbFe] at hyF ⊢
          refine oneH 9 (by kernel_rfl) (wpOp_wp rfl rfl (op_app (enc := reC) (k := 26) 33 57 56 _ Try.underlying33 infoRE reZ_sz (by omega) reC_len reC_one (.tmp 44) (.tmp 48) rfl Wd.heap.size v4 (xs.take j) rfl hoF (some ⟨bF, 0, none⟩) 1 1 [⟨k, z, HK.out⟩] rfl rfl hyF (fun e => by cases e) (by rw [List.length_take]; omega) (by unfold maxLen; rw [List.length_take]; omega) hbF.size (fun v9 w9 ho9 hg9 _ => ⟨hSb _ (hbF.trans (grown_below hg9 (fun g e => (hoF.lt g e).1) hbF.size)), ?_⟩)))
          have hb9 := hbF.trans (grown_below hg9 (fun g e => (hoF.lt g e).1) hbF.size)
          refine oneH 10 (by kernel_rfl) (wpOp_as rfl rfl (.tmp 49) rfl v9 rfl ⟨hSb _ hb9, ?_⟩)
          refine wpAnyH_done (by kernel_rfl) ?_ _
          have HO9 := Lib.hid ho9
          have HB9 := Lib.hid (hBd.trans (hb9.mono hBd.size))
          have HR9 := Lib.hid (hRd.below hb9)
          have HS9 : Hid (Wd.heap.size ≤ w9.heap.size) := hb9.size
          have HBd : Hid (w.heap.size ≤ Wd.heap.size) := hBd.size
          clear hyF hbF hoF hb9 ho9 hg9 hSb hS0 hRd hBd
          simp only [Act.put, List.getElem_toArray, List.getElem_cons_zero, List.getElem_cons_succ, List.setIfInBounds_toArray, List.set_cons_zero, List.set_cons_succ]
          go_wp2_with (first
            | ((with_reducible refine gate_op (.slice 33 (.tmp 51) (some (.tmp 52)) none none) rfl ?_); refine wl_valG rfl _ (exec_lo Try.underlying33 sizRE (.tmp 51) (.tmp 52) rfl q n c j rfl rfl hj) ?_)
            | ((with_reducible refine gate_op (.call { callee := .builtin .append, args := #[.tmp 50, .tmp 53], argTypes := #[33, 33] }) rfl ?_); refine wl_appO (enc := reC) (k := 26) rfl 33 57 56 _ Try.underlying33 infoRE reZ_sz (by omega) reC_len reC_one (.tmp 50) (.tmp 53) rfl Wd.heap.size v9 (xs.take j ++ [⟨k, z, HK.out⟩]) rfl HO9.out (cutQ 26 q j c) (n - j) (c - j) (xs.drop j) rfl (by rw [List.length_drop, HR9.out.len]) (HR9.out.at_.cut j c (by rw [HR9.out.len]; exact HR9.out.le)) (fun e => by rw [HR9.out.nil (cutQ_isNone e)]; omega) (by simp only [List.length_append, List.length_take, List.length_singleton]; omega) (by unfold maxLen; simp only [List.length_append, List.length_take, List.length_singleton]; omega) HS9.out (fun v10 w10 ho10 hg10 hx10 => ?_); clear hx10; have HO10 := Lib.hid ho10; have HB10 : Hid (Below w.heap.size w w10) := HB9.out.grown hg10 HB9.out.size (fun g e => Nat.le_trans HBd.out (HO9.out.lt g e).1); clear ho10 hg10))
          obtain ⟨q', c', rfl, hRf⟩ := RSl.own HO10.out
          refine bodyPost_ret (results_tmp2 rfl _ _ _) rfl ?_
          first | exact ⟨q', _, c', _, rfl, hRf, HD.out j HAt.out, HB10.out⟩ | exact ⟨q', _, c', rfl, _, hRf, HD.out j HAt.out, HB10.out⟩
        · refine oneH 4 (by kernel_rfl) (wpOp_wp rfl rfl (op_app (enc := reC) (k := 26) 33 57 56 _ Try.underlying33 infoRE reZ_sz (by omega) reC_len reC_one (.tmp 40) (.tmp 43) rfl Wd.heap.size v1 [] rfl (ho1.below (below_alloc1 w1 (.cells (reC ⟨k, z, HK.out⟩).toArray 57))) q j c (xs.take j) rfl (by rw [List.length_take]; have := hRd.len; omega) ((hRd.at_.take j).below hbA1) hRd.nil (by simp; omega) (by unfold maxLen; simp; omega) hbA1.size (fun v4 w4 ho4 hg4 _ => ⟨hSb _ (hbA1.trans (grown_below hg4 (fun g e => (((ho1.below (below_alloc1 w1 (.cells (reC ⟨k, z, HK.out⟩).toArray 57)))).lt g e).1) hbA1.size)), ?_⟩)))
          simp only [List.nil_append] at ho4
          have hgb := grown_below hg4 (fun g e => ((ho1.below (below_alloc1 w1 (.cells (reC ⟨k, z, HK.out⟩).toArray 57))).lt g e).1) hbA1.size
          obtain ⟨bF, hbFe⟩ : ∃ bF, bF = w1.heap.size := ⟨_, rfl⟩
          have hbF := hbA1.trans hgb
          have hoF := ho4
          have hyF : SlAt reC 26 w4 (some ⟨w1.heap.size, 0, none⟩) [⟨k, z, HK.out⟩] := slat_kept (slat1 (enc := reC) (k := 26) w1 ⟨k, z, HK.out⟩ 57) (hg4.block _ (by simp) (fun e => by have := (ho1.lt _ e.symm).2; omega)) (by have := hg4.size; simp at this; omega)
          rw [← hbFe] at hyF ⊢
          refine oneH 9 (by kernel_rfl) (wpOp_wp rfl rfl (op_app (enc := reC) (k := 26) 33 57 56 _ Try.underlying33 infoRE reZ_sz (by omega) reC_len reC_one (.tmp 44) (.tmp 48) rfl Wd.heap.size v4 (xs.take j) rfl hoF (some ⟨bF, 0, none⟩) 1 1 [⟨k, z, HK.out⟩] rfl rfl hyF (fun e => by cases e) (by rw [List.length_take]; omega) (by unfold maxLen; rw [List.length_take]; omega) hbF.size (fun v9 w9 ho9 hg9 _ => ⟨hSb _ (hbF.trans (grown_below hg9 (fun g e => (hoF.lt g e).1) hbF.size)), ?_⟩)))
          have hb9 := hbF.trans (grown_below hg9 (fun g e => (hoF.lt g e).1) hbF.size)
          refine oneH 10 (by kernel_rfl) (wpOp_as rfl rfl (.tmp 49) rfl v9 rfl ⟨hSb _ hb9, ?_⟩)
          refine wpAnyH_done (by kernel_rfl) ?_ _
          have HO9 := Lib.hid ho9
          have HB9 := Lib.hid (hBd.trans (hb9.mono hBd.size))
          have HR9 := Lib.hid (hRd.below hb9)
          have HS9 : Hid (Wd.heap.size ≤ w9.heap.size) := hb9.size
          have HBd : Hid (w.heap.size ≤ Wd.heap.size) := hBd.size
          clear hyF hbF hoF hb9 ho9 hg9 hSb hS0 hRd hBd
          simp only [Act.put, List.getElem_toArray, List.getElem_cons_zero, List.getElem_cons_succ, List.setIfInBounds_toArray, List.set_cons_zero, List.set_cons_succ]
          go_wp2_with (first
            | ((with_reducible refine gate_op (.slice 33 (.tmp 51) (some (.tmp 52)) none none) rfl ?_); refine wl_valG rfl _ (exec_lo Try.underlying33 sizRE (.tmp 51) (.tmp 52) rfl q n c j rfl rfl hj) ?_)
            | ((with_reducible refine gate_op (.call { callee := .builtin .append, args := #[.tmp 50, .tmp 53], argTypes := #[33, 33] }) rfl ?_); refine wl_appO (enc := reC) (k := 26) rfl 33 57 56 _ Try.underlying33 infoRE reZ_sz (by omega) reC_len reC_one (.tmp 50) (.tmp 53) rfl Wd.heap.size v9 (xs.take j ++ [⟨k, z, HK.out⟩]) rfl HO9.out (cutQ 26 q j c) (n - j) (c - j) (xs.drop j) rfl (by rw [List.length_drop, HR9.out.len]) (HR9.out.at_.cut j c (by rw [HR9.out.len]; exact HR9.out.le)) (fun e => by rw [HR9.out.nil (cutQ_isNone e)]; omega) (by simp only [List.length_append, List.length_take, List.length_singleton]; omega) (by unfold maxLen; simp only [List.length_append, List.length_take, List.length_singleton]; omega) HS9.out (fun v10 w10 ho10 hg10 hx10 => ?_); clear hx10; have HO10 := Lib.hid ho10; have HB10 : Hid (Below w.heap.size w w10) := HB9.out.grown hg10 HB9.out.size (fun g e => Nat.le_trans HBd.out (HO9.out.lt g e).1); clear ho10 hg10))
          obtain ⟨q', c', rfl, hRf⟩ := RSl.own HO10.out
          refine bodyPost_ret (results_tmp2 rfl _ _ _) rfl ?_
          first | exact ⟨q', _, c', _, rfl, hRf, HD.out j HAt.out, HB10.out⟩ | exact ⟨q', _, c', rfl, _, hRf, HD.out j HAt.out, HB10.out⟩
      · refine oneH 0 (by kernel_rfl) (wpOp_wp rfl rfl (op_bs0 (enc := reC) (k := 26) 33 57 Try.underlying33 sizRE rfl Wd.heap.size hbA.size (fun v1 w1 ho1 hg1 hv1 => ⟨hSb _ (hbA.grown hg1 hbA.size (fun k e => by cases e)), ?_⟩)))
        have hb1 := hbA.grown hg1 hbA.size (fun k e => by cases e)
        refine oneH 4 (by kernel_rfl) (wpOp_wp rfl rfl (op_app (enc := reC) (k := 26) 33 57 56 _ Try.underlying33 infoRE reZ_sz (by omega) reC_len reC_one (.tmp 40) (.tmp 43) rfl Wd.heap.size v1 [] rfl ho1 q j c (xs.take j) rfl (by rw [List.length_take]; have := hRd.len; omega) ((hRd.at_.take j).below hb1) hRd.nil (by simp; omega) (by unfold maxLen; simp; omega) hb1.size (fun v4 w4 ho4 hg4 _ => ⟨hSb _ (hb1.trans (grown_below hg4 (fun g e => ((ho1).lt g e).1) hb1.size)), ?_⟩)))
        simp only [List.nil_append] at ho4
        have hgb := grown_below hg4 (fun g e => (ho1.lt g e).1) hb1.size
        obtain ⟨bF, hbFe⟩ : ∃ bF, bF = Wd.heap.size := ⟨_, rfl⟩
        have hbF := hb1.trans hgb
        have hoF := ho4
        have hyF : SlAt reC 26 w4 (some ⟨Wd.heap.size, 0, none⟩) [⟨k, z, HK.out⟩] := slat_kept (slat1 (enc := reC) (k := 26) Wd ⟨k, z, HK.out⟩ 57) ((hg4.block _ (Nat.lt_of_lt_of_le (by simp) hg1.size) (fun e => by rw [hv1] at e; simp at e)).trans (hg1.block _ (by simp) (by simp))) (Nat.lt_of_lt_of_le (Nat.lt_of_lt_of_le (by simp) hg1.size) hg4.size)
        rw [← hbFe] at hyF ⊢
        refine oneH 9 (by kernel_rfl) (wpOp_wp rfl rfl (op_app (enc := reC) (k := 26) 33 57 56 _ Try.underlying33 infoRE reZ_sz (by omega) reC_len reC_one (.tmp 44) (.tmp 48) rfl Wd.heap.size v4 (xs.take j) rfl hoF (some ⟨bF, 0, none⟩) 1 1 [⟨k, z, HK.out⟩] rfl rfl hyF (fun e => by cases e) (by rw [List.length_take]; omega) (by unfold maxLen; rw [List.length_take]; omega) hbF.size (fun v9 w9 ho9 hg9 _ => ⟨hSb _ (hbF.trans (grown_below hg9 (fun g e => (hoF.lt g e).1) hbF.size)), ?_⟩)))
        have hb9 := hbF.trans (grown_below hg9 (fun g e => (hoF.lt g e).1) hbF.size)
        refine oneH 10 (by kernel_rfl) (wpOp_as rfl rfl (.tmp 49) rfl v9 rfl ⟨hSb _ hb9, ?_⟩)
        refine wpAnyH_done (by kernel_rfl) ?_ _
        have HO9 := Lib.hid ho9
        have HB9 := Lib.hid (hBd.trans (hb9.mono hBd.size))
        have HR9 := Lib.hid (hRd.below hb9)
        have HS9 : Hid (Wd.heap.size ≤ w9.heap.size) := hb9.size
        have HBd : Hid (w.heap.size ≤ Wd.heap.size) := hBd.size
        clear hyF hbF hoF hb9 ho9 hg9 hSb hS0 hRd hBd
        simp only [Act.put, List.getElem_toArray, List.getElem_cons_zero, List.getElem_cons_succ, List.setIfInBounds_toArray, List.set_cons_zero, List.set_cons_succ]
        go_wp2_with (first
          | ((with_reducible refine gate_op (.slice 33 (.tmp 51) (some (.tmp 52)) none none) rfl ?_); refine wl_valG rfl _ (exec_lo Try.underlying33 sizRE (.tmp 51) (.tmp 52) rfl q n c j rfl rfl hj) ?_)
          | ((with_reducible refine gate_op (.call { callee := .builtin .append, args := #[.tmp 50, .tmp 53], argTypes := #[33, 33] }) rfl ?_); refine wl_appO (enc := reC) (k := 26) rfl 33 57 56 _ Try.underlying33 infoRE reZ_sz (by omega) reC_len reC_one (.tmp 50) (.tmp 53) rfl Wd.heap.size v9 (xs.take j ++ [⟨k, z, HK.out⟩]) rfl HO9.out (cutQ 26 q j c) (n - j) (c - j) (xs.drop j) rfl (by rw [List.length_drop, HR9.out.len]) (HR9.out.at_.cut j c (by rw [HR9.out.len]; exact HR9.out.le)) (fun e => by rw [HR9.out.nil (cutQ_isNone e)]; omega) (by simp only [List.length_append, List.length_take, List.length_singleton]; omega) (by unfold maxLen; simp only [List.length_append, List.length_take, List.length_singleton]; omega) HS9.out (fun v10 w10 ho10 hg10 hx10 => ?_); clear hx10; have HO10 := Lib.hid ho10; have HB10 : Hid (Below w.heap.size w w10) := HB9.out.grown hg10 HB9.out.size (fun g e => Nat.le_trans HBd.out (HO9.out.lt g e).1); clear ho10 hg10))
        obtain ⟨q', c', rfl, hRf⟩ := RSl.own HO10.out
        refine bodyPost_ret (results_tmp2 rfl _ _ _) rfl ?_
        first | exact ⟨q', _, c', _, rfl, hRf, HD.out j HAt.out, HB10.out⟩ | exact ⟨q', _, c', rfl, _, hRf, HD.out j HAt.out, HB10.out⟩
end Go.Proofs.Ytagdedjclbmlkaa

/- The document's Put. -/
namespace Go.Proofs.Ytagdedjclbmlkaa
open Go.RowKit

theorem rput_any (q : Option Addr) (n c : Nat) (xs : List RE) (k : List UInt8) (z : Int) (w : World) (hR : RSl w q n c xs) (hn9 : n ≤ 1000000) (hk : k.length = 25) :
    Calls Try.prog 12 #[.slice q n c, .agg (rkC k).toArray, .int .i64 z] w fun e w' => ∃ q' n' c' ys, e = .returned (.tuple #[.slice q' n' c', .bool (!(findL (xs.map RE.p) k).isSome)]) ∧ RSl w' q' n' c' ys ∧ ys.map RE.p = putL (xs.map RE.p) k z ∧ Below w.heap.size w w' := by
  cases hf : findL (xs.map RE.p) k with
  | none => exact rputN_any q n c xs k z w hR hn9 hk hf
  | some i => exact rputS_any q n c xs k z w i hR hn9 hk hf
/-- Two lists of entries of one key order and one number are one list of pairs. -/
theorem putL_len (l : List (List UInt8 × Int)) (k : List UInt8) (z : Int) : (putL l k z).length ≤ l.length + 1 := by
  unfold putL
  split
  · simp
  · simp only [List.length_append, List.length_take, List.length_drop, List.length_singleton]; omega
end Go.Proofs.Ytagdedjclbmlkaa
