/- The document's Put, of a key that is there. -/
import Derived.Test.YtagdedjclbmlkaaD5
namespace Go.Proofs.Ytagdedjclbmlkaa
open Go.RowKit

def RE.upd (x : RE) (v : Int) : RE := ⟨x.k, v, x.hk⟩
theorem flat_at {xs : List RE} {i : Nat} (hi : i < xs.length) : ∀ o, o < 26 → (xs.flatMap reC)[i * 26 + o]? = (reC xs[i])[o]? := by
  induction xs generalizing i with
  | nil => simp at hi
  | cons x xs ih =>
    intro o ho
    rw [List.flatMap_cons]
    cases i with
    | zero =>
      rw [Nat.zero_mul, Nat.zero_add, List.getElem?_append_left (by rw [reC_len]; exact ho)]
      rfl
    | succ i =>
      rw [List.getElem?_append_right (by rw [reC_len]; omega), reC_len, show (i + 1) * 26 + o - 26 = i * 26 + o by omega]
      exact ih (by simpa using hi) o ho
/-- A number set in a list of entries. -/
theorem rset {w : World} {base : Nat} {v : Value} {xs : List RE} (h : OwnE reC 57 26 w base v xs) (i : Nat) (hi : i < xs.length) (z : Int) :
    ∃ g c, v = .slice (some ⟨g, 0, none⟩) xs.length c ∧ base ≤ g ∧ g < w.heap.size ∧ w.cell? ⟨g, i * 26 + 25, none⟩ = some (.int .i64 xs[i].v) ∧ w.frozen? ⟨g, i * 26 + 25, none⟩ = false ∧ RSl (w.setCell ⟨g, i * 26 + 25, none⟩ (.int .i64 z)) (some ⟨g, 0, none⟩) xs.length c (xs.set i (xs[i].upd z)) := by
  obtain ⟨h1, ⟨rfl, h2⟩ | ⟨g, cap, cur, rfl, hg, hh, hc, hm, hs, ht⟩⟩ := h
  · have := List.length_eq_zero_iff.1 h2
    subst this; simp at hi
  · have hcell : ∀ j o, (hj : j < xs.length) → o < 26 → cur[j * 26 + o]? = (reC xs[j])[o]? := fun j o hj ho => by
      rw [← flat_at hj o ho, ← ht, List.getElem?_take_of_lt (by omega), Array.getElem?_toList]
    refine ⟨g, cap, rfl, hg, lt_heap hh, ?_, by simp [World.frozen?, hh], by simp, hc, ?_, ?_, (fun e => by cases e), ?_⟩
    · rw [cell_blk hh, hcell i 25 hi (by omega)]
      have : (reC xs[i])[25]? = some (.int .i64 xs[i].v) := by
        unfold reC
        rw [List.getElem?_append_right (by rw [rkC_len xs[i].hk]; exact Nat.le_refl _), rkC_len xs[i].hk]
        rfl
      exact this
    · have hh2 : (w.setCell ⟨g, i * 26 + 25, none⟩ (.int .i64 z)).heap[g]? = some (.cells (cur.setIfInBounds (i * 26 + 25) (.int .i64 z)) 57 (0, 0)) := heap_setCell_self _ hh
      intro j hj
      have hj' : j < xs.length := by simpa using hj
      refine ⟨g, 0, rfl, lt_heap hh2, ?_⟩
      intro o u hu
      rw [cell_blk hh2]
      have ho : o < 26 := by
        have := (List.getElem?_eq_some_iff.1 hu).1
        rwa [reC_len] at this
      rw [Array.getElem?_setIfInBounds, Nat.zero_add]
      by_cases hij : i = j
      · subst hij
        rw [List.getElem_set_self] at hu
        by_cases ho5 : o = 25
        · subst ho5
          have h25 : (reC (xs[i].upd z))[25]? = some (.int .i64 z) := by
            unfold reC
            rw [List.getElem?_append_right (by rw [rkC_len (xs[i].upd z).hk]; exact Nat.le_refl _), rkC_len (xs[i].upd z).hk]
            rfl
          rw [h25] at hu
          rw [if_pos rfl, if_pos (by omega)]
          exact hu
        · rw [if_neg (by omega), hcell i o hi ho, ← hu]
          unfold reC
          rw [List.getElem?_append_left (by rw [rkC_len xs[i].hk]; omega), List.getElem?_append_left (by rw [rkC_len (xs[i].upd z).hk]; omega)]
          rfl
      · rw [List.getElem_set_ne hij] at hu
        rw [if_neg (by omega), hcell j o hj' ho, hu]
    · intro a e
      cases e
      show g < (w.setCell _ _).heap.size
      exact lt_heap (heap_setCell_self (w := w) _ hh)
    · intro a e
      cases e
      exact ⟨_, heap_setCell_self (w := w) _ hh⟩
set_option maxRecDepth 100000 in
set_option maxHeartbeats 4000000 in
theorem rputS_any (q : Option Addr) (n c : Nat) (xs : List RE) (k : List UInt8) (z : Int) (w : World) (i : Nat) (hR : RSl w q n c xs) (hn9 : n ≤ 1000000) (hk : k.length = 25) (hf : findL (xs.map RE.p) k = some i) :
    Calls Try.prog 12 #[.slice q n c, .agg (rkC k).toArray, .int .i64 z] w fun e w' => ∃ q' n' c' ys, e = .returned (.tuple #[.slice q' n' c', .bool false]) ∧ RSl w' q' n' c' ys ∧ ys.map RE.p = putL (xs.map RE.p) k z ∧ Below w.heap.size w w' := by
  have HK := Lib.hid hk
  have HB0 := Lib.hid (below_alloc1 w (.cells (rkC k).toArray 40))
  have HX0 := Lib.hid (heap_alloc_new w (.cells (rkC k).toArray 40))
  have HR := Lib.hid (hR.below HB0.out)
  obtain ⟨hi, he⟩ := find_some hf
  have hil : i < xs.length := by simpa using hi
  have hin : i < n := by rw [← hR.len]; exact hil
  have hini : (i : Int) < n := by omega
  have HD : Hid ((xs.set i (xs[i].upd z)).map RE.p = putL (xs.map RE.p) k z) := by
    show _ = _
    unfold putL
    rw [hf]
    simp only [List.map_set]
    congr 1
    have : xs[i].k = k := by simpa [RE.p] using he
    simp [RE.upd, RE.p, this]
  clear hk hR hi he
  go_enter Try.func12, Try.ntmps12
  go_upto_region 1 with fail
  generalize w.alloc (.cells (rkC k).toArray 40) = W0 at *
  have HB1 := Lib.hid (below_alloc1 W0 (.cells #[] 57))
  have HO : Hid (OwnE reC 57 26 (W0.alloc (.cells #[] 57)) W0.heap.size (.slice (some ⟨W0.heap.size, 0, none⟩) 0 0) []) := ⟨by simp, .inr ⟨W0.heap.size, 0, #[], rfl, Nat.le_refl _, heap_alloc_new _ _, by simp, by unfold maxLen; omega, rfl, rfl⟩⟩
  go_upto_region 2 with (first
    | ((with_reducible refine gate_op (.call { callee := .builtin .append, args := #[.tmp 11, .tmp 12], argTypes := #[33, 33] }) rfl ?_); refine wl_appO (enc := reC) (k := 26) rfl 33 57 56 _ Try.underlying33 infoRE reZ_sz (by omega) reC_len reC_one (.tmp 11) (.tmp 12) rfl W0.heap.size _ [] rfl HO.out q n c xs rfl HR.out.len (HR.out.at_.below HB1.out) HR.out.nil (by simp; omega) (by unfold maxLen; simp; omega) (by simp) (fun v1 w1 ho1 hg1 hv1 => ?_); clear hv1; have HO1 : Hid (OwnE reC 57 26 w1 W0.heap.size v1 xs) := ho1; have HB2 : Hid (Below W0.heap.size W0 w1) := HB1.out.grown hg1 (by simp) (fun g e => Nat.le_of_eq (by simpa [Value.ownBlock, Act.eval, Act.put] using e)); clear ho1 hg1))
  have HX1 := Lib.hid ((HB2.out.block _ (lt_heap HX0.out)).trans HX0.out)
  have HR1 := Lib.hid (HR.out.below HB2.out)
  have HBw := Lib.hid (HB0.out.trans (HB2.out.mono HB0.out.size))
  have HBs : Hid (w.heap.size ≤ W0.heap.size) := HB0.out.size
  clear HX0 HR HB0 HB1 HB2 HO
  have KF : Hid (∀ W, RSl W q n c xs → Calls Try.prog 33 #[.slice q n c, .agg (rkC k).toArray] W fun e w' => e = .returned (.int .i64 (i : Int)) ∧ Below W.heap.size W w') := fun W h => by
    have := rfind_any q n c xs k W h.len hn9 HK.out h.at_
    rwa [hf] at this
  go_upto_region 4 with (first
    | ((with_reducible refine gate_ld 40 (.tmp 4) rfl ?_); refine wl_ldr rfl 40 _ rfl w.heap.size 0 (rkC k) _ Try.underlying40 rfl (by rw [sizRK, rkC_len HK.out]) rfl (range_whole (by simpa using HX1.out)) ?_)
    | (go_at_call 33; (refine (KF.out _ HR1.out).mono ?_); rintro e W3 ⟨rfl, hb3⟩; have HB3 := Lib.hid hb3; clear hb3))
  obtain ⟨g, cap, rfl, hbg, hgl, hc, hfz, hR3⟩ := rset (HO1.out.below HB3.out) i hil z
  have hix : (i : Int) < xs.length := by omega
  have HR3 := Lib.hid hR3
  have HB4 : Hid (Below w.heap.size w (W3.setCell ⟨g, i * 26 + 25, none⟩ (.int .i64 z))) := (HBw.out.trans (HB3.out.mono HBw.out.size)).setCell (p := ⟨g, i * 26 + 25, none⟩) (Nat.le_trans HBs.out hbg) _
  clear hR3 HO1 HB3 HBw HR1 HX1 KF hf
  go_wp2_with fail
  refine bodyPost_ret (results_tmp2 rfl _ _ _) rfl ?_
  exact ⟨_, _, _, _, rfl, HR3.out, HD.out, HB4.out⟩
end Go.Proofs.Ytagdedjclbmlkaa
