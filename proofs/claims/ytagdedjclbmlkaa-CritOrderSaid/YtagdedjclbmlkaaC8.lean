/- find, Get. -/
import Derived.Test.YtagdedjclbmlkaaC7
namespace Go.Proofs.Ytagdedjclbmlkaa
open Go.RowKit

theorem near_len {k : List UInt8} {t : T} (h : t.WF) : (T.near k t).2.1.length = 25 := h.len _ (T.near_key k t)
set_option maxRecDepth 100000 in
set_option maxHeartbeats 4000000 in
theorem find_any (k : List UInt8) (w : World) (B tb : Nat) (o : Option T) (hk : k.length = 25) (hT : TreeAt w B tb o) :
    Calls Try.prog 34 #[ptrA tb, .agg (bC k)] w fun e w' => e = .returned (findV k o) ∧ Below w.heap.size w w' := by
  have HN0 := Lib.hid (heap_alloc_new w (.cells (bC k) 30))
  have HB0 := Lib.hid (below_alloc1 w (.cells (bC k) 30))
  have HT := Lib.hid (hT.below (below_alloc1 w (.cells (bC k) 30)))
  have KB := Lib.hid (fun W => keyBytes_any k W hk)
  have HK := Lib.hid hk
  clear hT hk
  have KN : Hid (∀ W, Below w.heap.size (w.alloc (.cells (bC k) 30)) W → TreeAt W B tb o → Calls Try.prog 38 #[.pointer (some ⟨tb, 0, none⟩), .agg (bC k)] W fun e w' => e = .returned (nearV k o) ∧ Below W.heap.size W w') := fun W _ h => near_any k W B tb _ o HK.out h.n
  unfold ptrA
  cases o with
  | none =>
    simp only [nearV, findV] at KN ⊢
    go_enter Try.func34, Try.ntmps34
    go_upto_region 1 with fail
    generalize w.alloc (.cells (bC k) 30) = W0 at *
    go_upto_region 4 with (first
      | ((with_reducible refine gate_ld 30 (.tmp 3) rfl ?_); refine wl_ldr rfl 30 _ rfl w.heap.size 0 (bC k).toList _ Try.underlying30 rfl (by rw [sizKey]; simp [bC, HK.out]) rfl (range_whole (by simpa using HN0.out)) ?_)
      | (go_at_call 35; (refine (KB.out _).mono ?_); rintro e W1 ⟨rfl, hb1⟩; have HB1 : Hid (Below W0.heap.size W0 W1) := hb1; clear hb1)
      | (go_at_call 38; (refine (KN.out _ (HB1.out.mono HB0.out.size) (HT.out.below HB1.out)).mono ?_); rintro e W2 ⟨rfl, hb2⟩; have HB2 : Hid (Below W0.heap.size W0 W2) := HB1.out.trans (hb2.mono HB1.out.size); clear hb2))
    refine wp_region_quiet_below (by kernel_rfl) (by kernel_rfl) ?_
    repeat (first
      | go_big_quiet_skip
      | go_big_quiet_step (fail))
    refine wpQuiet_nil ?_
    rintro _ ⟨⟨dq, osq⟩, rfl⟩
    have HB3 : Hid (Below w.heap.size w (Sort.grow (redrawn W2 dq) osq)) := (HB0.out.trans (HB2.out.mono HB0.out.size)).trans ((below_regrown W2 dq osq).mono (Nat.le_trans HB0.out.size HB2.out.size))
    go_wp2_with fail
    go_ret
    exact ⟨rfl, HB3.out⟩
  | some t =>
    have hl := near_leaf (k := k) (w := (w.alloc (.cells (bC k) 30))) (t := t) HT.out.ins
    have hlen := near_len (k := k) (t := t) HT.out.wf
    simp only [nearV, findV, ptrA] at KN ⊢
    obtain ⟨nr, hnr⟩ : ∃ nr, nr = T.near k t := ⟨_, rfl⟩
    rw [← hnr] at hl hlen KN ⊢
    clear hnr
    obtain ⟨a, x, v⟩ := nr
    simp only at hl hlen KN ⊢
    have HLe := Lib.hid hl
    have HLn := Lib.hid hlen
    clear hl hlen
    obtain ⟨R, hR⟩ : ∃ R, R = (if x = k then Value.pointer (some ⟨a, 0, none⟩) else .pointer none) := ⟨_, rfl⟩
    rw [← hR]
    have HR := Lib.hid hR
    clear hR
    cases hc : (x == k)
    all_goals
      have HC := Lib.hid hc
      go_enter Try.func34, Try.ntmps34
      go_upto_region 1 with fail
      generalize w.alloc (.cells (bC k) 30) = W0 at *
      go_upto_region 4 with (first
        | ((with_reducible refine gate_ld 30 (.tmp 3) rfl ?_); refine wl_ldr rfl 30 _ rfl w.heap.size 0 (bC k).toList _ Try.underlying30 rfl (by rw [sizKey]; simp [bC, HK.out]) rfl (range_whole (by simpa using HN0.out)) ?_)
        | (go_at_call 35; (refine (KB.out _).mono ?_); rintro e W1 ⟨rfl, hb1⟩; have HB1 : Hid (Below W0.heap.size W0 W1) := hb1; clear hb1)
        | (go_at_call 38; (refine (KN.out _ (HB1.out.mono HB0.out.size) (HT.out.below HB1.out)).mono ?_); rintro e W2 ⟨rfl, hb2⟩; have HB2 : Hid (Below W0.heap.size W0 W2) := HB1.out.trans (hb2.mono HB1.out.size); clear hb2))
      have HL2 : Hid (W2.heap[a]? = some (.cells (leafC x v).toArray NODE (0, 0))) := (HB2.out.block _ (lt_heap HLe.out)).trans HLe.out
      have HK2 : Hid (W2.heap[w.heap.size]? = some (.cells (bC k) 30 (0, 0))) := (HB2.out.block _ (lt_heap HN0.out)).trans HN0.out
      have HRg : Hid (W2.rangeAt a 1 (bC x).toList) := nodeV_key (range_whole HL2.out)
      refine wp_region_quiet_below (by kernel_rfl) (by kernel_rfl) ?_
      repeat (first
        | go_big_quiet_skip
        | (with_reducible refine wq_ldr rfl 30 (.tmp 17) rfl a 1 (bC x).toList _ Try.underlying30 rfl (by rw [sizKey]; simp [bC, HLn.out]) rfl HRg.out (lt_heap HL2.out) ?_; simp only [Act.put, List.setIfInBounds_toArray, List.set_cons_zero, List.set_cons_succ])
        | (with_reducible refine wq_ldr rfl 30 (.tmp 3) rfl w.heap.size 0 (bC k).toList _ Try.underlying30 rfl (by rw [sizKey]; simp [bC, HK.out]) rfl (range_whole (by simpa using HK2.out)) (lt_heap HK2.out) ?_; simp only [Act.put, List.setIfInBounds_toArray, List.set_cons_zero, List.set_cons_succ])
        | (refine wq_val (.bool (!(x == k))) rfl (fun w => exec_neqKey w (.tmp 18) (.tmp 19) rfl x k HLn.out HK.out rfl rfl) ?_; rw [hc]; simp only [Act.put, List.setIfInBounds_toArray, List.set_cons_zero, List.set_cons_succ, Bool.not_true, Bool.not_false])
        | go_big_quiet_step (fail))
      refine wpQuiet_nil ?_
      rintro _ ⟨⟨dq, osq⟩, rfl⟩
      have HB3 : Hid (Below w.heap.size w (Sort.grow (redrawn W2 dq) osq)) := (HB0.out.trans (HB2.out.mono HB0.out.size)).trans ((below_regrown W2 dq osq).mono (Nat.le_trans HB0.out.size HB2.out.size))
      go_wp2_with fail
      go_ret
      refine ⟨?_, HB3.out⟩
      rw [HR.out]
      have h5 := HC.out
      simp only [beq_iff_eq, beq_eq_false_iff_ne, ne_eq] at h5
      simp [h5]
theorem findNil_any (k : List UInt8) (w : World) :
    Calls Try.prog 34 #[.pointer none, .agg (bC k)] w fun e w' => e = .returned (.pointer none) ∧ Below w.heap.size w w' := by
  have HB0 := Lib.hid (below_alloc1 w (.cells (bC k) 30))
  go_enter Try.func34, Try.ntmps34
  go_wp2_with fail
  go_ret
  exact ⟨rfl, HB0.out⟩
/-- What Get answers. -/
def getT (k : List UInt8) : Option T → Option Int
  | none => none
  | some t => if (T.near k t).2.1 = k then some (T.near k t).2.2 else none
def getR (r : Option Int) : Value := .tuple #[.int .i64 (r.getD 0), .bool r.isSome]
theorem find_eq_some {l : List (List UInt8 × Int)} (h : Sorted l) {x : List UInt8 × Int} (hx : x ∈ l) : l.find? (fun y => y.1 == x.1) = some x := by
  cases hf : l.find? (fun y => y.1 == x.1) with
  | none =>
    have := List.find?_eq_none.1 hf x hx
    simp at this
  | some y =>
    have h1 := List.find?_some hf
    have h2 := List.mem_of_find?_eq_some hf
    rw [h.uniq h2 hx (by simpa using h1)]
theorem get_eq {o : Option T} (h : WFO o) (k : List UInt8) : getT k o = getL (allO o) k := by
  cases o with
  | none => rfl
  | some t =>
    have hm := T.mem_iff h k
    show (if _ then _ else _) = (List.find? _ t.all).map _
    split
    · rename_i e
      have hx := T.near_mem k t
      rw [e] at hx
      have := find_eq_some (T.WF.sorted h) hx
      rw [this]; rfl
    · rename_i e
      have : t.all.find? (fun y => y.1 == k) = none := List.find?_eq_none.2 fun y hy hh => e (hm.1 (by
        have : y.1 = k := by simpa using hh
        rw [← this]; exact T.key_mem hy))
      rw [this]; rfl
set_option maxRecDepth 100000 in
set_option maxHeartbeats 4000000 in
theorem get_any (k : List UInt8) (w : World) (B tb : Nat) (o : Option T) (hk : k.length = 25) (hT : TreeAt w B tb o) :
    Calls Try.prog 14 #[ptrA tb, .agg (bC k)] w fun e w' => e = .returned (getR (getT k o)) ∧ Below w.heap.size w w' := by
  have HN0 := Lib.hid (heap_alloc_new w (.cells (bC k) 30))
  have HB0 := Lib.hid (below_alloc1 w (.cells (bC k) 30))
  have HT := Lib.hid (hT.below (below_alloc1 w (.cells (bC k) 30)))
  have HK := Lib.hid hk
  have KF : Hid (∀ W, TreeAt W B tb o → Calls Try.prog 34 #[.pointer (some ⟨tb, 0, none⟩), .agg (bC k)] W fun e w' => e = .returned (findV k o) ∧ Below W.heap.size W w') := fun W h => find_any k W B tb o HK.out h
  clear hT hk
  unfold ptrA
  obtain ⟨R, hR⟩ : ∃ R, R = getR (getT k o) := ⟨_, rfl⟩
  rw [← hR]
  have HR := Lib.hid hR
  clear hR
  have hcase : (findV k o = .pointer none ∧ getT k o = none) ∨ ∃ a v, findV k o = .pointer (some ⟨a, 0, none⟩) ∧ getT k o = some v ∧ (w.alloc (.cells (bC k) 30)).heap[a]? = some (.cells (leafC k v).toArray NODE (0, 0)) := by
    cases o with
    | none => exact .inl ⟨rfl, rfl⟩
    | some t =>
      have hl := near_leaf (k := k) (w := (w.alloc (.cells (bC k) 30))) (t := t) HT.out.ins
      by_cases h : (T.near k t).2.1 = k
      · refine .inr ⟨(T.near k t).1, (T.near k t).2.2, ?_, ?_, ?_⟩
        · show (if _ then _ else _) = _; rw [if_pos h]; rfl
        · show (if _ then _ else _) = _; rw [if_pos h]
        · rw [h] at hl; exact hl
      · refine .inl ⟨?_, ?_⟩
        · show (if _ then _ else _) = _; rw [if_neg h]
        · show (if _ then _ else _) = _; rw [if_neg h]
  rcases hcase with ⟨h1, h2⟩ | ⟨a, v, h1, h2, h3⟩
  · rw [h1] at KF
    have HR2 : Hid (R = .tuple #[.int .i64 0, .bool false]) := by show _ = _; rw [HR.out, h2]; rfl
    clear h1 h2 HR
    go_enter Try.func14, Try.ntmps14
    go_upto_region 1 with fail
    generalize w.alloc (.cells (bC k) 30) = W0 at *
    go_wp2_with (first
      | ((with_reducible refine gate_ld 30 (.tmp 3) rfl ?_); refine wl_ldr rfl 30 _ rfl w.heap.size 0 (bC k).toList _ Try.underlying30 rfl (by rw [sizKey]; simp [bC, HK.out]) rfl (range_whole (by simpa using HN0.out)) ?_)
      | (go_at_call 34; (refine (KF.out _ HT.out).mono ?_); rintro e W2 ⟨rfl, hb2⟩; have HB2 : Hid (Below W0.heap.size W0 W2) := hb2; clear hb2))
    refine bodyPost_ret (results_tmp2 rfl _ _ _) rfl ?_
    exact ⟨by rw [HR2.out]; rfl, HB0.out.trans (HB2.out.mono HB0.out.size)⟩
  · rw [h1] at KF
    have HR2 : Hid (R = .tuple #[.int .i64 v, .bool true]) := by show _ = _; rw [HR.out, h2]; rfl
    have HL := Lib.hid h3
    clear h1 h2 h3 HR
    go_enter Try.func14, Try.ntmps14
    go_upto_region 1 with fail
    generalize w.alloc (.cells (bC k) 30) = W0 at *
    go_upto_region 2 with (first
      | ((with_reducible refine gate_ld 30 (.tmp 3) rfl ?_); refine wl_ldr rfl 30 _ rfl w.heap.size 0 (bC k).toList _ Try.underlying30 rfl (by rw [sizKey]; simp [bC, HK.out]) rfl (range_whole (by simpa using HN0.out)) ?_)
      | (go_at_call 34; (refine (KF.out _ HT.out).mono ?_); rintro e W2 ⟨rfl, hb2⟩; have HB2 : Hid (Below W0.heap.size W0 W2) := hb2; clear hb2))
    have hc : W2.cell? ⟨a, 51, none⟩ = some (.int .i64 v) := by
      have := nodeV_tail (range_whole ((HB2.out.block _ (lt_heap HL.out)).trans HL.out)) HK.out HK.out 0 _ rfl
      simpa using this
    go_wp2_with fail
    refine bodyPost_ret (results_tmp2 rfl _ _ _) rfl ?_
    exact ⟨by rw [HR2.out]; rfl, HB0.out.trans (HB2.out.mono HB0.out.size)⟩
end Go.Proofs.Ytagdedjclbmlkaa
