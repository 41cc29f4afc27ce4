/- The reference's Insert. -/
import Derived.Test.YtbflliiaigkmgaaA2
import Derived.Laws.AppendOwnNone
namespace Go.Proofs.Ytbflliiaigkmgaa
open Go.RowKit

def insL (n : List UInt8) : List (List UInt8) → List (List UInt8)
  | [] => [n]
  | x :: ns => if lessR n x then n :: x :: ns else x :: insL n ns
theorem insL_at : ∀ (ns : List (List UInt8)) (n : List UInt8) (k : Nat), k ≤ ns.length → (∀ i (_ : i < k) (h : i < ns.length), lessR n ns[i] = false) → (k = ns.length ∨ ∃ h : k < ns.length, lessR n ns[k] = true) → insL n ns = ns.take k ++ (n :: ns.drop k)
  | [], n, k, hk, _, _ => by
    obtain rfl : k = 0 := by simpa using hk
    rfl
  | x :: ns, n, 0, _, _, h => by
    rcases h with h | ⟨_, h⟩
    · simp at h
    · simp only [List.getElem_cons_zero] at h
      simp [insL, h]
  | x :: ns, n, k + 1, hk, ha, h => by
    have h0 := ha 0 (by omega) (by simp)
    simp only [List.getElem_cons_zero] at h0
    have ih := insL_at ns n k (by simpa using hk) (fun i hi hl => by have := ha (i + 1) (by omega) (by simp; omega); simpa using this) (by
      rcases h with h | ⟨h1, h2⟩
      · exact .inl (by simpa using h)
      · exact .inr ⟨by simpa using h1, by simpa using h2⟩)
    simp [insL, h0, ih]

theorem take_snoc' (ns : List (List UInt8)) (k : Nat) (h : k < ns.length) : ns.take (k + 1) = ns.take k ++ [ns[k]] := List.take_succ_eq_append_getElem h

set_option maxHeartbeats 1000000 in
theorem insert_any (v : Value) (ns : List (List UInt8)) (n : List UInt8) (w : World) (hv : RowsAt w v ns) (h12 : All12 ns) (hn : n.length = 12) (hlen : ns.length ≤ 1000000) :
    Calls Try.prog 22 #[v, .agg (bC n)] w fun e w' => Below w.heap.size w w' ∧ ∃ v', e = .returned v' ∧ Own w' w.heap.size 22 v' (insL n ns) := by
  rcases hv with ⟨rfl, rfl⟩ | ⟨b, o, cap, rfl, hcap, hb, hrg⟩
  · have HN := Lib.hid hn
    have HB0 : Hid (Below w.heap.size w (w.alloc (.cells (bC n) 22))) := below_alloc1 _ _
    have HX : Hid ((w.alloc (.cells (bC n) 22)).heap[w.heap.size]? = some (.cells (bC n) 22)) := heap_alloc_new _ _
    clear hn
    go_enter Try.func22, Try.ntmps22
    go_wp2_with fail
    generalize w.alloc (.cells (bC n) 22) = W at *
    go_loop [5, 6] (fun c i => c = .slice none 0 0 ∧ i = .int .i64 0) (fun _ _ => 0)
    case atStart => exact ⟨rfl, rfl⟩
    case round =>
      obtain ⟨rfl, rfl⟩ := hrel
      go_wp2_with fail
      refine wp_region_quiet_below (by kernel_rfl) (by kernel_rfl) ?_
      repeat (go_big_quiet_step (fail))
      refine wpQuiet_nil ?_
      rintro _ ⟨⟨dq, osq⟩, rfl⟩
      have hxw2 : Hid ((Sort.grow (redrawn W dq) osq).heap[w.heap.size]? = some (.cells (bC n) 22)) := rg_block HX.out dq osq
      have HB2 : Hid (Below W.heap.size W (Sort.grow (redrawn W dq) osq)) := below_regrown W dq osq
      generalize Sort.grow (redrawn W dq) osq = w2 at *
      have HO2 : Hid (Own w2 W.heap.size 22 (.slice none 0 0) []) := Own.nil _ _ _
      have HB3 : Hid (Below W.heap.size W (w2.alloc (.cells (bC n) 22))) := HB2.out.alloc HB2.out.size _
      have HO3 : Hid (Own (w2.alloc (.cells (bC n) 22)) W.heap.size 22 (.slice none 0 0) []) := HO2.out.below (below_alloc1 _ _)
      have hcl2 : ([] : List (List UInt8)).length ≤ 1000000000 := by simp
      go_upto_region 7 with (first
        | (with_reducible refine ld22 rfl _ rfl w.heap.size rfl n HN.out (0, 0) hxw2.out ?_)
        | (with_reducible refine bs46_1 rfl _ rfl n rfl HN.out ?_)
        | (at_builtin; (refine wl_app22 rfl _ _ rfl W.heap.size _ [] rfl HO3.out w2.heap.size 1 n rfl HN.out (heap_alloc_new _ _) hcl2 HB3.out.size ?_); intro v' w3 ho3 hg3))
      have hbb : Below W.heap.size W w3 := HB3.out.trans (grown_below hg3 (fun g hg => (HO3.out.lt g hg).1) HB3.out.size)
      have HBB := Lib.hid hbb
      have HO4 := Lib.hid ho3
      clear hbb ho3 hg3
      obtain ⟨i, hi, _⟩ := info_parts inf22
      have HI := Lib.hid hi
      clear hi
      go_wp2_with (at_builtin; (refine wpList_append_own_none rfl _ _ 46 rfl W.heap.size 22 i 12 Try.underlying46 HI.out v' _ _ rfl HO4.out rfl ?_))
      go_ret
      exact ⟨HB0.out.trans (HBB.out.mono HB0.out.size), _, rfl, HO4.out.base HB0.out.size⟩
  · obtain ⟨m, hm⟩ : ∃ m, Hid (ns.length = m) := ⟨_, rfl⟩
    have hlen' : (m : Int) ≤ 1000000 := by rw [← hm.out]; omega
    have hcap' : m ≤ cap := by rw [← hm.out]; exact hcap
    rw [hm.out]
    have HN := Lib.hid hn
    have H12 := Lib.hid h12
    have HB0 : Hid (Below w.heap.size w (w.alloc (.cells (bC n) 22))) := below_alloc1 _ _
    have HRG : Hid ((w.alloc (.cells (bC n) 22)).rangeAt b o (bC ns.flatten).toList) := range_of_block hrg (HB0.out.block b hb)
    have HB : Hid (b < (w.alloc (.cells (bC n) 22)).heap.size) := Nat.lt_of_lt_of_le hb HB0.out.size
    have HX : Hid ((w.alloc (.cells (bC n) 22)).heap[w.heap.size]? = some (.cells (bC n) 22)) := heap_alloc_new _ _
    clear hn h12 hrg hb hcap hlen
    go_enter Try.func22, Try.ntmps22
    go_wp2_with fail
    generalize w.alloc (.cells (bC n) 22) = W at *
    go_loopw [5, 6] (fun c i wr => ∃ k : Nat, k ≤ m ∧ i = .int .i64 k ∧ Hid (Own wr W.heap.size 22 c (ns.take k)) ∧ Hid (Below W.heap.size W wr) ∧ Hid (∀ i (_ : i < k) (h : i < ns.length), lessR n ns[i] = false)) (fun _ i _ => m - (intOf i).toNat)
    case atStart => exact ⟨0, Nat.zero_le _, rfl, Own.nil _ _ _, Below.refl _ _, fun i h => by omega⟩
    case round =>
      obtain ⟨k, hk, rfl, HO, HBel, HA⟩ := hrel
      have hxw : Hid (wr.heap[w.heap.size]? = some (.cells (bC n) 22)) := (HBel.out.block _ (lt_heap HX.out)).trans HX.out
      by_cases hlt : k < m
      case pos =>
        have hk2 : k < ns.length := by rw [hm.out]; exact hlt
        have hnk : Hid (ns[k].length = 12) := H12.out _ (List.getElem_mem hk2)
        have hrk : Hid (wr.rangeAt b (o + k * 12) (bC ns[k]).toList) := range_of_block (range_elem HRG.out H12.out k hk2) (HBel.out.block b HB.out)
        have hbw : Hid (b < wr.heap.size) := Nat.lt_of_lt_of_le HB.out HBel.out.size
        have HSn : Hid (ns.take (k + 1) = ns.take k ++ [ns[k]]) := take_snoc' ns k hk2
        have hcl : (ns.take k).length ≤ k := List.length_take_le _ _
        have HL : Hid (∀ W : World, Calls Try.prog 17 #[.agg (bC n), .agg (bC ns[k])] W fun e w' => e = .returned (.bool (lessR n ns[k])) ∧ Below W.heap.size W w') := fun W => refLess_any n ns[k] W HN.out hnk.out
        have HXA : Hid (lessR n ns[k] = false → ∀ i (_ : i < k + 1) (h : i < ns.length), lessR n ns[i] = false) := fun hf i hi h => by
          by_cases e : i = k
          · subst e; exact hf
          · exact HA.out i (by omega) h
        have HXB : Hid (lessR n ns[k] = true → insL n ns = ns.take k ++ (n :: ns.drop k)) := fun ht => insL_at ns n k (by omega) HA.out (.inr ⟨hk2, ht⟩)
        have hk3 : (k : Int) < (m : Int) := by omega
        generalize ns[k] = nk at *
        cases he : lessR n nk
        all_goals
          rw [he] at HL HXA HXB
          clear he
          go_wp2_with fail
          refine wp_region_quiet_below (by kernel_rfl) (by kernel_rfl) ?_
          repeat (first
            | (with_reducible refine wq_ldmid22 _ b (o + k * 12) nk rfl rfl rfl hrk.out hbw.out hnk.out ?_; simp only [Act.put, List.setIfInBounds_toArray, List.set_cons_zero, List.set_cons_succ])
            | (with_reducible refine wq_load22 _ w.heap.size n (0, 0) rfl rfl rfl hxw.out HN.out ?_; simp only [Act.put, List.setIfInBounds_toArray, List.set_cons_zero, List.set_cons_succ])
            | go_big_quiet_step (with_reducible exact rg_call HL.out _ _))
          refine wpQuiet_nil ?_
          rintro _ ⟨⟨dq, osq⟩, rfl⟩
          have hrk2 : Hid ((Sort.grow (redrawn wr dq) osq).rangeAt b (o + k * 12) (bC nk).toList) := range_of_block hrk.out ((below_regrown wr dq osq).block b hbw.out)
          have hxw2 : Hid ((Sort.grow (redrawn wr dq) osq).heap[w.heap.size]? = some (.cells (bC n) 22)) := rg_block hxw.out dq osq
          have HB2 : Hid (Below W.heap.size W (Sort.grow (redrawn wr dq) osq)) := HBel.out.trans ((below_regrown wr dq osq).mono HBel.out.size)
          have HO2 : Hid (Own (Sort.grow (redrawn wr dq) osq) W.heap.size 22 u5 (ns.take k)) := HO.out.below (below_regrown wr dq osq)
          clear hxw HO HBel hrk
          generalize Sort.grow (redrawn wr dq) osq = w2 at *
          have hcl2 : (ns.take k).length ≤ 1000000000 := by omega
        case false =>
          have HB3 : Hid (Below W.heap.size W (w2.alloc (.cells (bC nk) 22))) := HB2.out.alloc HB2.out.size _
          have HO3 : Hid (Own (w2.alloc (.cells (bC nk) 22)) W.heap.size 22 u5 (ns.take k)) := HO2.out.below (below_alloc1 _ _)
          go_wp2_with (first
            | (with_reducible refine ldmid22 rfl _ rfl b (o + k * 12) nk rfl hnk.out hrk2.out ?_)
            | (with_reducible refine bs46_1 rfl _ rfl nk rfl hnk.out ?_)
            | (at_builtin; (refine wl_app22 rfl _ _ rfl W.heap.size _ (ns.take k) rfl HO3.out w2.heap.size 1 nk rfl hnk.out (heap_alloc_new _ _) hcl2 HB3.out.size ?_); intro v' w3 ho3 hg3))
          go_roundw
          case rel =>
            refine ⟨k + 1, by omega, by go_num, ?_, HB3.out.trans (grown_below hg3 (fun g hg => (HO3.out.lt g hg).1) HB3.out.size), HXA.out (by first | rfl | trivial)⟩
            rw [HSn.out]; exact ho3
          case measure => simp [intOf]; omega
        case true =>
          have HB3 : Hid (Below W.heap.size W (w2.alloc (.cells (bC n) 22))) := HB2.out.alloc HB2.out.size _
          have HO3 : Hid (Own (w2.alloc (.cells (bC n) 22)) W.heap.size 22 u5 (ns.take k)) := HO2.out.below (below_alloc1 _ _)
          go_upto_region 7 with (first
            | (with_reducible refine ld22 rfl _ rfl w.heap.size rfl n HN.out (0, 0) hxw2.out ?_)
            | (with_reducible refine bs46_1 rfl _ rfl n rfl HN.out ?_)
            | (at_builtin; (refine wl_app22 rfl _ _ rfl W.heap.size _ (ns.take k) rfl HO3.out w2.heap.size 1 n rfl HN.out (heap_alloc_new _ _) hcl2 HB3.out.size ?_); intro v' w3 ho3 hg3))
          have hbb : Below W.heap.size W w3 := HB3.out.trans (grown_below hg3 (fun g hg => (HO3.out.lt g hg).1) HB3.out.size)
          have HBB := Lib.hid hbb
          have HO4 := Lib.hid ho3
          have hrd : Hid (w3.rangeAt b (o + k * 12) (bC (ns.drop k).flatten).toList) := range_of_block (range_drop HRG.out H12.out k) (hbb.block b HB.out)
          have hck : ¬ cap = k := by omega
          have hkk : (k : Int) ≤ (m : Int) := by omega
          have hd12 : Hid (All12 (ns.drop k)) := fun x hx => H12.out x (List.mem_of_mem_drop hx)
          have hll : Hid ((ns.drop k).length = m - k) := by show (ns.drop k).length = m - k; rw [List.length_drop, hm.out]
          have hl4 : Hid (((ns.take k ++ [n]).length + (ns.drop k).length) * 12 ≤ 140737488355328) := by
            show ((ns.take k ++ [n]).length + (ns.drop k).length) * 12 ≤ 140737488355328
            rw [hll.out, List.length_append]; simp only [List.length_cons, List.length_nil]; omega
          clear hbb ho3 hg3
          go_wp2_with (at_builtin; (refine wl_app 46 22 Try.underlying46 inf22 rfl _ _ rfl W.heap.size _ (ns.take k ++ [n]) rfl HO4.out b (o + k * 12) (cap - k) (ns.drop k) (by rw [hll.out]; rfl) hd12.out hrd.out hl4.out HBB.out.size ?_); intro v'' w5 ho5 hg5)
          go_ret
          refine ⟨HB0.out.trans ((HBB.out.trans (grown_below hg5 (fun g hg => (HO4.out.lt g hg).1) HBB.out.size)).mono HB0.out.size), _, rfl, ?_⟩
          have := ho5.base HB0.out.size
          rw [HXB.out (by first | rfl | trivial)]
          rw [List.append_assoc] at this
          exact this
      case neg =>
        obtain rfl : k = m := by omega
        have hcl2 : (ns.take k).length ≤ 1000000000 := by have := List.length_take_le k ns; omega
        have HXB : Hid (insL n ns = ns.take k ++ (n :: ns.drop k)) := insL_at ns n k (by rw [hm.out]; exact Nat.le_refl _) HA.out (.inl hm.out.symm)
        have HDR : Hid (ns.drop k = []) := List.drop_of_length_le (by rw [hm.out]; exact Nat.le_refl _)
        go_wp2_with fail
        refine wp_region_quiet_below (by kernel_rfl) (by kernel_rfl) ?_
        repeat (go_big_quiet_step (fail))
        refine wpQuiet_nil ?_
        rintro _ ⟨⟨dq, osq⟩, rfl⟩
        have hxw2 : Hid ((Sort.grow (redrawn wr dq) osq).heap[w.heap.size]? = some (.cells (bC n) 22)) := rg_block hxw.out dq osq
        have HB2 : Hid (Below W.heap.size W (Sort.grow (redrawn wr dq) osq)) := HBel.out.trans ((below_regrown wr dq osq).mono HBel.out.size)
        have HO2 : Hid (Own (Sort.grow (redrawn wr dq) osq) W.heap.size 22 u5 (ns.take k)) := HO.out.below (below_regrown wr dq osq)
        clear hxw HO HBel
        generalize Sort.grow (redrawn wr dq) osq = w2 at *
        have HB3 : Hid (Below W.heap.size W (w2.alloc (.cells (bC n) 22))) := HB2.out.alloc HB2.out.size _
        have HO3 : Hid (Own (w2.alloc (.cells (bC n) 22)) W.heap.size 22 u5 (ns.take k)) := HO2.out.below (below_alloc1 _ _)
        go_upto_region 7 with (first
          | (with_reducible refine ld22 rfl _ rfl w.heap.size rfl n HN.out (0, 0) hxw2.out ?_)
          | (with_reducible refine bs46_1 rfl _ rfl n rfl HN.out ?_)
          | (at_builtin; (refine wl_app22 rfl _ _ rfl W.heap.size _ (ns.take k) rfl HO3.out w2.heap.size 1 n rfl HN.out (heap_alloc_new _ _) hcl2 HB3.out.size ?_); intro v' w3 ho3 hg3))
        have hbb : Below W.heap.size W w3 := HB3.out.trans (grown_below hg3 (fun g hg => (HO3.out.lt g hg).1) HB3.out.size)
        have HBB := Lib.hid hbb
        have HO4 := Lib.hid ho3
        have hl4 : Hid (((ns.take k ++ [n]).length + ([] : List (List UInt8)).length) * 12 ≤ 140737488355328) := by
          show ((ns.take k ++ [n]).length + ([] : List (List UInt8)).length) * 12 ≤ 140737488355328
          rw [List.length_append]; simp only [List.length_cons, List.length_nil]; omega
        have h0 : Hid (All12 []) := fun x hx => by simp at hx
        have hr0 : ∀ o', Hid (w3.rangeAt b o' (bC ([] : List (List UInt8)).flatten).toList) := fun o' j u hu => by simp [bC] at hu
        have HR0 := Lib.hid hr0
        clear hbb ho3 hg3 hr0
        by_cases hck : cap = k
        · subst hck
          go_wp2_with (at_builtin; (refine wl_app 46 22 Try.underlying46 inf22 rfl _ _ rfl W.heap.size _ (ns.take cap ++ [n]) rfl HO4.out b o 0 [] rfl h0.out (HR0.out _).out hl4.out HBB.out.size ?_); intro v'' w5 ho5 hg5)
          go_ret
          refine ⟨HB0.out.trans ((HBB.out.trans (grown_below hg5 (fun g hg => (HO4.out.lt g hg).1) HBB.out.size)).mono HB0.out.size), _, rfl, ?_⟩
          have := ho5.base HB0.out.size
          rw [HXB.out, HDR.out]
          rw [List.append_nil] at this
          exact this
        · go_wp2_with (at_builtin; (refine wl_app 46 22 Try.underlying46 inf22 rfl _ _ rfl W.heap.size _ (ns.take k ++ [n]) rfl HO4.out b (o + k * 12) (cap - k) [] rfl h0.out (HR0.out _).out hl4.out HBB.out.size ?_); intro v'' w5 ho5 hg5)
          go_ret
          refine ⟨HB0.out.trans ((HBB.out.trans (grown_below hg5 (fun g hg => (HO4.out.lt g hg).1) HBB.out.size)).mono HB0.out.size), _, rfl, ?_⟩
          have := ho5.base HB0.out.size
          rw [HXB.out, HDR.out]
          rw [List.append_nil] at this
          exact this

end Go.Proofs.Ytbflliiaigkmgaa
