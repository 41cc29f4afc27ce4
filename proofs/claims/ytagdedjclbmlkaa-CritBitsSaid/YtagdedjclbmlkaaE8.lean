/- The bits at which a key leaves others: the document's. -/
import Derived.Test.YtagdedjclbmlkaaE6
import Derived.Test.YtagdedjclbmlkaaE7
import Derived.Test.YtagdedjclbmlkaaE4
namespace Go.Proofs.Ytagdedjclbmlkaa
open Go.RowKit

theorem dI_eq (d : Option Nat) (b : Nat) : decide (dI d = (b : Int)) = (d == some b) := by
  cases d with
  | none =>
    have : ¬ ((-1 : Int) = (b : Int)) := by omega
    show decide ((-1 : Int) = (b : Int)) = false
    simp [this]
  | some x =>
    show decide ((x : Int) = (b : Int)) = _
    rw [Bool.eq_iff_iff]
    simp only [decide_eq_true_eq, beq_iff_eq, Option.some.injEq]
    omega
def hitE (xs : List RE) (k : List UInt8) (b : Nat) : Bool := xs.any fun y => differ y.k k == some b
theorem hit_next {xs : List RE} {k : List UInt8} {b i : Nat} (hi : i < xs.length) : hitE (xs.take (i + 1)) k b = (hitE (xs.take i) k b || (differ xs[i].k k == some b)) := by
  unfold hitE
  rw [List.take_succ_eq_append_getElem hi, List.any_append]
  simp
theorem branch_hit (xs : List RE) (k : List UInt8) : branchL (xs.map RE.p) k = (List.range 200).filter fun b => hitE xs k b := by
  unfold branchL
  congr 1
  funext b
  unfold hitE
  rw [List.any_map]
  rfl
theorem range_next (f : Nat → Bool) (b : Nat) : (List.range (b + 1)).filter f = if f b = true then (List.range b).filter f ++ [b] else (List.range b).filter f := by
  rw [List.range_succ, List.filter_append, List.filter_cons]
  split
  · rfl
  · simp
set_option maxRecDepth 100000 in
set_option maxHeartbeats 8000000 in
theorem rbranch_any (q : Option Addr) (n c : Nat) (xs : List RE) (k : List UInt8) (w : World) (hn : xs.length = n) (hn9 : n ≤ 1000000) (hk : k.length = 25) (hq : SlAt reC 26 w q xs) :
    Calls Try.prog 23 #[.slice q n c, .agg (rkC k).toArray] w fun e w' => ∃ v, e = .returned v ∧ OwnE encI 3 1 w' w.heap.size v (brL (xs.map RE.p) k) ∧ Below w.heap.size w w' := by
  have HN := Lib.hid hn
  have HK := Lib.hid hk
  have HB0 := Lib.hid (below_alloc1 w (.cells (rkC k).toArray 40))
  have HX0 := Lib.hid (heap_alloc_new w (.cells (rkC k).toArray 40))
  have HQ := Lib.hid (hq.below HB0.out)
  clear hn hq hk
  have KF : Hid (Calls Try.prog 33 #[.slice q n c, .agg (rkC k).toArray] (w.alloc (.cells (rkC k).toArray 40)) fun e w' => e = .returned (.int .i64 (fI (findL (xs.map RE.p) k))) ∧ Below (w.alloc (.cells (rkC k).toArray 40)).heap.size (w.alloc (.cells (rkC k).toArray 40)) w') := rfind_any q n c xs k _ HN.out hn9 HK.out HQ.out
  cases hf : findL (xs.map RE.p) k with
  | none =>
    have HL : Hid (brL (xs.map RE.p) k = []) := by show _ = _; unfold brL; rw [hf]; rfl
    rw [hf] at KF
    simp only [fI] at KF
    clear hf
    go_enter Try.func23, Try.ntmps23
    go_upto_region 1 with fail
    generalize w.alloc (.cells (rkC k).toArray 40) = W0 at *
    go_wp2_with (first
      | ((with_reducible refine gate_ld 40 (.tmp 3) rfl ?_); refine wl_ldr rfl 40 _ rfl w.heap.size 0 (rkC k) _ Try.underlying40 rfl (by rw [sizRK, rkC_len HK.out]) rfl (range_whole (by simpa using HX0.out)) ?_)
      | (go_at_call 33; (refine KF.out.mono ?_); rintro e W2 ⟨rfl, hb2⟩; have HB2 := Lib.hid hb2; clear hb2))
    go_ret
    exact ⟨_, rfl, by rw [HL.out]; exact OwnE.nil _ _, HB0.out.trans (HB2.out.mono HB0.out.size)⟩
  | some i0 =>
    have HL : Hid (brL (xs.map RE.p) k = (List.range 200).filter fun b => hitE xs k b) := by
      show _ = _
      unfold brL
      rw [hf, ← branch_hit]; rfl
    rw [hf] at KF
    simp only [fI] at KF
    clear hf
    have hi0 : (0 : Int) ≤ (i0 : Int) := by omega
    go_enter Try.func23, Try.ntmps23
    go_upto_region 1 with fail
    generalize w.alloc (.cells (rkC k).toArray 40) = W0 at *
    go_upto_region 4 with (first
      | ((with_reducible refine gate_ld 40 (.tmp 3) rfl ?_); refine wl_ldr rfl 40 _ rfl w.heap.size 0 (rkC k) _ Try.underlying40 rfl (by rw [sizRK, rkC_len HK.out]) rfl (range_whole (by simpa using HX0.out)) ?_)
      | (go_at_call 33; (refine KF.out.mono ?_); rintro e W2 ⟨rfl, hb2⟩; have HB2 := Lib.hid hb2; clear hb2))
    have HQ2 := Lib.hid (HQ.out.below HB2.out)
    have HX2 : Hid (W2.heap[w.heap.size]? = some (.cells (rkC k).toArray 40 (0, 0))) := (HB2.out.block _ (lt_heap HX0.out)).trans HX0.out
    have HB2w : Hid (Below w.heap.size w W2) := HB0.out.trans (HB2.out.mono HB0.out.size)
    clear KF HQ HX0 HB2 HB0
    go_wp2_with fail
    go_loopw [5, 6] (fun vo vb wr => ∃ (b : Nat), b ≤ 200 ∧ vb = .int .i64 b ∧ Hid (OwnE encI 3 1 wr W2.heap.size vo ((List.range b).filter fun b => hitE xs k b)) ∧ Hid (Below W2.heap.size W2 wr)) (fun _ vb _ => 200 - (intOf vb).toNat)
    case atStart => exact ⟨0, Nat.zero_le _, rfl, OwnE.nil _ _, Below.refl _ _⟩
    case round =>
      obtain ⟨b, hb, rfl, HO, HB⟩ := hrel
      by_cases h1 : b < 200
      · have h1i : (b : Int) < 200 := by omega
        obtain ⟨Wo, rfl⟩ : ∃ Wo, Wo = wr := ⟨_, rfl⟩
        go_wp2_with fail
        go_loopw [7, 8] (fun va vi wr2 => ∃ (i : Nat), i ≤ n ∧ vi = .int .i64 i ∧ va = .bool (hitE (xs.take i) k b) ∧ Hid (Below Wo.heap.size Wo wr2)) (fun _ vi _ => n - (intOf vi).toNat)
        case atStart => exact ⟨0, Nat.zero_le _, rfl, rfl, Below.refl _ _⟩
        case round =>
          obtain ⟨i, hi, rfl, rfl, HBi⟩ := hrel
          by_cases h2 : i < n
          · have h2i : (i : Int) < n := by omega
            have hil : i < xs.length := by rw [HN.out]; exact h2
            have hnx := hit_next (k := k) (b := b) hil
            obtain ⟨x, hx⟩ : ∃ x, x = xs[i] := ⟨_, rfl⟩
            obtain ⟨qb, qo, rfl, hqb, hqr⟩ := (HQ2.out.below (HB.out.trans (HBi.out.mono HB.out.size))) i hil
            rw [← hx] at hqr hnx
            have HRq := Lib.hid (re_key hqr)
            have hXr := ((HB.out.trans (HBi.out.mono HB.out.size)).block _ (lt_heap HX2.out)).trans HX2.out
            have hXl := lt_heap hXr
            have HXr := Lib.hid hXr
            have HLx := x.hk
            have KD := Lib.hid (fun W => rdiffer_any x.k k W HLx HK.out)
            have hdi := dI_eq (differ x.k k) b
            obtain ⟨db, hdb⟩ : ∃ db, (differ x.k k == some b) = db := ⟨_, rfl⟩
            rw [hdb] at hdi hnx
            have HDi := Lib.hid hdi
            have HNx := Lib.hid hnx
            clear hqr hx hXr hdi hnx hdb
            go_upto_region 11 with fail
            cases hat : hitE (List.take i xs) k b with
            | true =>
              rw [hat] at HNx
              clear hat
              refine wp_region_quiet_below (by kernel_rfl) (by kernel_rfl) ?_
              repeat (first
                | go_big_quiet_skip
                | go_big_quiet_step (fail))
              refine wpQuiet_nil ?_
              rintro _ ⟨⟨dq, osq⟩, rfl⟩
              have HB9 : Hid (Below Wo.heap.size Wo (Sort.grow (redrawn wr dq) osq)) := HBi.out.trans ((below_regrown wr dq osq).mono HBi.out.size)
              generalize Sort.grow (redrawn wr dq) osq = W9 at *
              go_wp2_with fail
              go_roundw
              case rel => exact ⟨i + 1, by omega, by go_num, by rw [HNx.out]; rfl, HB9⟩
              case measure => simp [intOf]; omega
            | false =>
              rw [hat] at HNx
              clear hat
              refine wp_region_quiet_below (by kernel_rfl) (by kernel_rfl) ?_
              repeat (first
                | (refine wq_ix _ rfl 33 57 (.tmp 25) (.tmp 26) rfl Try.underlying33 26 sizRE qb qo n c i rfl rfl h2 ?_; simp only [Act.put, List.setIfInBounds_toArray, List.set_cons_zero, List.set_cons_succ])
                | (with_reducible refine wq_ldr rfl 40 (.tmp 28) rfl qb (qo + i * 26) (rkC x.k) _ Try.underlying40 rfl (by rw [sizRK, rkC_len HLx]) rfl HRq.out hqb ?_; simp only [Act.put, List.setIfInBounds_toArray, List.set_cons_zero, List.set_cons_succ])
                | (with_reducible refine wq_ldr rfl 40 (.tmp 3) rfl w.heap.size 0 (rkC k) _ Try.underlying40 rfl (by rw [sizRK, rkC_len HK.out]) rfl (range_whole (by simpa using HXr.out)) hXl ?_; simp only [Act.put, List.setIfInBounds_toArray, List.set_cons_zero, List.set_cons_succ])
                | (refine wq_val (.bool db) rfl (fun w => exec_eqZ (.tmp 31) (.tmp 32) rfl _ _ _ HDi.out rfl rfl) ?_; simp only [Act.put, List.setIfInBounds_toArray, List.set_cons_zero, List.set_cons_succ])
                | go_big_quiet_step (first | (exact rg_call KD.out _ _)))
              refine wpQuiet_nil ?_
              rintro _ ⟨⟨dq, osq⟩, rfl⟩
              have HB9 : Hid (Below Wo.heap.size Wo (Sort.grow (redrawn wr dq) osq)) := HBi.out.trans ((below_regrown wr dq osq).mono HBi.out.size)
              clear HRq hqb HXr hXl
              generalize Sort.grow (redrawn wr dq) osq = W9 at *
              go_wp2_with fail
              go_roundw
              case rel => exact ⟨i + 1, by omega, by go_num, by rw [HNx.out]; rfl, HB9⟩
              case measure => simp [intOf]; omega
          · have h2i : ¬ (i : Int) < n := by omega
            have hall : hitE (List.take i xs) k b = hitE xs k b := by rw [List.take_of_length_le (by rw [HN.out]; omega)]
            have hrn := range_next (fun b => hitE xs k b) b
            rw [hall]
            have HO2 := Lib.hid (HO.out.below HBi.out)
            have HBn : Hid (Below W2.heap.size W2 wr) := HB.out.trans (HBi.out.mono HB.out.size)
            cases hh : hitE xs k b with
            | false =>
              rw [hh, if_neg (by simp)] at hrn
              have HRn := Lib.hid hrn
              clear hrn hh hall
              go_wp2_with fail
              go_roundw
              case rel => exact ⟨b + 1, by omega, by go_num, by rw [HRn.out]; exact HO2, HBn⟩
              case measure => simp [intOf]; omega
            | true =>
              rw [hh, if_pos rfl] at hrn
              have HRn := Lib.hid hrn
              clear hrn hh hall
              have hpl : ((List.range b).filter fun b => hitE xs k b).length ≤ 1000000 := by
                have h3 := List.length_filter_le (fun b => hitE xs k b) (List.range b)
                rw [List.length_range] at h3
                omega
              generalize (List.range b).filter (fun b => hitE xs k b) = pre at *
              have HO1 : Hid (OwnE encI 3 1 (wr.alloc (.cells (encI b).toArray 3)) W2.heap.size u5 pre) := HO2.out.below (below_alloc1 _ _)
              have hz1 : W2.heap.size ≤ (wr.alloc (.cells (encI b).toArray 3)).heap.size := by have := HBn.out.size; simp; omega
              have HZ1 := Lib.hid hz1
              have HB5 : Hid (∀ w', (wr.alloc (.cells (encI b).toArray 3)).grownBy w' (Value.ownBlock u5) → Below W2.heap.size W2 w') := fun w' hg => (HBn.out.trans ((below_alloc1 wr _).mono HBn.out.size)).trans (grown_below hg (fun g' hg' => (HO2.out.lt g' hg').1) hz1)
              clear hz1
              go_wp2_with (at_builtin; (refine app_I rfl _ _ rfl W2.heap.size u5 pre rfl HO1.out wr.heap.size 1 b rfl (range_whole (heap_alloc_new _ _)) hpl HZ1.out ?_); intro v' w3 ho3 hg3)
              have hb3 := HB5.out w3 hg3
              go_roundw
              case rel => exact ⟨b + 1, by omega, by go_num, by rw [HRn.out]; exact ho3, hb3⟩
              case measure => simp [intOf]; omega
      · have h1i : ¬ (b : Int) < 200 := by omega
        obtain rfl : b = 200 := by omega
        go_wp2_with fail
        go_ret
        exact ⟨_, rfl, by rw [HL.out]; exact HO.out.low HB2w.out.size, HB2w.out.trans (HB.out.mono HB2w.out.size)⟩
end Go.Proofs.Ytagdedjclbmlkaa
