/- name.Count. -/
import Derived.Test.YtbflliiaigkmgaaM2
import Derived.BigRegion
namespace Go.Proofs.Ytbflliiaigkmgaa
open Go.RowKit

theorem CntIs.block {w w' : World} {r : Nat} {ns : List (List UInt8)} (h : CntIs w r ns) (he : w'.heap[r]? = w.heap[r]?) : CntIs w' r ns := by
  obtain ⟨l, c, h1, h2⟩ := h; exact ⟨l, c, he.trans h1, h2⟩
theorem CntIs.lt {w : World} {r : Nat} {ns : List (List UInt8)} (h : CntIs w r ns) : r < w.heap.size := by
  obtain ⟨l, c, h1, h2⟩ := h; exact lt_heap h1
theorem CntIs.nil {w : World} {r : Nat} (h : w.heap[r]? = some (.map #[] 0)) : CntIs w r [] := ⟨[], 0, h, by simp, by simp, by simp, by simp⟩
theorem run_loadVar23 (w : World) (g : Nat) (l : List UInt8) (fr : Nat × Nat) (hg : w.heap[g]? = some (.cells (bC l) 23 fr)) (hl : l.length = 12) : (loadVar 23 ⟨g, 0, none⟩).run Try.prog w = .ok (.agg (bC l)) w :=
  run_loadVar_row _ g 23 23 (bC l) fr _ hg Try.underlying23 rfl (by rw [info23, bC_size, hl])

theorem twelve (w : World) (p : Nat) (l : List UInt8) (fr : Nat × Nat) (hg : w.heap[p]? = some (.cells (bC l) 23 fr)) (hl : l.length = 12) :
    ∃ c0 c1 c2 c3 c4 c5 c6 c7 c8 c9 c10 c11 : Value, Value.agg (bC l) = .agg #[c0, c1, c2, c3, c4, c5, c6, c7, c8, c9, c10, c11] ∧ w.cell? ⟨p, 0, none⟩ = some c0 ∧ w.cell? ⟨p, 1, none⟩ = some c1 ∧ w.cell? ⟨p, 2, none⟩ = some c2 ∧ w.cell? ⟨p, 3, none⟩ = some c3 ∧ w.cell? ⟨p, 4, none⟩ = some c4 ∧ w.cell? ⟨p, 5, none⟩ = some c5 ∧ w.cell? ⟨p, 6, none⟩ = some c6 ∧ w.cell? ⟨p, 7, none⟩ = some c7 ∧ w.cell? ⟨p, 8, none⟩ = some c8 ∧ w.cell? ⟨p, 9, none⟩ = some c9 ∧ w.cell? ⟨p, 10, none⟩ = some c10 ∧ w.cell? ⟨p, 11, none⟩ = some c11 := by
  match l, hl with
  | [x0, x1, x2, x3, x4, x5, x6, x7, x8, x9, x10, x11], _ =>
    refine ⟨_, _, _, _, _, _, _, _, _, _, _, _, rfl, ?_, ?_, ?_, ?_, ?_, ?_, ?_, ?_, ?_, ?_, ?_, ?_⟩ <;> simp [World.cell?, hg, bC]

set_option maxHeartbeats 400000 in
theorem count_any (v : Value) (ns : List (List UInt8)) (w : World) (hv : RowsAt w v ns) (h12 : All12 ns) (hlen : ns.length ≤ 1000000) :
    Calls Try.prog 24 #[v] w fun e w' => Below w.heap.size w w' ∧ e = .returned (.map (some w.heap.size)) ∧ CntIs w' w.heap.size (rights ns) := by
  have hmm := @run_makeMap Try.prog
  rcases hv with ⟨rfl, rfl⟩ | ⟨b, o, cap, rfl, hcap, hb, hrg⟩
  · have HC0 : Hid (CntIs (w.alloc (.map #[] 0)) w.heap.size []) := .nil (heap_alloc_new _ _)
    go_enter Try.func24, Try.ntmps24
    go_wp2_with fail
    go_loop [9] (fun i => i = .int .i64 0) (fun _ => 0)
    case atStart => rfl
    case round =>
      obtain rfl := hrel
      go_wp2_with fail
      go_ret
      exact ⟨below_alloc1 _ _, rfl, HC0.out⟩
  · obtain ⟨m, hm⟩ : ∃ m, Hid (ns.length = m) := ⟨_, rfl⟩
    have hlen' : (m : Int) ≤ 1000000 := by rw [← hm.out]; omega
    rw [hm.out]
    have H12 := Lib.hid h12
    have HRG := Lib.hid hrg
    have HB := Lib.hid hb
    have HB0 : Hid (Below w.heap.size w (w.alloc (.map #[] 0))) := below_alloc1 _ _
    have HC0 : Hid (CntIs (w.alloc (.map #[] 0)) w.heap.size []) := .nil (heap_alloc_new _ _)
    clear h12 hrg hb hcap hlen
    go_enter Try.func24, Try.ntmps24
    go_wp2_with fail
    generalize w.alloc (.map #[] 0) = W at *
    go_loopw [9] (fun i wr => ∃ k : Nat, k ≤ m ∧ i = .int .i64 k ∧ Hid (CntIs wr w.heap.size (rights (ns.take k))) ∧ Hid (Below w.heap.size w wr)) (fun i _ => m - (intOf i).toNat)
    case atStart => exact ⟨0, Nat.zero_le _, rfl, HC0.out, HB0.out⟩
    case round =>
      obtain ⟨k, hk, rfl, HC, HBel⟩ := hrel
      by_cases hlt : k < m
      · have hk2 : k < ns.length := by rw [hm.out]; exact hlt
        have hnk : Hid (ns[k].length = 12) := H12.out _ (List.getElem_mem hk2)
        have hrk : Hid (wr.rangeAt b (o + k * 12) (bC ns[k]).toList) := range_of_block (range_elem HRG.out H12.out k hk2) (HBel.out.block b HB.out)
        have HA : Hid (rights (ns.take (k + 1)) = rights (ns.take k) ++ if rightB ns[k] then [ns[k]] else []) := rights_snoc ns k hk2
        have hcl : (rights (ns.take k)).length ≤ k := Nat.le_trans (List.length_filter_le _ _) (List.length_take_le _ _)
        have hz : w.heap.size ≤ wr.heap.size := HBel.out.size
        generalize ns[k] = nk at *
        generalize rights (ns.take k) = ck at *
        have hk3 : (k : Int) < (m : Int) := by omega
        have HR : Hid (∀ W : World, Calls Try.prog 13 #[.agg (bC nk)] W fun e w' => e = .returned (.bool (rightB nk)) ∧ Below W.heap.size W w') := fun W => right_any nk W hnk.out
        cases hr : rightB nk
        case false =>
          rw [hr] at HR HA
          clear hr
          go_wp2_with (first
            | (with_reducible refine ldmid23 rfl _ rfl b (o + k * 12) nk rfl hnk.out hrk.out ?_)
            | (rw [← bC_z12]; with_reducible refine st23n rfl _ _ rfl nk rfl rfl hnk.out ?_)
            | (with_reducible refine ld23g rfl _ rfl wr.heap.size rfl nk hnk.out (0, 0) (heap_alloc_new _ _) ?_)
            | (go_at_call 13; (with_reducible refine (HR.out _).mono ?_); rintro e w1 ⟨rfl, hb1⟩))
          have hbw : Below w.heap.size w (wr.alloc (.cells (bC nk) 23)) := HBel.out.alloc HBel.out.size _
          have HB2 : Hid (Below w.heap.size w w1) := hbw.trans (hb1.mono hbw.size)
          have HC2 : Hid (CntIs w1 w.heap.size ck) := HC.out.block ((hb1.block _ (Nat.lt_of_lt_of_le HC.out.lt (below_alloc1 _ _).size)).trans ((below_alloc1 wr _).block _ HC.out.lt))
          clear hbw
          go_roundw
          case rel =>
            refine ⟨k + 1, by omega, by go_num, ?_, HB2.out⟩
            rw [HA.out]
            show CntIs w1 w.heap.size (ck ++ [])
            rw [List.append_nil]; exact HC2.out
          case measure => simp [intOf]; omega
        case true =>
          rw [hr] at HR HA
          clear hr
          go_upto_region 6 with (first
            | (with_reducible refine ldmid23 rfl _ rfl b (o + k * 12) nk rfl hnk.out hrk.out ?_)
            | (rw [← bC_z12]; with_reducible refine st23n rfl _ _ rfl nk rfl rfl hnk.out ?_)
            | (with_reducible refine ld23g rfl _ rfl wr.heap.size rfl nk hnk.out (0, 0) (heap_alloc_new _ _) ?_)
            | (go_at_call 13; (with_reducible refine (HR.out _).mono ?_); rintro e w1 ⟨rfl, hb1⟩))
          have hx1 : Hid (w1.heap[wr.heap.size]? = some (.cells (bC nk) 23)) := (hb1.block _ (lt_heap (heap_alloc_new _ _))).trans (heap_alloc_new _ _)
          have hbw : Below w.heap.size w (wr.alloc (.cells (bC nk) 23)) := HBel.out.alloc HBel.out.size _
          have HB2 : Hid (Below w.heap.size w w1) := hbw.trans (hb1.mono hbw.size)
          have hc2 : CntIs w1 w.heap.size ck := HC.out.block ((hb1.block _ (Nat.lt_of_lt_of_le HC.out.lt (below_alloc1 _ _).size)).trans ((below_alloc1 wr _).block _ HC.out.lt))
          have hc3 : CntIs w1.drew w.heap.size ck := hc2
          obtain ⟨v0, st, o1, o2, e1, e2, e3, HC3⟩ := hc3.entry nk hnk.out
          have e0 := hc3.look nk hnk.out
          obtain ⟨c0, c1, c2, c3, c4, c5, c6, c7, c8, c9, c10, c11, hk12, q0, q1, q2, q3, q4, q5, q6, q7, q8, q9, q10, q11⟩ := twelve w1 wr.heap.size nk (0, 0) hx1.out hnk.out
          rw [hk12] at e0 e1 e2
          have HC4 := Lib.hid HC3
          have hcc : ck.count nk ≤ k := Nat.le_trans List.count_le_length hcl
          have HB5 : Hid (Below w.heap.size w (putO w1.drew w.heap.size o2)) := ⟨HB2.out.os, HB2.out.tape, HB2.out.output, by rw [putO_size]; exact HB2.out.size, fun k hk => by
            rw [putO_other _ _ _ _ (by omega)]; exact HB2.out.block k hk⟩
          have hw : IntKind.i64.wrap (((ck.count nk : Nat) : Int) + 1) = ((ck.count nk : Nat) : Int) + 1 := by rw [IntKind.wrap_i64]; omega
          clear hbw hc2 hc3 HC3 hb1 HC HBel hrk
          generalize ck.count nk = ct at *
          generalize hW2 : putO w1.drew w.heap.size o2 = W3 at *
          generalize hW1 : putO w1.drew w.heap.size o1 = W2 at *
          clear hW2 hW1
          go_region
          all_goals
            go_wp2_with fail
            go_roundw
            case rel =>
              refine ⟨k + 1, by omega, by go_num, ?_, HB5.out⟩
              rw [HA.out]; exact HC4.out
            case measure => simp [intOf]; omega
      · obtain rfl : k = m := by omega
        have HTK : Hid (ns.take k = ns) := List.take_of_length_le (by rw [hm.out]; exact Nat.le_refl _)
        go_wp2_with fail
        go_ret
        exact ⟨HBel.out, rfl, by have := HC.out; rw [HTK.out] at this; exact this⟩
end Go.Proofs.Ytbflliiaigkmgaa
