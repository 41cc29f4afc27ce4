/- Drain, where all is taken. -/
import Derived.Test.YtnafcbmpjjlhnaaK21
namespace Go.Proofs.Ytnafcbmpjjlhnaa
open Go.RowKit

set_option maxRecDepth 100000 in
set_option maxHeartbeats 8000000 in
theorem drain_any (B g j p : Nat) (hj : j < 8) (x : Wt) (qv : Value) (w : World)
    (hc : w.cell? ⟨g, j, none⟩ = some (.pointer (some ⟨p, 0, none⟩))) (hx : WtAt B w p x qv) (mst : Int) (hm0 : ¬ mst < 0) (hql : (x.queue.length : Int) ≤ mst) :
    Calls Try.prog 10 #[.pointer (some ⟨g, 0, none⟩), .int .i64 (j : Int), .int .i64 mst] w fun e w' => ∃ q c, e = .returned (.tuple #[.slice q x.queue.length c, .bool false]) ∧ (∃ c', qv = .slice q x.queue.length c') ∧ SlAt evC 28 w' q x.queue ∧ Turn [p] w w' ∧ ∃ u, w'.heap[p]? = some (.cells (wtC x.key x.depth x.since u x.stop).toArray 67 (0, 0)) := by
  have KA := Lib.hid (atR_any g j hj p w hc)
  have HX := Lib.hid hx
  obtain ⟨q, cap, hqv, hlc, hcm, hsl, hqb⟩ := hx.own.at evC_len
  obtain ⟨n, hn⟩ : ∃ n, n = x.queue.length := ⟨_, rfl⟩
  rw [← hn] at hqv hlc hql ⊢
  have hq0 : q = none → n = 0 ∧ cap = 0 := by
    intro h
    obtain ⟨_, ⟨h1, h2⟩ | ⟨g', cap', cur, h1, _⟩⟩ := hx.own
    · rw [hqv] at h1; simp only [Value.slice.injEq] at h1; exact ⟨h1.2.1, h1.2.2⟩
    · rw [hqv, h] at h1; simp at h1
  have hq2 : ∀ a, q = some a → ∃ b o, a = ⟨b, o, none⟩ := by
    intro a h
    obtain ⟨_, ⟨h1, h2⟩ | ⟨g', cap', cur, h1, _⟩⟩ := hx.own
    · rw [hqv, h] at h1; simp at h1
    · rw [hqv, h] at h1; simp only [Value.slice.injEq, Option.some.injEq] at h1; exact ⟨_, _, h1.1⟩
  subst hqv
  have HN := Lib.hid hn
  have HS := Lib.hid hsl
  have HQB := Lib.hid hqb
  have hc27 := hx.cells.2.2.1
  have HW := Lib.hid (hx.blk)
  clear hc hx hsl hqb hn
  have hmn : ¬ mst < n := by omega
  have hmm : min (max mst 0) (n : Int) = (n : Int) := by omega
  go_enter Try.func10, Try.ntmps10
  go_upto_region 6 with (go_at_call 21; (refine KA.out.mono ?_); rintro e W2 ⟨rfl, rfl⟩)
  cases q with
  | none =>
    obtain ⟨rfl, rfl⟩ := hq0 rfl
    have KC := Lib.hid (cloneE_any none 0 0 [] W2 rfl (SlAt.nil _ _) (fun _ => ⟨rfl, rfl⟩) (by omega))
    go_upto_region 7 with (first | (go_at_call 22; (refine KC.out.mono ?_); rintro e W3 ⟨v, rfl, hv, hb1⟩; obtain ⟨q3, c3, rfl⟩ := hv.slice; have HB1 := Lib.hid hb1; have HW3 := Lib.hid ((hb1.block _ (lt_heap HW.out)).trans HW.out); clear hv hb1) | ((with_reducible refine gate_st 47 (.tmp 40) _ rfl ?_); refine wl_st1 rfl 47 siz47 _ _ rfl p 27 (.slice q3 0 c3) rfl rfl rfl _ _ HW3.out (by rw [wtC_len x.lkey]; omega) ?_; rw [wt_put x.lkey]))
    have HW4 : Hid ((W3.setRow p (wtC x.key x.depth x.since (.slice q3 0 c3) x.stop).toArray).heap[p]? = some (.cells (wtC x.key x.depth x.since (.slice q3 0 c3) x.stop).toArray 67 (0, 0))) := setRow_at HW3.out
    have HT4 : Hid (Turn [p] W2 (W3.setRow p (wtC x.key x.depth x.since (.slice q3 0 c3) x.stop).toArray)) := (Turn.of_below HB1.out).trans ⟨rfl, rfl, rfl, by simp, fun b _ hr => setRow_other _ _ _ _ (by simpa using hr)⟩
    generalize W3.setRow p (wtC x.key x.depth x.since (.slice q3 0 c3) x.stop).toArray = W4 at *
    have hc4 : W4.cell? ⟨p, 27, none⟩ = some (.slice q3 0 c3) := by rw [cell_blk HW4.out]; exact (wt_cell x.lkey _ _ _ _).2.1
    clear hc27
    go_quiet (fail)
    go_wp2_with fail
    go_ret2
    exact ⟨none, 0, rfl, ⟨0, rfl⟩, (by rw [List.length_eq_zero_iff.1 HN.out.symm]; exact SlAt.nil _ _), HT4.out.drewN _, _, HW4.out⟩
  | some a =>
    obtain ⟨b, o, rfl⟩ := hq2 a rfl
    obtain ⟨hbB, hbs⟩ := HQB.out _ rfl
    have HNE : Hid (b ≠ p) := fun e => own_ne HX.out.own HW.out (by decide) (by rw [← e]; rfl)
    by_cases hcn : cap = n
    · subst hcn
      have KC := Lib.hid (fun (ad : Addr) (c : Nat) => cloneE_any (some ad) 0 c [] W2 rfl (SlAt.nil _ _) (fun e => by cases e) (by omega))
      go_upto_region 7 with (first | (go_at_call 22; (refine (KC.out _ _).mono ?_); rintro e W3 ⟨v, rfl, hv, hb1⟩; obtain ⟨q3, c3, rfl⟩ := hv.slice; have HB1 := Lib.hid hb1; have HW3 := Lib.hid ((hb1.block _ (lt_heap HW.out)).trans HW.out); clear hv hb1) | ((with_reducible refine gate_st 47 (.tmp 40) _ rfl ?_); refine wl_st1 rfl 47 siz47 _ _ rfl p 27 (.slice q3 0 c3) rfl rfl rfl _ _ HW3.out (by rw [wtC_len x.lkey]; omega) ?_; rw [wt_put x.lkey]))
      have HW4 : Hid ((W3.setRow p (wtC x.key x.depth x.since (.slice q3 0 c3) x.stop).toArray).heap[p]? = some (.cells (wtC x.key x.depth x.since (.slice q3 0 c3) x.stop).toArray 67 (0, 0))) := setRow_at HW3.out
      have HT4 : Hid (Turn [p] W2 (W3.setRow p (wtC x.key x.depth x.since (.slice q3 0 c3) x.stop).toArray)) := (Turn.of_below HB1.out).trans ⟨rfl, rfl, rfl, by simp, fun b _ hr => setRow_other _ _ _ _ (by simpa using hr)⟩
      generalize W3.setRow p (wtC x.key x.depth x.since (.slice q3 0 c3) x.stop).toArray = W4 at *
      have hc4 : W4.cell? ⟨p, 27, none⟩ = some (.slice q3 0 c3) := by rw [cell_blk HW4.out]; exact (wt_cell x.lkey _ _ _ _).2.1
      clear hc27
      go_quiet (fail)
      go_wp2_with fail
      go_ret2
      exact ⟨_, _, rfl, ⟨_, rfl⟩, fun i hi => (by obtain ⟨b', o', h1, h2, h3⟩ := HS.out i hi; exact ⟨b', o', h1, Nat.lt_of_lt_of_le h2 HT4.out.size, range_of_block h3 (HT4.out.block b' h2 (fun hm => HNE.out (by simp at hm; simp only [Option.some.injEq, Addr.mk.injEq] at h1; omega)))⟩), HT4.out.drewN _, _, HW4.out⟩
    · have hcl : n < cap := by omega
      have KC := Lib.hid (fun (ad : Addr) (c : Nat) => cloneE_any (some ad) 0 c [] W2 rfl (SlAt.nil _ _) (fun e => by cases e) (by omega))
      go_upto_region 7 with (first | (go_at_call 22; (refine (KC.out _ _).mono ?_); rintro e W3 ⟨v, rfl, hv, hb1⟩; obtain ⟨q3, c3, rfl⟩ := hv.slice; have HB1 := Lib.hid hb1; have HW3 := Lib.hid ((hb1.block _ (lt_heap HW.out)).trans HW.out); clear hv hb1) | ((with_reducible refine gate_st 47 (.tmp 40) _ rfl ?_); refine wl_st1 rfl 47 siz47 _ _ rfl p 27 (.slice q3 0 c3) rfl rfl rfl _ _ HW3.out (by rw [wtC_len x.lkey]; omega) ?_; rw [wt_put x.lkey]))
      have HW4 : Hid ((W3.setRow p (wtC x.key x.depth x.since (.slice q3 0 c3) x.stop).toArray).heap[p]? = some (.cells (wtC x.key x.depth x.since (.slice q3 0 c3) x.stop).toArray 67 (0, 0))) := setRow_at HW3.out
      have HT4 : Hid (Turn [p] W2 (W3.setRow p (wtC x.key x.depth x.since (.slice q3 0 c3) x.stop).toArray)) := (Turn.of_below HB1.out).trans ⟨rfl, rfl, rfl, by simp, fun b _ hr => setRow_other _ _ _ _ (by simpa using hr)⟩
      generalize W3.setRow p (wtC x.key x.depth x.since (.slice q3 0 c3) x.stop).toArray = W4 at *
      have hc4 : W4.cell? ⟨p, 27, none⟩ = some (.slice q3 0 c3) := by rw [cell_blk HW4.out]; exact (wt_cell x.lkey _ _ _ _).2.1
      clear hc27
      go_quiet (fail)
      go_wp2_with fail
      go_ret2
      exact ⟨_, _, rfl, ⟨_, rfl⟩, fun i hi => (by obtain ⟨b', o', h1, h2, h3⟩ := HS.out i hi; exact ⟨b', o', h1, Nat.lt_of_lt_of_le h2 HT4.out.size, range_of_block h3 (HT4.out.block b' h2 (fun hm => HNE.out (by simp at hm; simp only [Option.some.injEq, Addr.mk.injEq] at h1; omega)))⟩), HT4.out.drewN _, _, HW4.out⟩
end Go.Proofs.Ytnafcbmpjjlhnaa
