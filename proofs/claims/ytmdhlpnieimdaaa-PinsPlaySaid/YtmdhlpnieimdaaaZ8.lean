/- choosePivot at words, whole. -/
import Derived.Test.YtmdhlpnieimdaaaZ7
namespace Go.Proofs.Ytmdhlpnieimdaaa
open Go.RowKit

def hintN : Sort.Hint → Nat
  | .unknown => 0
  | .increasing => 1
  | .decreasing => 2
set_option maxRecDepth 100000 in
set_option maxHeartbeats 8000000 in
theorem pivot_any (g n a b cap : Nat) (d : Array Nat) (w : World) (h : SM w g d) (hn : d.size = n) (hab : a + 12 < b) (hb : b ≤ n) (hn2 : n ≤ 900) :
    Calls Try.prog 31 #[.slice (some ⟨g, 0, none⟩) n cap, .int .i64 (a : Int), .int .i64 (b : Int)] w fun e w' => e = .returned (.tuple #[.int .i64 ((Sort.choosePivot ltN d a b).1 : Nat), .int .i64 (hintN (Sort.choosePivot ltN d a b).2 : Nat)]) ∧ Below w.heap.size w w' := by
  obtain ⟨l, hl⟩ : ∃ k, b - a = k := ⟨_, rfl⟩
  obtain ⟨q, hq⟩ : ∃ k, l / 4 = k := ⟨_, rfl⟩
  obtain ⟨q2, hq2⟩ : ∃ k, q * 2 = k := ⟨_, rfl⟩
  obtain ⟨q3, hq3⟩ : ∃ k, q * 3 = k := ⟨_, rfl⟩
  obtain ⟨i, hi⟩ : ∃ k, a + q = k := ⟨_, rfl⟩
  obtain ⟨j, hj⟩ : ∃ k, a + q2 = k := ⟨_, rfl⟩
  obtain ⟨k, hk⟩ : ∃ k, a + q3 = k := ⟨_, rfl⟩
  obtain ⟨R, hR⟩ : ∃ R, (if l ≥ 50 then Sort.median ltN d (Sort.medianAdjacent ltN d i 0).1 (Sort.medianAdjacent ltN d j (Sort.medianAdjacent ltN d i 0).2).1 (Sort.medianAdjacent ltN d k (Sort.medianAdjacent ltN d j (Sort.medianAdjacent ltN d i 0).2).2).1 (Sort.medianAdjacent ltN d k (Sort.medianAdjacent ltN d j (Sort.medianAdjacent ltN d i 0).2).2).2 else Sort.median ltN d i j k 0) = R := ⟨_, rfl⟩
  obtain ⟨C, hC⟩ : ∃ C, Sort.choosePivot ltN d a b = C := ⟨_, rfl⟩
  have HC : Hid ((R.1, if R.2 = 0 then Sort.Hint.increasing else if R.2 = 12 then .decreasing else .unknown) = C) := by
    show _ = _
    rw [← hC, ← hR]
    unfold Sort.choosePivot
    simp only [hl, hq, hq2, hq3, Nat.mul_one, hi, hj, hk, if_pos (show l ≥ 8 by omega)]
  rw [hC]
  have hne : g ≠ w.heap.size := by have := h.lt (by omega); omega
  have HS0 : Hid (Below w.heap.size w (w.alloc (.cells #[.int .i64 0] 3)) ∧ SwS (w.alloc (.cells #[.int .i64 0] 3)) g w.heap.size d 0) := by
    refine ⟨below_alloc1 _ _, h.block ?_, ?_⟩
    · exact (below_alloc1 w _).block g (h.lt (by omega))
    · exact heap_alloc_new w _
  have TB : ∀ (A B C : World), Below w.heap.size w A → Turn [w.heap.size] A B → Below w.heap.size w B := fun A B _ hA hB => hA.trans (hB.below (fun k hk => by simp at hk; omega) hA.size)
  have hw1 : IntKind.i64.wrap ((b : Int) - (a : Int)) = (l : Int) := by rw [IntWalk.i64_in _ (by omega)]; omega
  have hw2 : ((l : Int)).tdiv 4 = (q : Int) := by rw [← hq]; rfl
  have hw3 : ((l : Int)) / 4 = (q : Int) := by rw [← hq]; rfl
  have hw4 : IntKind.i64.wrap ((q : Int) * 2) = (q2 : Int) := by rw [IntWalk.i64_in _ (by omega)]; omega
  have hw5 : IntKind.i64.wrap ((q : Int) * 3) = (q3 : Int) := by rw [IntWalk.i64_in _ (by omega)]; omega
  have hw6 : IntKind.i64.wrap ((a : Int) + (q : Int)) = (i : Int) := by rw [IntWalk.i64_in _ (by omega)]; omega
  have hw7 : IntKind.i64.wrap ((a : Int) + (q2 : Int)) = (j : Int) := by rw [IntWalk.i64_in _ (by omega)]; omega
  have hw8 : IntKind.i64.wrap ((a : Int) + (q3 : Int)) = (k : Int) := by rw [IntWalk.i64_in _ (by omega)]; omega
  have hw9 : IntKind.i64.wrap (q : Int) = (q : Int) := by rw [IntWalk.i64_in _ (by omega)]
  have hl8 : (8 : Int) ≤ (l : Int) := by omega
  have hb1 : 1 ≤ i ∧ i + 1 < n ∧ 1 ≤ j ∧ j + 1 < n ∧ 1 ≤ k ∧ k + 1 < n := by omega
  clear h hC hl hq hq2 hq3 hi hj hk
  by_cases h50 : 50 ≤ l
  · have h50I : (50 : Int) ≤ (l : Int) := by omega
    obtain ⟨r1, h1⟩ : ∃ r, Sort.medianAdjacent ltN d i 0 = r := ⟨_, rfl⟩
    obtain ⟨r2, h2⟩ : ∃ r, Sort.medianAdjacent ltN d j r1.2 = r := ⟨_, rfl⟩
    obtain ⟨r3, h3⟩ : ∃ r, Sort.medianAdjacent ltN d k r2.2 = r := ⟨_, rfl⟩
    have hR4 : Sort.median ltN d r1.1 r2.1 r3.1 r3.2 = R := by rw [← hR, if_pos h50]; simp only [h1, h2, h3]
    have b1 := median_bd d (i - 1) i (i + 1) 0 n (by omega) (by omega) (by omega)
    rw [show Sort.median ltN d (i - 1) i (i + 1) 0 = r1 from h1] at b1
    have b2 := median_bd d (j - 1) j (j + 1) r1.2 n (by omega) (by omega) (by omega)
    rw [show Sort.median ltN d (j - 1) j (j + 1) r1.2 = r2 from h2] at b2
    have b3 := median_bd d (k - 1) k (k + 1) r2.2 n (by omega) (by omega) (by omega)
    rw [show Sort.median ltN d (k - 1) k (k + 1) r2.2 = r3 from h3] at b3
    have K1 : Hid (∀ W, SwS W g w.heap.size d 0 → Calls Try.prog 42 #[.slice (some ⟨g, 0, none⟩) n cap, .int .i64 (i : Int), .pointer (some ⟨w.heap.size, 0, none⟩)] W fun e w' => e = .returned (.int .i64 (r1.1 : Nat)) ∧ Turn [w.heap.size] W w' ∧ SwS w' g w.heap.size d r1.2) := fun W hW => by have := medAdj_any g w.heap.size n i 0 cap d W hW hne hn (by omega) (by omega) (by omega) hn2; rwa [h1] at this
    have K2 : Hid (∀ W, SwS W g w.heap.size d r1.2 → Calls Try.prog 42 #[.slice (some ⟨g, 0, none⟩) n cap, .int .i64 (j : Int), .pointer (some ⟨w.heap.size, 0, none⟩)] W fun e w' => e = .returned (.int .i64 (r2.1 : Nat)) ∧ Turn [w.heap.size] W w' ∧ SwS w' g w.heap.size d r2.2) := fun W hW => by have := medAdj_any g w.heap.size n j r1.2 cap d W hW hne hn (by omega) (by omega) (by omega) hn2; rwa [h2] at this
    have K3 : Hid (∀ W, SwS W g w.heap.size d r2.2 → Calls Try.prog 42 #[.slice (some ⟨g, 0, none⟩) n cap, .int .i64 (k : Int), .pointer (some ⟨w.heap.size, 0, none⟩)] W fun e w' => e = .returned (.int .i64 (r3.1 : Nat)) ∧ Turn [w.heap.size] W w' ∧ SwS w' g w.heap.size d r3.2) := fun W hW => by have := medAdj_any g w.heap.size n k r2.2 cap d W hW hne hn (by omega) (by omega) (by omega) hn2; rwa [h3] at this
    have K4 : Hid (∀ W, SwS W g w.heap.size d r3.2 → Calls Try.prog 43 #[.slice (some ⟨g, 0, none⟩) n cap, .int .i64 (r1.1 : Int), .int .i64 (r2.1 : Int), .int .i64 (r3.1 : Int), .pointer (some ⟨w.heap.size, 0, none⟩)] W fun e w' => e = .returned (.int .i64 (R.1 : Nat)) ∧ Turn [w.heap.size] W w' ∧ SwS w' g w.heap.size d R.2) := fun W hW => by have := median_any g w.heap.size n r1.1 r2.1 r3.1 r3.2 cap d W hW hne hn b1.1 b2.1 b3.1 (by omega) hn2; rwa [hR4] at this
    have HT := Lib.hid TB
    clear hR h1 h2 h3 hR4 b1 b2 b3 TB
    go_enter Try.func31, Try.ntmps31
    go_upto_region 9 with (go_at_call 42; (refine (K1.out _ HS0.out.2).mono ?_); rintro e W1 ⟨rfl, ht, hs1⟩; have H1 : Hid (Below w.heap.size w W1 ∧ SwS W1 g w.heap.size d r1.2) := ⟨HT.out _ _ w HS0.out.1 ht, hs1⟩; clear ht hs1)
    go_upto_region 10 with (go_at_call 42; (refine (K2.out _ H1.out.2).mono ?_); rintro e W2 ⟨rfl, ht, hs1⟩; have H2 : Hid (Below w.heap.size w W2 ∧ SwS W2 g w.heap.size d r2.2) := ⟨HT.out _ _ w H1.out.1 ht, hs1⟩; clear ht hs1)
    go_upto_region 11 with (go_at_call 42; (refine (K3.out _ H2.out.2).mono ?_); rintro e W3 ⟨rfl, ht, hs1⟩; have H3 : Hid (Below w.heap.size w W3 ∧ SwS W3 g w.heap.size d r3.2) := ⟨HT.out _ _ w H2.out.1 ht, hs1⟩; clear ht hs1)
    go_upto_region 12 with (go_at_call 43; (refine (K4.out _ H3.out.2).mono ?_); rintro e W9 ⟨rfl, ht, hs1⟩; have H9 : Hid (Below w.heap.size w W9 ∧ SwS W9 g w.heap.size d R.2) := ⟨HT.out _ _ w H3.out.1 ht, hs1⟩; clear ht hs1)
    have HSw := H9
    have hcs : W9.cell? ⟨w.heap.size, 0, none⟩ = some (.int .i64 (R.2 : Int)) := by rw [cell_of_tab HSw.out.2.s]; rfl
    have HBB : Hid (Below w.heap.size w W9) := HSw.out.1
    clear HSw
    by_cases hr0 : R.2 = 0
    · have hr0I : ((R.2 : Int) == 0) = true := by simp [hr0]
      have HD : Hid (C = (R.1, .increasing)) := by show _ = _; rw [← HC.out, if_pos hr0]
      clear hr0
      go_wp2_with fail
      refine bodyPost_ret (results_tmp2 rfl _ _ _) rfl ?_
      exact ⟨by rw [HD.out]; rfl, HBB.out⟩
    · have hr0I : ((R.2 : Int) == 0) = false := by simp; omega
      by_cases hr1 : R.2 = 12
      · have hr1I : ((R.2 : Int) == 12) = true := by simp [hr1]
        have HD : Hid (C = (R.1, .decreasing)) := by show _ = _; rw [← HC.out, if_neg hr0, if_pos hr1]
        clear hr1 hr0
        go_wp2_with fail
        refine bodyPost_ret (results_tmp2 rfl _ _ _) rfl ?_
        exact ⟨by rw [HD.out]; rfl, HBB.out⟩
      · have hr1I : ((R.2 : Int) == 12) = false := by simp; omega
        have HD : Hid (C = (R.1, .unknown)) := by show _ = _; rw [← HC.out, if_neg hr0, if_neg hr1]
        clear hr1 hr0
        go_wp2_with fail
        refine bodyPost_ret (results_tmp2 rfl _ _ _) rfl ?_
        exact ⟨by rw [HD.out]; rfl, HBB.out⟩
  · have h50I : ¬ (50 : Int) ≤ (l : Int) := by omega
    have hR4 : Sort.median ltN d i j k 0 = R := by rw [← hR, if_neg h50]
    have K4 : Hid (∀ W, SwS W g w.heap.size d 0 → Calls Try.prog 43 #[.slice (some ⟨g, 0, none⟩) n cap, .int .i64 (i : Int), .int .i64 (j : Int), .int .i64 (k : Int), .pointer (some ⟨w.heap.size, 0, none⟩)] W fun e w' => e = .returned (.int .i64 (R.1 : Nat)) ∧ Turn [w.heap.size] W w' ∧ SwS w' g w.heap.size d R.2) := fun W hW => by have := median_any g w.heap.size n i j k 0 cap d W hW hne hn (by omega) (by omega) (by omega) (by omega) hn2; rwa [hR4] at this
    have HT := Lib.hid TB
    clear hR hR4 TB
    go_enter Try.func31, Try.ntmps31
    go_upto_region 12 with (go_at_call 43; (refine (K4.out _ HS0.out.2).mono ?_); rintro e W9 ⟨rfl, ht, hs1⟩; have H9 : Hid (Below w.heap.size w W9 ∧ SwS W9 g w.heap.size d R.2) := ⟨HT.out _ _ w HS0.out.1 ht, hs1⟩; clear ht hs1)
    have HSw := H9
    have hcs : W9.cell? ⟨w.heap.size, 0, none⟩ = some (.int .i64 (R.2 : Int)) := by rw [cell_of_tab HSw.out.2.s]; rfl
    have HBB : Hid (Below w.heap.size w W9) := HSw.out.1
    clear HSw
    by_cases hr0 : R.2 = 0
    · have hr0I : ((R.2 : Int) == 0) = true := by simp [hr0]
      have HD : Hid (C = (R.1, .increasing)) := by show _ = _; rw [← HC.out, if_pos hr0]
      clear hr0
      go_wp2_with fail
      refine bodyPost_ret (results_tmp2 rfl _ _ _) rfl ?_
      exact ⟨by rw [HD.out]; rfl, HBB.out⟩
    · have hr0I : ((R.2 : Int) == 0) = false := by simp; omega
      by_cases hr1 : R.2 = 12
      · have hr1I : ((R.2 : Int) == 12) = true := by simp [hr1]
        have HD : Hid (C = (R.1, .decreasing)) := by show _ = _; rw [← HC.out, if_neg hr0, if_pos hr1]
        clear hr1 hr0
        go_wp2_with fail
        refine bodyPost_ret (results_tmp2 rfl _ _ _) rfl ?_
        exact ⟨by rw [HD.out]; rfl, HBB.out⟩
      · have hr1I : ((R.2 : Int) == 12) = false := by simp; omega
        have HD : Hid (C = (R.1, .unknown)) := by show _ = _; rw [← HC.out, if_neg hr0, if_neg hr1]
        clear hr1 hr0
        go_wp2_with fail
        refine bodyPost_ret (results_tmp2 rfl _ _ _) rfl ?_
        exact ⟨by rw [HD.out]; rfl, HBB.out⟩
end Go.Proofs.Ytmdhlpnieimdaaa
