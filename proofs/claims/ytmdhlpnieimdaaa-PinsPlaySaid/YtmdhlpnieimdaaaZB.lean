/- pdqsort's plain steps at words: sizes, ranges, its tail. -/
import Derived.Test.YtmdhlpnieimdaaaZA
import Derived.Sort.AssemblyPlain
namespace Go.Proofs.Ytmdhlpnieimdaaa
open Go.RowKit
theorem swo_ltN : Sort.SWO ltN where
  irrefl x := by simp [ltN]
  trans x y z h1 h2 := by simp only [ltN, decide_eq_true_eq] at *; omega
  ntrans x y z h1 h2 := by simp only [ltN, decide_eq_false_iff_not] at *; omega
theorem part_rng (d : Array Nat) {a b pv : Nat} (h1 : a ≤ pv) (h2 : pv < b) (h3 : b ≤ d.size) : a ≤ (Sort.partition ltN d a b pv).1 ∧ (Sort.partition ltN d a b pv).1 < b ∧ (Sort.partition ltN d a b pv).2.2.size = d.size := by
  have h := Sort.partition_holds ltN swo_ltN d a b pv h1 h2 h3
  exact ⟨h.1, h.2.1, h.2.2.1.1⟩
theorem break_size (d : Array Nat) {a b : Nat} (h1 : a ≤ b) (h3 : b ≤ d.size) : (Sort.breakPatterns d a b).size = d.size := (Sort.breakPatterns_holds d a b h1 h3).1
theorem rev_size (d : Array Nat) {a b : Nat} (h1 : a ≤ b) (h3 : b ≤ d.size) : (Sort.reverseRange d a b).size = d.size := (Sort.reverseRange_holds d a b h1 h3).1
theorem pivot_rng (d : Array Nat) {a b : Nat} (h : a < b) : a ≤ (Sort.choosePivot ltN d a b).1 ∧ (Sort.choosePivot ltN d a b).1 < b := Sort.choosePivot_holds ltN d a b h
theorem partEq_bd (a : Nat) : ∀ (m i j : Nat) (d : Array Nat), j + 1 - i ≤ m → i ≤ (Sort.partEqLoop ltN a i j d).1 ∧ (Sort.partEqLoop ltN a i j d).1 ≤ max (j + 1) i ∧ (Sort.partEqLoop ltN a i j d).2.size = d.size
  | m, i, j, d, h => by
    obtain ⟨I, hI⟩ : ∃ I, Sort.scanUp (fun x => !ltN d[a]! x) d j i = I := ⟨_, rfl⟩
    obtain ⟨J, hJ⟩ : ∃ J, Sort.scanDown (fun x => ltN d[a]! x) d I j = J := ⟨_, rfl⟩
    rw [partEq_loop hI hJ]
    have h1 := scanUp_bd (fun x => !ltN d[a]! x) d j i
    have h2 := scanDown_bd (fun x => ltN d[a]! x) d I j
    rw [hI] at h1
    rw [hJ] at h2
    by_cases hg : I > J
    · rw [if_pos hg]
      exact ⟨by omega, by omega, rfl⟩
    · rw [if_neg hg]
      cases m with
      | zero => omega
      | succ m =>
        have ih := partEq_bd a m (I + 1) (J - 1) (Sort.swp d I J) (by omega)
        refine ⟨by omega, by omega, ih.2.2.trans (swp_size _ _ _)⟩
theorem partEq_rng (d : Array Nat) {a b pv : Nat} (h2 : a < b) : a < (Sort.partitionEqual ltN d a b pv).1 ∧ (Sort.partitionEqual ltN d a b pv).1 ≤ b ∧ (Sort.partitionEqual ltN d a b pv).2.size = d.size := by
  unfold Sort.partitionEqual
  have h := partEq_bd a _ (a + 1) (b - 1) (Sort.swp d a pv) (Nat.le_refl _)
  rw [swp_size] at h
  omega
theorem pins_size_k (a b : Nat) : ∀ (s i : Nat) (d : Array Nat), (Sort.partialIns ltN a b s i d).1.size = d.size
  | 0, _, _ => rfl
  | s + 1, i, d => by
    rw [Sort.partialIns]
    generalize Sort.scanSorted ltN d b i = I
    simp only
    split
    · rfl
    · split
      · rfl
      · rw [pins_size_k a b s]
        have e1 : (if I - a ≥ 2 then Sort.shiftDown ltN (I - 1) (Sort.swp d I (I - 1)) else Sort.swp d I (I - 1)).size = d.size := by
          split
          · rw [shiftDown_size, swp_size]
          · rw [swp_size]
        split
        · rw [shiftUp_size b _ _ _ (Nat.le_refl _)]; exact e1
        · exact e1
theorem pins_size (d : Array Nat) (a b : Nat) : (Sort.partialInsertionSort ltN d a b).1.size = d.size := pins_size_k a b _ _ _
def pdqTail (a b l pv : Nat) (wb wp : Bool) (d : Array Nat) : Array Nat :=
  if 0 < a ∧ ltN d[a - 1]! d[pv]! = false then Sort.pdq ltN (Sort.partitionEqual ltN d a b pv).2 (Sort.partitionEqual ltN d a b pv).1 b l wb wp
  else if (Sort.partition ltN d a b pv).1 - a < b - (Sort.partition ltN d a b pv).1 then
    Sort.pdq ltN (Sort.pdq ltN (Sort.partition ltN d a b pv).2.2 a (Sort.partition ltN d a b pv).1 l true true) ((Sort.partition ltN d a b pv).1 + 1) b l (decide ((Sort.partition ltN d a b pv).1 - a ≥ (b - a) / 8)) (Sort.partition ltN d a b pv).2.1
  else Sort.pdq ltN (Sort.pdq ltN (Sort.partition ltN d a b pv).2.2 ((Sort.partition ltN d a b pv).1 + 1) b l true true) a (Sort.partition ltN d a b pv).1 l (decide (b - (Sort.partition ltN d a b pv).1 ≥ (b - a) / 8)) (Sort.partition ltN d a b pv).2.1
theorem pdq_small {d : Array Nat} {a b l : Nat} {wb wp : Bool} (h : b - a ≤ 12) : Sort.pdq ltN d a b l wb wp = Sort.insertionSort ltN d a b := by rw [Sort.pdq, if_pos h]
theorem pdq_nil {d : Array Nat} {a b : Nat} {wb wp : Bool} (h : ¬ b - a ≤ 12) : Sort.pdq ltN d a b 0 wb wp = Sort.heapSort ltN d a b := by rw [Sort.pdq, if_neg h, if_pos rfl]
theorem pdq_step {d d1 d2 : Array Nat} {a b l l2 pv : Nat} {wb wp : Bool} {c : Nat × Sort.Hint} {pi : Array Nat × Bool} (h : ¬ b - a ≤ 12) (hl : l ≠ 0) (hb : b ≤ d.size)
    (hd1 : (if wb then d else Sort.breakPatterns d a b) = d1) (hl2 : (if wb then l else l - 1) = l2) (hc : Sort.choosePivot ltN d1 a b = c)
    (hd2 : (if c.2 = .decreasing then Sort.reverseRange d1 a b else d1) = d2) (hpv : (if c.2 = .decreasing then (b - 1) - (c.1 - a) else c.1) = pv)
    (hpi : (if (wb = true ∧ wp = true) ∧ c.2 ≠ .unknown then Sort.partialInsertionSort ltN d2 a b else (d2, false)) = pi) :
    Sort.pdq ltN d a b l wb wp = if pi.2 then pi.1 else pdqTail a b l2 pv wb wp pi.1 := by
  have s1 : d1.size = d.size := by rw [← hd1]; split; rfl; exact break_size d (by omega) hb
  have rc := pivot_rng d1 (show a < b by omega)
  rw [hc] at rc
  have s2 : d2.size = d.size := by rw [← hd2]; split; (rw [rev_size d1 (by omega) (by omega)]; exact s1); exact s1
  have hpb : a ≤ pv ∧ pv < b := by rw [← hpv]; split <;> omega
  have s3 : pi.1.size = d.size := by rw [← hpi]; split; (rw [pins_size]; exact s2); exact s2
  have e1 : (if (!wb) = true then Sort.breakPatterns d a b else d) = d1 := by rw [← hd1]; cases wb <;> rfl
  have e2 : (if (!wb) = true then l - 1 else l) = l2 := by rw [← hl2]; cases wb <;> rfl
  have e3 : (if (wb && wp && decide ((if c.2 = Sort.Hint.decreasing then Sort.Hint.increasing else c.2) = Sort.Hint.increasing)) = true then Sort.partialInsertionSort ltN d2 a b else (d2, false)) = pi := by
    rw [← hpi]
    cases wb <;> cases wp <;> cases hh : c.2 <;> simp
  rw [Sort.pdq, if_neg h, if_neg hl]
  simp only [e1, e2, hc, hd2, hpv, e3]
  clear e1 e2 e3 hd1 hl2 hc hd2 hpv hpi
  by_cases hp : pi.2 = true
  · rw [if_pos hp, if_pos hp]
  rw [if_neg hp, if_neg hp]
  unfold pdqTail
  have q := partEq_rng pi.1 (a := a) (b := b) (pv := pv) (by omega)
  have r := part_rng pi.1 hpb.1 hpb.2 (by omega)
  by_cases hg : 0 < a ∧ ltN pi.1[a - 1]! pi.1[pv]! = false
  · rw [if_pos hg, if_pos (by simp only [gt_iff_lt, hg.1, hg.2, decide_true, Bool.not_false, Bool.and_self])]
    rw [dif_pos ⟨q.1, q.2.1⟩]
  · rw [if_neg hg, if_neg (by simp only [gt_iff_lt, Bool.and_eq_true, decide_eq_true_eq, Bool.not_eq_true']; exact hg)]
    rw [dif_pos ⟨r.1, r.2.1⟩]
theorem pdq_size (d : Array Nat) {a b l : Nat} {wb wp : Bool} (h2 : a ≤ b) (h3 : b ≤ d.size) : ∀ k, b - a ≤ k → (Sort.pdq ltN d a b l wb wp).size = d.size := by
  intro k
  induction k generalizing d a b l wb wp with
  | zero =>
    intro h1
    rw [pdq_small (by omega)]
    exact (Sort.insertionSort_holds swo_ltN d a b h2 h3).1.1
  | succ k ih =>
    intro h1
    by_cases hs : b - a ≤ 12
    · rw [pdq_small hs]; exact (Sort.insertionSort_holds swo_ltN d a b h2 h3).1.1
    by_cases hz : l = 0
    · subst hz; rw [pdq_nil hs]; exact (Sort.heapSort_holds swo_ltN d a b h2 h3).1.1
    rw [pdq_step hs hz h3 rfl rfl rfl rfl rfl rfl]
    generalize hd1 : (if wb = true then d else Sort.breakPatterns d a b) = d1
    have s1 : d1.size = d.size := by rw [← hd1]; split; rfl; exact break_size d (by omega) h3
    have hc := pivot_rng d1 (show a < b by omega)
    generalize Sort.choosePivot ltN d1 a b = c at *
    generalize hd2 : (if c.2 = Sort.Hint.decreasing then Sort.reverseRange d1 a b else d1) = d2
    have s2 : d2.size = d.size := by rw [← hd2]; split; (rw [rev_size d1 h2 (by omega)]; exact s1); exact s1
    generalize hpv : (if c.2 = Sort.Hint.decreasing then b - 1 - (c.1 - a) else c.1) = pv
    have hpb : a ≤ pv ∧ pv < b := by rw [← hpv]; split <;> omega
    generalize hpi : (if (wb = true ∧ wp = true) ∧ c.2 ≠ Sort.Hint.unknown then Sort.partialInsertionSort ltN d2 a b else (d2, false)) = pi
    have s3 : pi.1.size = d.size := by rw [← hpi]; split; (rw [pins_size]; exact s2); exact s2
    generalize (if wb = true then l else l - 1) = l2
    split
    · exact s3
    have q := partEq_rng pi.1 (a := a) (b := b) (pv := pv) (by omega)
    have r := part_rng pi.1 hpb.1 hpb.2 (by omega)
    unfold pdqTail
    split
    · rw [ih _ (by omega) (by omega) (by omega)]; omega
    split
    · have e := ih (Sort.partition ltN pi.1 a b pv).2.2 (a := a) (b := (Sort.partition ltN pi.1 a b pv).1) (l := l2) (wb := true) (wp := true) (by omega) (by omega) (by omega)
      rw [ih _ (by omega) (by omega) (by omega)]; omega
    · have e := ih (Sort.partition ltN pi.1 a b pv).2.2 (a := (Sort.partition ltN pi.1 a b pv).1 + 1) (b := b) (l := l2) (wb := true) (wp := true) (by omega) (by omega) (by omega)
      rw [ih _ (by omega) (by omega) (by omega)]; omega
end Go.Proofs.Ytmdhlpnieimdaaa
