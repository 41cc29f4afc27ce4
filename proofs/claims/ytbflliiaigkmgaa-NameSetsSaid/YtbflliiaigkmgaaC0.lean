/- The plain law of the two sorts: insertion by lessR and core's mergeSort. -/
import Derived.Test.YtbflliiaigkmgaaA3
import Derived.Test.YtbflliiaigkmgaaN2
namespace Go.Proofs.Ytbflliiaigkmgaa

theorem lessR_trans : ∀ (a b c : List UInt8), a.length = b.length → b.length = c.length → lessR a b = true → lessR b c = true → lessR a c = true
  | [], [], _, _, _, h, _ => by simp [lessR] at h
  | x :: a, y :: b, z :: c, h1, h2, h3, h4 => by
    have ih := lessR_trans a b c (by simpa using h1) (by simpa using h2)
    simp only [lessR] at *
    by_cases e1 : x = y
    · subst e1
      by_cases e2 : x = z
      · subst e2; simp_all
      · simp_all
    · by_cases e2 : y = z
      · subst e2; simp_all
      · rw [if_neg e1] at h3; rw [if_neg e2] at h4
        simp only [decide_eq_true_eq] at h3 h4
        rw [if_neg (fun e => by subst e; omega)]
        simp only [decide_eq_true_eq]; omega
theorem lessR_total : ∀ (a b : List UInt8), a.length = b.length → lessR a b = false → lessR b a = false → a = b
  | [], [], _, _, _ => rfl
  | x :: a, y :: b, h, h1, h2 => by
    have ih := lessR_total a b (by simpa using h)
    simp only [lessR] at *
    by_cases e1 : x = y
    · subst e1; simp_all
    · rw [if_neg e1] at h1; rw [if_neg (Ne.symm e1)] at h2
      simp only [decide_eq_false_iff_not] at h1 h2
      exact absurd (UInt8.toNat_inj.1 (by omega)) e1
theorem lessR_asym (a b : List UInt8) (h : a.length = b.length) (h1 : lessR a b = true) : lessR b a = false := by
  cases h2 : lessR b a
  · rfl
  · have := lessR_trans a b a h h.symm h1 h2
    rw [lessR_irrefl] at this; cases this
theorem lessR_ntrans (a b c : List UInt8) (h1 : a.length = b.length) (h2 : b.length = c.length) (h3 : lessR a b = false) (h4 : lessR b c = false) : lessR a c = false := by
  cases h5 : lessR a c
  · rfl
  · cases h6 : lessR b a
    · obtain rfl := lessR_total a b h1 h3 h6
      rw [h5] at h4; cases h4
    · have := lessR_trans b a c h1.symm (h1.trans h2) h6 h5
      rw [h4] at this; cases this

def insAll (ns : List (List UInt8)) : List (List UInt8) := ns.foldl (fun acc n => insL n acc) []

theorem insL_perm (n : List UInt8) : ∀ ns, (insL n ns).Perm (n :: ns)
  | [] => .refl _
  | x :: ns => by
    simp only [insL]
    by_cases h : lessR n x = true
    · rw [if_pos h]
    · rw [if_neg h]
      exact ((insL_perm n ns).cons x).trans (.swap n x ns)
theorem insFold_perm : ∀ (ns acc : List (List UInt8)), (ns.foldl (fun acc n => insL n acc) acc).Perm (ns ++ acc)
  | [], acc => .refl _
  | n :: ns, acc => (insFold_perm ns (insL n acc)).trans (((insL_perm n acc).append_left ns).trans List.perm_middle)
theorem insAll_perm (ns : List (List UInt8)) : (insAll ns).Perm ns := by
  have := insFold_perm ns []
  rwa [List.append_nil] at this

def SortedL (ns : List (List UInt8)) : Prop := ns.Pairwise fun a b => lessR b a = false
theorem insL_sorted (n : List UInt8) (hn : n.length = 12) : ∀ ns, All12 ns → SortedL ns → SortedL (insL n ns)
  | [], _, _ => List.pairwise_singleton _ _
  | x :: ns, h12, h => by
    have hx := h12 x (by simp)
    have hr : All12 ns := fun y hy => h12 y (by simp [hy])
    obtain ⟨h1, h2⟩ := List.pairwise_cons.1 h
    simp only [insL]
    by_cases hl : lessR n x = true
    · rw [if_pos hl]
      refine List.pairwise_cons.2 ⟨fun y hy => ?_, h⟩
      have hxn := lessR_asym n x (hn.trans hx.symm) hl
      rcases List.mem_cons.1 hy with rfl | hy
      · exact hxn
      · exact lessR_ntrans y x n ((hr y hy).trans hx.symm) (hx.trans hn.symm) (h1 y hy) hxn
    · rw [if_neg hl]
      have hl' : lessR n x = false := by simpa using hl
      refine List.pairwise_cons.2 ⟨fun y hy => ?_, insL_sorted n hn ns hr h2⟩
      rcases List.mem_cons.1 ((insL_perm n ns).mem_iff.1 hy) with rfl | hy
      · exact hl'
      · exact h1 y hy
theorem all12_perm {a b : List (List UInt8)} (h : a.Perm b) (hb : All12 b) : All12 a := fun x hx => hb x (h.mem_iff.1 hx)
theorem insFold_sorted : ∀ (ns acc : List (List UInt8)), All12 ns → All12 acc → SortedL acc → SortedL (ns.foldl (fun acc n => insL n acc) acc)
  | [], _, _, _, h => h
  | n :: ns, acc, h1, h2, h => by
    have hn := h1 n (by simp)
    refine insFold_sorted ns _ (fun y hy => h1 y (by simp [hy])) (all12_perm (insL_perm n acc) ?_) (insL_sorted n hn acc h2 h)
    intro y hy
    rcases List.mem_cons.1 hy with rfl | hy
    · exact hn
    · exact h2 y hy
theorem insAll_sorted (ns : List (List UInt8)) (h : All12 ns) : SortedL (insAll ns) := insFold_sorted ns [] h (fun x hx => by simp at hx) .nil

theorem sorted_unique {a b : List (List UInt8)} (h12 : All12 a) (hp : a.Perm b) (ha : SortedL a) (hb : SortedL b) : a = b :=
  hp.eq_of_pairwise (le := fun a b => lessR b a = false) (fun x y hx hy h1 h2 => lessR_total x y ((h12 x hx).trans (h12 y (hp.mem_iff.2 hy)).symm) h2 h1) ha hb
theorem insAll_of_perm {a b : List (List UInt8)} (h12 : All12 a) (hp : a.Perm b) : insAll a = insAll b :=
  sorted_unique (all12_perm (insAll_perm a) h12) (((insAll_perm a).trans hp).trans (insAll_perm b).symm) (insAll_sorted a h12) (insAll_sorted b (all12_perm hp.symm h12))
end Go.Proofs.Ytbflliiaigkmgaa
