/- The plain law of NameSorts: how many kinds a sorted row has. -/
import Derived.Test.YtbflliiaigkmgaaF2
namespace Go.Proofs.Ytbflliiaigkmgaa
open Go.RowKit

theorem insAll_snoc (ns : List (List UInt8)) (n : List UInt8) : insAll (ns ++ [n]) = insL n (insAll ns) := by simp [insAll, List.foldl_append]

def newAt (S : List (List UInt8)) (k : Nat) : Bool := decide (k = 0) || !(S.getD k [] == S.getD (k - 1) [])
def runTo (S : List (List UInt8)) : Nat → List (List UInt8)
  | 0 => []
  | k + 1 => runTo S k ++ if newAt S k then [S.getD k []] else []

theorem runTo_spec (S : List (List UInt8)) (h12 : All12 S) (hs : SortedL S) : ∀ k, k ≤ S.length → (∀ x, x ∈ runTo S k ↔ x ∈ S.take k) ∧ (runTo S k).Nodup
  | 0, _ => by simp [runTo]
  | k + 1, hk => by
    obtain ⟨ih1, ih2⟩ := runTo_spec S h12 hs k (by omega)
    have hk' : k < S.length := by omega
    have hg : S.getD k [] = S[k] := by simp [List.getD, hk']
    rw [take_snoc' S k hk']
    cases hn : newAt S k
    · have : k ≠ 0 ∧ S[k] = S.getD (k - 1) [] := by
        simp only [newAt, Bool.or_eq_false_iff, decide_eq_false_iff_not, Bool.not_eq_false', beq_iff_eq] at hn
        exact ⟨hn.1, by rw [← hg]; exact hn.2⟩
      have hmem : S[k] ∈ S.take k := by
        rw [this.2]
        have hk1 : k - 1 < S.length := by omega
        rw [show S.getD (k - 1) [] = S[k - 1] by simp [List.getD, hk1]]
        refine List.mem_take_iff_getElem.2 ⟨k - 1, by omega, rfl⟩
      simp only [runTo, hn, Bool.false_eq_true, if_false, List.append_nil]
      refine ⟨fun x => ?_, ih2⟩
      rw [ih1 x, List.mem_append, List.mem_singleton]
      exact ⟨.inl, fun h => h.elim id fun e => e ▸ hmem⟩
    · have hnot : S[k] ∉ S.take k := fun hm => by
        obtain ⟨i, hi, he⟩ := List.mem_take_iff_getElem.1 hm
        have hik : i < k := by omega
        have hk1 : k - 1 < S.length := by omega
        have p := List.pairwise_iff_getElem.1 hs
        have q1 : lessR S[k] S[k - 1] = false := p (k - 1) k hk1 hk' (by omega)
        have q2 : lessR S[k - 1] S[k] = false := by
          rw [← he]
          by_cases e : i = k - 1
          · subst e; exact lessR_irrefl _
          · exact p i (k - 1) (by omega) hk1 (by omega)
        have := lessR_total S[k] S[k - 1] ((h12 _ (List.getElem_mem hk')).trans (h12 _ (List.getElem_mem hk1)).symm) q1 q2
        simp only [newAt, Bool.or_eq_true, decide_eq_true_eq, Bool.not_eq_true', beq_eq_false_iff_ne] at hn
        rcases hn with hn | hn
        · omega
        · rw [hg, show S.getD (k - 1) [] = S[k - 1] by simp [List.getD, hk1]] at hn
          exact hn this
      simp only [runTo, hn, if_true, hg]
      refine ⟨fun x => ?_, List.nodup_append.2 ⟨ih2, by simp, fun a ha b hb => ?_⟩⟩
      · rw [List.mem_append, List.mem_append, ih1 x]
      · simp at hb; subst hb
        intro e; subst e
        exact hnot ((ih1 _).1 ha)
theorem runTo_len (S : List (List UInt8)) (k : Nat) : (runTo S (k + 1)).length = (runTo S k).length + if newAt S k then 1 else 0 := by
  cases hn : newAt S k <;> simp [runTo, hn]
theorem runTo_le (S : List (List UInt8)) : ∀ k, (runTo S k).length ≤ k
  | 0 => by simp [runTo]
  | k + 1 => by
    rw [runTo_len]
    have := runTo_le S k
    split <;> omega

/-- The held keys are as many as the kinds. -/
theorem kinds_eq (ns : List (List UInt8)) (h12 : All12 ns) (K : List (List UInt8)) (hK : K.Nodup) (h1 : ∀ x ∈ K, x ∈ ns) (h2 : ∀ x ∈ ns, x ∈ K) : K.length = (runTo (insAll ns) (insAll ns).length).length := by
  obtain ⟨r1, r2⟩ := runTo_spec (insAll ns) (all12_perm (insAll_perm ns) h12) (insAll_sorted ns h12) _ (Nat.le_refl _)
  refine List.Perm.length_eq ((List.perm_ext_iff_of_nodup hK r2).2 fun x => ?_)
  rw [r1 x, List.take_length, (insAll_perm ns).mem_iff]
  exact ⟨h1 x, h2 x⟩

theorem CntIs.size {w : World} {r : Nat} {ns : List (List UInt8)} (h : CntIs w r ns) (h12 : All12 ns) : ∃ l c, w.heap[r]? = some (mObj l c) ∧ l.length = (runTo (insAll ns) (insAll ns).length).length := by
  obtain ⟨l, c, h1, h2, h3, h4, h5⟩ := h
  refine ⟨l, c, h1, ?_⟩
  rw [← kinds_eq ns h12 (l.map Ent.k) h4 (fun x hx => by obtain ⟨e, he, rfl⟩ := List.mem_map.1 hx; exact (h2 e he).2.2.2) h5]
  simp
end Go.Proofs.Ytbflliiaigkmgaa
