/- The map of counts as a function. -/
import Derived.Test.YtmdhlpnieimdaaaM1
namespace Go.Proofs.Ytmdhlpnieimdaaa
open Go.RowKit

/-- Block r is a map that gives f; its keys, in the order in which they came, are K. -/
def CntN (w : World) (r : Nat) (f : Nat → Nat) (K : List Nat) : Prop :=
  ∃ l c, w.heap[r]? = some (mObjN l c) ∧ l.map EntN.k = K ∧ (∀ e ∈ l, e.b < c ∧ e.n = f e.k) ∧ (l.map EntN.b).Pairwise (· < ·) ∧ K.Nodup ∧ ∀ k, f k ≠ 0 → k ∈ K

theorem CntN.block {w w' : World} {r : Nat} {f : Nat → Nat} {K : List Nat} (h : CntN w r f K) (he : w'.heap[r]? = w.heap[r]?) : CntN w' r f K := by
  obtain ⟨l, c, h1, h2⟩ := h; exact ⟨l, c, he.trans h1, h2⟩
theorem CntN.look {w : World} {r : Nat} {f : Nat → Nat} {K : List Nat} (h : CntN w r f K) (k : Nat) :
    (Instr.lookup 25 (.map (some r)) (.int .u64 k) false).run Try.prog w = .ok (.int .i64 (f k)) w := by
  obtain ⟨l, c, h1, h2, h3, h4, h5, h6⟩ := h
  rw [run_lookupN w r l c k h1]
  rcases findN_spec (k := k) l 0 with ⟨e1, e2⟩ | ⟨j, hj, e1, e2⟩
  · have : f k = 0 := by
      rcases Nat.eq_zero_or_pos (f k) with h | h
      · exact h
      · have hm := h6 k (by omega)
        rw [← h2] at hm
        obtain ⟨e, he, hek⟩ := List.mem_map.1 hm
        exact absurd hek (e2 e he)
    rw [e1, this]; rfl
  · rw [e1]
    have := (h3 l[j] (List.getElem_mem hj)).2
    simp [this, e2]
theorem putB_same (w : World) (r : Nat) (o o' : Obj) (h : w.heap[r]? = some o') : (putB w r o).heap[r]? = some o := by
  have : r < w.heap.size := by
    rcases Nat.lt_or_ge r w.heap.size with h' | h'
    · exact h'
    · simp [Array.getElem?_eq_none h'] at h
  simp [putB, Array.getElem?_setIfInBounds, this]
theorem CntN.update {w : World} {r : Nat} {f : Nat → Nat} {K : List Nat} (h : CntN w r f K) (k n : Nat) :
    ∃ o, (Instr.mapUpdate 25 (.map (some r)) (.int .u64 k) (.int .i64 n)).run Try.prog w = .ok () (putB w r o) ∧ CntN (putB w r o) r (fun x => if x = k then n else f x) (if k ∈ K then K else K ++ [k]) := by
  obtain ⟨l, c, h1, h2, h3, h4, h5, h6⟩ := h
  rcases findN_spec (k := k) l 0 with ⟨e1, e2⟩ | ⟨j, hj, e1, e2⟩
  · have hk : k ∉ K := fun hm => by
      rw [← h2] at hm
      obtain ⟨e, he, hek⟩ := List.mem_map.1 hm
      exact e2 e he hek
    rw [if_neg hk]
    refine ⟨_, run_updateN_new w r l c k n e2 h1, l ++ [⟨k, n, c⟩], c + 1, putB_same _ _ _ _ h1, by simp [h2], fun e he => ?_, ?_, ?_, fun x hx => ?_⟩
    · rcases List.mem_append.1 he with he | he
      · have := h3 e he
        exact ⟨by omega, by simp only [if_neg (e2 e he)]; exact this.2⟩
      · simp at he; subst he; simp
    · rw [List.map_append, List.pairwise_append]
      refine ⟨h4, by simp, fun a ha b hb => ?_⟩
      obtain ⟨e, he, rfl⟩ := List.mem_map.1 ha
      simp at hb; subst hb
      exact (h3 e he).1
    · exact List.nodup_append.2 ⟨h5, by simp, fun a ha b hb e => by simp at hb; subst hb; subst e; exact hk ha⟩
    · by_cases e : x = k
      · subst e; simp
      · simp only [if_neg e] at hx; exact List.mem_append.2 (.inl (h6 x hx))
  · rw [Nat.zero_add] at e1
    have hk : k ∈ K := by rw [← h2, ← e2]; exact List.mem_map.2 ⟨l[j], List.getElem_mem hj, rfl⟩
    rw [if_pos hk]
    have hkm : ((l.modify j fun e => { e with n := n }).map EntN.k) = l.map EntN.k := by
      apply List.ext_getElem?
      intro i
      rw [List.getElem?_map, List.getElem?_modify, List.getElem?_map]
      cases l[i]? with
      | none => rfl
      | some x => by_cases h : j = i <;> simp [h]
    have hbm : ((l.modify j fun e => { e with n := n }).map EntN.b) = l.map EntN.b := by
      apply List.ext_getElem?
      intro i
      rw [List.getElem?_map, List.getElem?_modify, List.getElem?_map]
      cases l[i]? with
      | none => rfl
      | some x => by_cases h : j = i <;> simp [h]
    refine ⟨_, run_updateN_old w r l c k n j hj e1 e2 h1, _, c, putB_same _ _ _ _ h1, by rw [hkm]; exact h2, fun e he => ?_, by rw [hbm]; exact h4, h5, fun x hx => ?_⟩
    · obtain ⟨i, hi, rfl⟩ := List.mem_iff_getElem.1 he
      have hi' : i < l.length := by simpa using hi
      have q := h3 l[i] (List.getElem_mem hi')
      rw [List.getElem_modify]
      by_cases hji : j = i
      · subst hji; rw [if_pos rfl]
        exact ⟨q.1, by simp only [if_pos e2]⟩
      · rw [if_neg hji]
        refine ⟨q.1, ?_⟩
        have hne : l[i].k ≠ k := fun e => by
          have hnd : (l.map EntN.k).Nodup := by rw [h2]; exact h5
          have hp := List.pairwise_iff_getElem.1 hnd
          rcases Nat.lt_or_gt_of_ne hji with hlt | hgt
          · have := hp j i (by simpa using hj) (by simpa using hi') hlt
            simp at this; exact this (e2.trans e.symm)
          · have := hp i j (by simpa using hi') (by simpa using hj) hgt
            simp at this; exact this (e.trans e2.symm)
        simp only [if_neg hne]; exact q.2
    · by_cases e : x = k
      · subst e; exact hk
      · simp only [if_neg e] at hx; exact h6 x hx
end Go.Proofs.Ytmdhlpnieimdaaa
