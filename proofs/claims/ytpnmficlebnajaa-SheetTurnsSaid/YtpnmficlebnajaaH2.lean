/- A map of texts by names: update, delete, a new one. -/
import Derived.Test.YtpnmficlebnajaaH1
namespace Go.Proofs.Ytpnmficlebnajaa
open Go.RowKit

theorem putM_new : ∀ {m : TM} {k : List UInt8} (v : ByteArray), (∀ x ∈ m, x.1 ≠ k) → putM m k v = m ++ [(k, v)]
  | [], _, _, _ => rfl
  | x :: m, k, v, h => by
    unfold putM
    rw [if_neg (h x (by simp)), putM_new v fun y hy => h y (by simp [hy])]
    rfl
theorem putM_old : ∀ {l : List ME} {k : List UInt8} (v : ByteArray) {j : Nat} (hj : j < l.length), l[j].k = k → (l.map ME.k).Nodup → putM (l.map ME.p) k v = (l.modify j fun e => { e with v := v }).map ME.p
  | [], _, _, j, hj, _, _ => by simp at hj
  | e :: l, k, v, 0, _, hk, _ => by
    have hk : e.k = k := hk
    simp only [List.map_cons, putM, ME.p]
    rw [if_pos hk]
    simp [List.modify_cons, ME.p, hk]
  | e :: l, k, v, j + 1, hj, hk, hn => by
    have hj' : j < l.length := by simpa using hj
    have hk : l[j].k = k := hk
    rw [List.map_cons, List.nodup_cons] at hn
    have hne : ¬ e.k = k := fun h => hn.1 (by rw [h, ← hk]; exact List.mem_map.2 ⟨_, List.getElem_mem _, rfl⟩)
    simp only [List.map_cons, putM, ME.p]
    rw [if_neg hne]
    have := putM_old v (by simpa using hj) hk hn.2
    simp only [List.modify_succ_cons, List.map_cons]
    rw [this]
    rfl
theorem map_modM (l : List ME) (j : Nat) (v : ByteArray) (k : List UInt8) (hk : ∀ h : j < l.length, l[j].k = k) : (l.modify j fun e => { e with v := v }).map ME.e = (l.map ME.e).modify j fun e => { e with key := .agg (bC k), val := .string v } := by
  apply List.ext_getElem?
  intro i
  rw [List.getElem?_map, List.getElem?_modify, List.getElem?_modify, List.getElem?_map]
  cases hi : l[i]? with
  | none => rfl
  | some x =>
    by_cases h : j = i
    · subst h
      obtain ⟨hj, hx⟩ := List.getElem?_eq_some_iff.1 hi
      have := hk hj
      rw [hx] at this
      simp [ME.e, this]
    · simp [h, ME.e]
theorem same_all (n : Nat) : ∀ l : List Value, (∀ x ∈ l, Instr.sameBits n x x = true) → ((l.zip l).all fun (x, y) => Instr.sameBits n x y) = true
  | [], _ => rfl
  | x :: l, h => by
    rw [List.zip_cons_cons, List.all_cons, same_all n l fun y hy => h y (by simp [hy])]
    simp [h x (by simp)]
theorem same_bits (k : List UInt8) : Instr.sameBits 10000 (.agg (bC k)) (.agg (bC k)) = true := by
  show ((bC k).size == (bC k).size && _) = true
  rw [beq_self_eq_true, Bool.true_and]
  refine same_all 9999 (bC k).toList fun x hx => ?_
  simp only [bC, List.mem_map] at hx
  obtain ⟨b, _, rfl⟩ := hx
  simp [Instr.sameBits]
theorem run_stays (w : World) (k : List UInt8) : (Instr.keyThatStays (.agg (bC k)) (.agg (bC k))).run Try.prog w = .ok (.agg (bC k)) w := by
  simp [Instr.keyThatStays, same_bits]
theorem MapIs.put {w : World} {r : Nat} {m : TM} (h : MapIs w r m) (k : List UInt8) (v : ByteArray) (hk : k.length = 12) :
    ∃ o, (Instr.mapUpdate 84 (.map (some r)) (.agg (bC k)) (.string v)).run Try.prog w = .ok () (putB w r o) ∧ MapIs (putB w r o) r (putM m k v) := by
  obtain ⟨l, c, hr, rfl, h12, hp, hn⟩ := h
  have hg : (getObj r).run Try.prog w = .ok (mObj l c) w := by simp [getObj, Sem.run, hr, mObj]
  have hput : ∀ o, (putB w r o).heap[r]? = some o := fun o => by
    have := lt_heap hr
    simp [putB, this]
  rcases findM_spec (k := k) l 0 with ⟨e1, e2⟩ | ⟨j, hj, e1, e2⟩
  · refine ⟨mObj (l ++ [⟨k, v, c⟩]) (c + 1), ?_, l ++ [⟨k, v, c⟩], c + 1, hput _, ?_, ?_, ?_, ?_⟩
    · simp only [Instr.mapUpdate, Sem.run_bind, run_underlying Try.underlying84, Result.andThen_ok, hg, mObj, Sem.run_pure, run_checkKeyN _ 9998 w k hk, run_findKeyN w k hk l (fun e he => (h12 e he).1), e1]
      rw [MapKept.run_setObj_map _ hr]
      simp [ME.e, putB]
    · rw [List.map_append, putM_new v (fun x hx => by
        obtain ⟨e, he, rfl⟩ := List.mem_map.1 hx
        exact e2 e he)]
      rfl
    · intro e he
      rcases List.mem_append.1 he with he | he
      · exact ⟨(h12 e he).1, by have := (h12 e he).2; omega⟩
      · simp only [List.mem_singleton] at he
        subst he
        exact ⟨hk, by simp⟩
    · rw [List.map_append, List.pairwise_append]
      refine ⟨hp, by simp, fun a ha b hb => ?_⟩
      obtain ⟨e, he, rfl⟩ := List.mem_map.1 ha
      simp at hb
      subst hb
      exact (h12 e he).2
    · rw [List.map_append, List.nodup_append]
      refine ⟨hn, by simp, fun a ha b hb => ?_⟩
      obtain ⟨e, he, rfl⟩ := List.mem_map.1 ha
      simp at hb
      subst hb
      exact e2 e he
  · rw [Nat.zero_add] at e1
    have hek : (((l.map ME.e).toArray[j]?).map (·.key)).getD (.agg (bC k)) = .agg (bC k) := by
      have he : ((l.map ME.e).toArray[j]?) = some l[j].e := by simp [hj]
      rw [he]; show Value.agg (bC l[j].k) = _; rw [e2]
    have hb : (l.modify j fun e => { e with v := v }).map ME.b = l.map ME.b := by
      apply List.ext_getElem?
      intro i
      rw [List.getElem?_map, List.getElem?_modify, List.getElem?_map]
      cases l[i]? with
      | none => rfl
      | some x => by_cases h : j = i <;> simp [h]
    have hkk : (l.modify j fun e => { e with v := v }).map ME.k = l.map ME.k := by
      apply List.ext_getElem?
      intro i
      rw [List.getElem?_map, List.getElem?_modify, List.getElem?_map]
      cases l[i]? with
      | none => rfl
      | some x => by_cases h : j = i <;> simp [h]
    refine ⟨mObj (l.modify j fun e => { e with v := v }) c, ?_, l.modify j fun e => { e with v := v }, c, hput _, (putM_old v hj e2 hn).symm, ?_, by rw [hb]; exact hp, by rw [hkk]; exact hn⟩
    · simp only [Instr.mapUpdate, Sem.run_bind, run_underlying Try.underlying84, Result.andThen_ok, hg, mObj, Sem.run_pure, run_checkKeyN _ 9998 w k hk, run_findKeyN w k hk l (fun e he => (h12 e he).1), e1, hek, run_stays]
      rw [MapKept.run_setObj_map _ hr]
      rw [map_modM l j v k (fun _ => e2)]
      simp [putB]
    · intro e he
      obtain ⟨i, hi, rfl⟩ := List.getElem_of_mem he
      rw [List.length_modify] at hi
      have h0 := h12 l[i] (List.getElem_mem hi)
      rw [List.getElem_modify]
      split
      · exact h0
      · exact h0
theorem erase_M {k : List UInt8} : ∀ {l : List ME} {j : Nat} (hj : j < l.length), l[j].k = k → (l.map ME.k).Nodup → delM (l.map ME.p) k = (l.eraseIdx j).map ME.p
  | [], j, hj, _, _ => by simp at hj
  | e :: l, 0, _, hk, hn => by
    have hk : e.k = k := hk
    rw [List.map_cons, List.nodup_cons] at hn
    unfold delM
    rw [List.map_cons, List.filter_cons_of_neg (by simp [ME.p, hk]), List.filter_eq_self.2]
    · rfl
    · intro x hx
      obtain ⟨y, hy, rfl⟩ := List.mem_map.1 hx
      have : y.k ≠ k := fun h => hn.1 (by rw [hk, ← h]; exact List.mem_map.2 ⟨y, hy, rfl⟩)
      simpa [ME.p] using this
  | e :: l, j + 1, hj, hk, hn => by
    have hj' : j < l.length := by simpa using hj
    have hk : l[j].k = k := hk
    rw [List.map_cons, List.nodup_cons] at hn
    have hne : ¬ e.k = k := fun h => hn.1 (by rw [h, ← hk]; exact List.mem_map.2 ⟨_, List.getElem_mem _, rfl⟩)
    have ih := erase_M hj' hk hn.2
    unfold delM at ih ⊢
    rw [List.map_cons, List.filter_cons_of_pos (by simpa [ME.p] using hne), ih]
    rfl
theorem del_not {l : List ME} {k : List UInt8} (h : ∀ e ∈ l, e.k ≠ k) : delM (l.map ME.p) k = l.map ME.p := by
  unfold delM
  rw [List.filter_eq_self]
  intro x hx
  obtain ⟨y, hy, rfl⟩ := List.mem_map.1 hx
  simpa [ME.p] using h y hy
theorem eraseIdx_mapM (l : List ME) (j : Nat) : (l.eraseIdx j).map ME.e = (l.map ME.e).eraseIdx j := by
  rw [List.eraseIdx_eq_take_drop_succ, List.eraseIdx_eq_take_drop_succ, List.map_append, List.map_take, List.map_drop]
/-- A key that is there is taken away. -/
theorem MapIs.del {w : World} {r : Nat} {m : TM} (h : MapIs w r m) (k : List UInt8) (hk : k.length = 12) (hs : (getM m k).isSome = true) :
    ∃ o, (∀ t, (Builtin.delete_ #[84, 40] t #[.map (some r), .agg (bC k)]).run Try.prog w = .ok (.tuple #[]) (putB w r o)) ∧ MapIs (putB w r o) r (delM m k) := by
  obtain ⟨l, c, hr, rfl, h12, hp, hn⟩ := h
  have hg : (getObj r).run Try.prog w = .ok (mObj l c) w := by simp [getObj, Sem.run, hr, mObj]
  rcases findM_spec (k := k) l 0 with ⟨e1, e2⟩ | ⟨j, hj, e1, e2⟩
  · rw [get_not e2] at hs; cases hs
  · rw [Nat.zero_add] at e1
    refine ⟨mObj (l.eraseIdx j) c, fun t => ?_, l.eraseIdx j, c, putB_same _ _ _ _ hr, (erase_M hj e2 hn).symm, fun e he => h12 e (List.mem_of_mem_eraseIdx he), ?_, ?_⟩
    · simp only [Builtin.delete_]
      have hh : (setObj r (.map ((l.map ME.e).eraseIdx j).toArray c)).run Try.prog w = .ok () (putB w r (mObj (l.eraseIdx j) c)) := by
        rw [MapKept.run_setObj_map _ hr, mObj, eraseIdx_mapM]; rfl
      simp [Sem.run_bind, run_underlying Try.underlying84, hg, mObj, run_checkKeyN _ 9998 w k hk, run_findKeyN w k hk l (fun e he => (h12 e he).1), e1]
      rw [hh]
      rfl
    · exact hp.sublist ((List.eraseIdx_sublist l j).map ME.b)
    · exact hn.sublist ((List.eraseIdx_sublist l j).map ME.k)
/-- A new map. -/
theorem mapIs_new (w : World) : MapIs (w.alloc (.map #[] 0)) w.heap.size [] := ⟨[], 0, heap_alloc_new _ _, rfl, fun e he => (by cases he), List.Pairwise.nil, List.nodup_nil⟩
end Go.Proofs.Ytpnmficlebnajaa
