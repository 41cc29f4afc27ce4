/- A map of counts: its look-up, its entry, its store. -/
import Derived.Test.YtbflliiaigkmgaaC2
import Derived.WideKeyEntry
import Derived.Maps.RangeRun
namespace Go.Proofs.Ytbflliiaigkmgaa
open Go.RowKit

/-- Block r is the map of how often each of ns stands there. -/
def CntIs (w : World) (r : Nat) (ns : List (List UInt8)) : Prop :=
  ∃ l c, w.heap[r]? = some (mObj l c) ∧ (∀ e ∈ l, e.k.length = 12 ∧ e.b < c ∧ e.v = .int .i64 (ns.count e.k : Nat) ∧ e.k ∈ ns) ∧ (l.map Ent.b).Nodup ∧ (l.map Ent.k).Nodup ∧ ∀ n ∈ ns, n ∈ l.map Ent.k

theorem findL_spec {k : List UInt8} : ∀ (l : List Ent) (i : Nat), (findL k l i = none ∧ ∀ e ∈ l, e.k ≠ k) ∨ ∃ (j : Nat) (h : j < l.length), findL k l i = some (i + j, l[j].v) ∧ l[j].k = k
  | [], _ => .inl ⟨rfl, by simp⟩
  | e :: l, i => by
    by_cases h : k == e.k
    · exact .inr ⟨0, by simp, by simp [findL, h], (by simpa using h : k = e.k).symm⟩
    · rcases findL_spec (k := k) l (i + 1) with ⟨h1, h2⟩ | ⟨j, hj, h1, h2⟩
      · refine .inl ⟨by simp [findL, h, h1], ?_⟩
        intro x hx
        rcases List.mem_cons.1 hx with rfl | hx
        · intro e'; subst e'; simp at h
        · exact h2 x hx
      · exact .inr ⟨j + 1, by simpa using hj, by simp [findL, h, h1]; omega, by simpa using h2⟩

theorem run_lookup49 (w : World) (r : Nat) (l : List Ent) (c : Nat) (k : List UInt8) (hk : k.length = 12) (h : ∀ e ∈ l, e.k.length = 12) (hr : w.heap[r]? = some (mObj l c)) :
    (Instr.lookup 49 (.map (some r)) (.agg (bC k)) false).run Try.prog w = .ok (((findL k l 0).map (·.2)).getD (.int .i64 0)) w := by
  have hz : ∀ w, (zeroValue 3).run Try.prog w = .ok (.int .i64 0) w := fun w => by kernel_rfl
  have hg : (getObj r).run Try.prog w = .ok (mObj l c) w := by simp [getObj, Sem.run, hr, mObj]
  simp only [Instr.lookup, Sem.run_bind, run_underlying Try.underlying49, Result.andThen_ok, hg, mObj, Sem.run_pure, run_checkKey23 _ 9998 w k hk, run_findKey23 w k hk l h]
  cases findL k l 0 <;> simp [hz]

theorem CntIs.look {w : World} {r : Nat} {ns : List (List UInt8)} (h : CntIs w r ns) (k : List UInt8) (hk : k.length = 12) :
    (Instr.lookup 49 (.map (some r)) (.agg (bC k)) false).run Try.prog w = .ok (.int .i64 (ns.count k : Nat)) w := by
  obtain ⟨l, c, h1, h2, h3, h4, h5⟩ := h
  rw [run_lookup49 w r l c k hk (fun e he => (h2 e he).1) h1]
  rcases findL_spec (k := k) l 0 with ⟨e1, e2⟩ | ⟨j, hj, e1, e2⟩
  · rw [e1]
    have : ns.count k = 0 := List.count_eq_zero.2 fun hm => by
      obtain ⟨e, he, hek⟩ := List.mem_map.1 (h5 k hm)
      exact e2 e he hek
    rw [this]; rfl
  · rw [e1]
    have := (h2 l[j] (List.getElem_mem hj)).2.2.1
    simp only [Option.map_some, Option.getD_some, this, e2]

theorem same_all (n : Nat) : ∀ l : List Value, (∀ x ∈ l, Instr.sameBits n x x = true) → ((l.zip l).all fun (x, y) => Instr.sameBits n x y) = true
  | [], _ => rfl
  | x :: l, h => by
    rw [List.zip_cons_cons, List.all_cons, same_all n l fun y hy => h y (by simp [hy])]
    simp [h x (by simp)]
theorem same_bits (k : List UInt8) : Instr.sameBits 10000 (.agg (bC k)) (.agg (bC k)) = true := by
  show ((bC k).size == (bC k).size && _) = true
  rw [beq_self_eq_true, Bool.true_and]
  refine same_all 9999 (bC k).toList fun x hx => ?_
  simp only [bC, List.mem_map] at hx
  obtain ⟨b, _, rfl⟩ := hx
  simp [Instr.sameBits]
theorem map_mod (l : List Ent) (j : Nat) (v : Value) : (l.modify j fun e => { e with v := v }).map Ent.e = (l.map Ent.e).modify j fun e => { e with val := v } := by
  apply List.ext_getElem?
  intro i
  rw [List.getElem?_map, List.getElem?_modify, List.getElem?_modify, List.getElem?_map]
  cases l[i]? with
  | none => rfl
  | some x => by_cases h : j = i <;> simp [h, Ent.e]
theorem run_stays (w : World) (k : List UInt8) : (Instr.keyThatStays (.agg (bC k)) (.agg (bC k))).run Try.prog w = .ok (.agg (bC k)) w := by
  simp [Instr.keyThatStays, same_bits]

theorem idx_born (l : List Ent) (j : Nat) (hj : j < l.length) (hn : (l.map Ent.b).Nodup) : (l.map Ent.e).toArray.findIdx? (fun e => ((e.born : Nat) : Int) == ((l[j].b : Nat) : Int)) = some j := by
  rw [WideElems.findIdx_arr, List.toList_toArray]
  have := WideElems.findIdx_born (l := l.map Ent.e) (by rw [List.map_map]; exact hn) (j := j) (e0 := l[j].e) (by simp [hj])
  exact this
theorem run_store49 (w : World) (r : Nat) (l : List Ent) (c j : Nat) (hj : j < l.length) (hn : (l.map Ent.b).Nodup) (hr : w.heap[r]? = some (mObj l c)) (v : Value) :
    (Instr.entryStore 49 (.map (some r)) (.int .i64 (l[j].b : Nat)) v).run Try.prog w = .ok () (putO w r (mObj (l.modify j fun e => { e with v := v }) c)) := by
  have hg : (getObj r).run Try.prog w = .ok (mObj l c) w := by simp [getObj, Sem.run, hr, mObj]
  simp only [Instr.entryStore, Sem.run_bind, hg, mObj, Result.andThen_ok, asInt, asIntOf, Sem.run_pure, idx_born l j hj hn]
  rw [MapKept.run_setObj_map _ hr]
  simp [putO, map_mod]
theorem run_entry49_new (w : World) (r : Nat) (l : List Ent) (c : Nat) (k : List UInt8) (hk : k.length = 12) (h : ∀ e ∈ l, e.k.length = 12) (hn : ∀ e ∈ l, e.k ≠ k) (hr : w.heap[r]? = some (mObj l c)) :
    (Instr.mapEntry 49 (.map (some r)) (.agg (bC k))).run Try.prog w = .ok (.tuple #[.int .i64 0, .int .i64 (c : Nat)]) (putO w r (mObj (l ++ [⟨k, .int .i64 0, c⟩]) (c + 1))) := by
  have hz : ∀ w, (zeroValue 3).run Try.prog w = .ok (.int .i64 0) w := fun w => by kernel_rfl
  have hg : (getObj r).run Try.prog w = .ok (mObj l c) w := by simp [getObj, Sem.run, hr, mObj]
  simp only [Instr.mapEntry, Sem.run_bind, run_underlying Try.underlying49, Result.andThen_ok, hg, mObj, Sem.run_pure, run_checkKey23 _ 9998 w k hk, run_findKey23 w k hk l h, findL_none hn, hz]
  rw [MapKept.run_setObj_map _ hr]
  simp [mObj, Ent.e, putO, goInt, Result.andThen]
theorem run_entry49_old (w : World) (r : Nat) (l : List Ent) (c j : Nat) (k : List UInt8) (hk : k.length = 12) (h : ∀ e ∈ l, e.k.length = 12) (hj : j < l.length) (hf : findL k l 0 = some (j, l[j].v)) (hkj : l[j].k = k) (hr : w.heap[r]? = some (mObj l c)) :
    (Instr.mapEntry 49 (.map (some r)) (.agg (bC k))).run Try.prog w = .ok (.tuple #[l[j].v, .int .i64 (l[j].b : Nat)]) (putO w r (mObj l c)) := by
  have hg : (getObj r).run Try.prog w = .ok (mObj l c) w := by simp [getObj, Sem.run, hr, mObj]
  have he : ((l.map Ent.e).toArray[j]?) = some l[j].e := by simp [hj]
  have hek : l[j].e.key = .agg (bC k) := by rw [← hkj]; rfl
  have hsame : (l.map Ent.e).toArray.modify j (fun e => { e with key := .agg (bC k) }) = (l.map Ent.e).toArray := by
    apply Array.ext_getElem?
    intro i
    rw [Array.getElem?_modify]
    by_cases hi : j = i
    · subst hi; rw [if_pos rfl, he]
      rw [← hek]; rfl
    · rw [if_neg hi]
  simp only [Instr.mapEntry, Sem.run_bind, run_underlying Try.underlying49, Result.andThen_ok, hg, mObj, Sem.run_pure, run_checkKey23 _ 9998 w k hk, run_findKey23 w k hk l h, hf, he, Option.map_some, Option.getD_some, hek, run_stays, hsame]
  rw [MapKept.run_setObj_map _ hr]
  simp [mObj, putO, goInt, Result.andThen, Ent.e]

/-- 'm[k]++': the entry, and the store into it: in whatever order with the look-up. -/
theorem CntIs.entry {w : World} {r : Nat} {ns : List (List UInt8)} (h : CntIs w r ns) (k : List UInt8) (hk : k.length = 12) :
    ∃ (v0 : Value) (st : Nat) (o1 o2 : Obj),
      ((Instr.mapEntry 49 (.map (some r)) (.agg (bC k))).run Try.prog w = .ok (.tuple #[v0, .int .i64 st]) (putO w r o1)) ∧
      ((Instr.lookup 49 (.map (some r)) (.agg (bC k)) false).run Try.prog (putO w r o1) = .ok (.int .i64 (ns.count k : Nat)) (putO w r o1)) ∧
      ((Instr.entryStore 49 (.map (some r)) (.int .i64 st) (.int .i64 ((ns.count k : Nat) + 1))).run Try.prog (putO w r o1) = .ok () (putO w r o2)) ∧
      CntIs (putO w r o2) r (ns ++ [k]) := by
  obtain ⟨l, c, h1, h2, h3, h4, h5⟩ := h
  have hz : ∀ w, (zeroValue 3).run Try.prog w = .ok (.int .i64 0) w := fun w => by kernel_rfl
  have hg : (getObj r).run Try.prog w = .ok (mObj l c) w := by simp [getObj, Sem.run, h1, mObj]
  have h12 : ∀ e ∈ l, e.k.length = 12 := fun e he => (h2 e he).1
  have hpp : ∀ o1 o2, putO (putO w r o1) r o2 = putO w r o2 := fun o1 o2 => by simp [putO]
  have hcn : ∀ x, (ns ++ [k]).count x = ns.count x + if k == x then 1 else 0 := fun x => by
    rw [List.count_append, List.count_cons, List.count_nil, Nat.zero_add]
  rcases findL_spec (k := k) l 0 with ⟨e1, e2⟩ | ⟨j, hj, e1, e2⟩
  · have hk0 : ns.count k = 0 := List.count_eq_zero.2 fun hm => by
      obtain ⟨e, he, hek⟩ := List.mem_map.1 (h5 k hm)
      exact e2 e he hek
    have hkn : k ∉ ns := List.count_eq_zero.1 hk0
    have hn : ((l ++ [(⟨k, .int .i64 0, c⟩ : Ent)]).map Ent.b).Nodup := by
      rw [List.map_append]
      refine List.nodup_append.2 ⟨h3, by simp, fun a ha b hb => ?_⟩
      obtain ⟨e, he, rfl⟩ := List.mem_map.1 ha
      simp at hb; subst hb
      have := (h2 e he).2.1; omega
    have h12' : ∀ e ∈ l ++ [(⟨k, .int .i64 0, c⟩ : Ent)], e.k.length = 12 := fun e he => by
      rcases List.mem_append.1 he with he | he
      · exact h12 e he
      · simp at he; subst he; exact hk
    have hmod : (l ++ [(⟨k, .int .i64 0, c⟩ : Ent)]).modify l.length (fun e => { e with v := .int .i64 1 }) = l ++ [⟨k, .int .i64 1, c⟩] := by
      have := WideElems.modify_last (fun e : Ent => { e with v := .int .i64 1 }) ⟨k, .int .i64 0, c⟩ l
      exact this
    refine ⟨.int .i64 0, c, mObj (l ++ [⟨k, .int .i64 0, c⟩]) (c + 1), mObj (l ++ [⟨k, .int .i64 1, c⟩]) (c + 1), run_entry49_new _ r l c k hk h12 e2 h1, ?_, ?_, ?_⟩
    · rw [run_lookup49 _ r _ (c + 1) k hk h12' (putO_same _ _ _ _ h1), hk0]
      rcases findL_spec (k := k) (l ++ [(⟨k, .int .i64 0, c⟩ : Ent)]) 0 with ⟨f1, f2⟩ | ⟨j, hj, f1, f2⟩
      · rw [f1]; rfl
      · rw [f1]
        have : (l ++ [(⟨k, .int .i64 0, c⟩ : Ent)])[j].v = .int .i64 0 := by
          by_cases hjl : j < l.length
          · rw [List.getElem_append_left hjl] at f2
            exact absurd f2 (e2 _ (List.getElem_mem hjl))
          · rw [List.getElem_append_right (by omega)]; simp
        simp only [Option.map_some, Option.getD_some, this]; rfl
    · have := run_store49 (putO w r (mObj (l ++ [⟨k, .int .i64 0, c⟩]) (c + 1))) r (l ++ [⟨k, .int .i64 0, c⟩]) (c + 1) l.length (by simp) hn (putO_same _ _ _ _ h1) (.int .i64 1)
      rw [hmod, hpp] at this
      rw [hk0]
      simpa using this
    · refine ⟨l ++ [⟨k, .int .i64 1, c⟩], c + 1, putO_same _ _ _ _ h1, fun e he => ?_, ?_, ?_, ?_⟩
      · rcases List.mem_append.1 he with he | he
        · obtain ⟨q1, q2, q3, q4⟩ := h2 e he
          have : (k == e.k) = false := by simpa using fun e' : k = e.k => e2 e he e'.symm
          refine ⟨q1, by omega, ?_, by simp [q4]⟩
          rw [hcn, this]; simpa using q3
        · simp at he; subst he
          refine ⟨hk, by simp, ?_, by simp⟩
          rw [hcn, hk0]; simp
      · simpa using hn
      · rw [List.map_append]
        refine List.nodup_append.2 ⟨h4, by simp, fun a ha b hb => ?_⟩
        obtain ⟨e, he, rfl⟩ := List.mem_map.1 ha
        simp at hb; subst hb
        exact e2 e he
      · intro n hn
        rw [List.map_append]
        rcases List.mem_append.1 hn with hn | hn
        · exact List.mem_append.2 (.inl (h5 n hn))
        · simp at hn; subst hn; simp
  · have hv : l[j].v = .int .i64 (ns.count k : Nat) := by rw [(h2 l[j] (List.getElem_mem hj)).2.2.1, e2]
    have hkm : k ∈ ns := by rw [← e2]; exact (h2 l[j] (List.getElem_mem hj)).2.2.2
    rw [Nat.zero_add] at e1
    have hbm : ((l.modify j fun e => { e with v := .int .i64 ((ns.count k : Nat) + 1) }).map Ent.b) = l.map Ent.b := by
      apply List.ext_getElem?
      intro i
      rw [List.getElem?_map, List.getElem?_modify, List.getElem?_map]
      cases l[i]? with
      | none => rfl
      | some x => by_cases h : j = i <;> simp [h]
    have hkmm : ((l.modify j fun e => { e with v := .int .i64 ((ns.count k : Nat) + 1) }).map Ent.k) = l.map Ent.k := by
      apply List.ext_getElem?
      intro i
      rw [List.getElem?_map, List.getElem?_modify, List.getElem?_map]
      cases l[i]? with
      | none => rfl
      | some x => by_cases h : j = i <;> simp [h]
    have hself : putO w r (mObj l c) = w := by
      unfold putO
      have hr := lt_heap h1
      have : w.heap.setIfInBounds r (mObj l c) = w.heap := by
        apply Array.ext_getElem?
        intro i
        by_cases hi : r = i
        · subst hi; rw [Array.getElem?_setIfInBounds_self_of_lt hr, h1]
        · rw [Array.getElem?_setIfInBounds_ne hi]
      simp [this]
    refine ⟨l[j].v, l[j].b, mObj l c, mObj (l.modify j fun e => { e with v := .int .i64 ((ns.count k : Nat) + 1) }) c, run_entry49_old _ r l c j k hk h12 hj e1 e2 h1, ?_, ?_, ?_⟩
    · rw [hself, run_lookup49 _ r l c k hk h12 h1, e1]
      simp [hv]
    · have := run_store49 (putO w r (mObj l c)) r l c j hj h3 (putO_same _ _ _ _ h1) (.int .i64 ((ns.count k : Nat) + 1))
      rw [hpp] at this
      exact this
    · refine ⟨_, c, putO_same _ _ _ _ h1, fun e he => ?_, by rw [hbm]; exact h3, by rw [hkmm]; exact h4, fun n hn => ?_⟩
      · obtain ⟨i, hi, rfl⟩ := List.mem_iff_getElem.1 he
        have hi' : i < l.length := by simpa using hi
        obtain ⟨q1, q2, q3, q4⟩ := h2 l[i] (List.getElem_mem hi')
        rw [List.getElem_modify]
        by_cases hji : j = i
        · subst hji
          rw [if_pos rfl]
          refine ⟨q1, q2, ?_, by simp [q4]⟩
          show Value.int .i64 _ = _
          rw [hcn]
          simp [e2]
        · rw [if_neg hji]
          refine ⟨q1, q2, ?_, by simp [q4]⟩
          have : (k == l[i].k) = false := by
            rw [← e2]
            simp only [beq_eq_false_iff_ne, ne_eq]
            intro e
            have := List.pairwise_iff_getElem.1 h4
            rcases Nat.lt_or_gt_of_ne hji with hlt | hgt
            · have := this j i (by simpa using hj) (by simpa using hi') hlt
              simp at this; exact this e
            · have := this i j (by simpa using hi') (by simpa using hj) hgt
              simp at this; exact this e.symm
          rw [hcn, this]; simpa using q3
      · rw [hkmm]
        rcases List.mem_append.1 hn with hn | hn
        · exact h5 n hn
        · simp at hn; subst hn; exact h5 n hkm
end Go.Proofs.Ytbflliiaigkmgaa
