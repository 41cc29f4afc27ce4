/- A set of names in memory; Has, Len. -/
import Derived.Test.YtbflliiaigkmgaaM
import Derived.StillTailTactics
namespace Go.Proofs.Ytbflliiaigkmgaa
open Go.RowKit

/-- The map in block r holds just the keys ks, in the order in which they came. -/
def HeldIs (w : World) (r : Nat) (ks : List (List UInt8)) : Prop :=
  ∃ (l : List Ent) (c : Nat), w.heap[r]? = some (mObj l c) ∧ l.map Ent.k = ks ∧ (∀ e ∈ l, e.v = .bool true ∧ e.k.length = 12 ∧ e.b < c) ∧ (l.map Ent.b).Pairwise (· < ·)

def putO (w : World) (r : Nat) (o : Obj) : World := { w with heap := w.heap.setIfInBounds r o }
theorem putO_other (w : World) (r k : Nat) (o : Obj) (h : k ≠ r) : (putO w r o).heap[k]? = w.heap[k]? := by
  simp [putO, Array.getElem?_setIfInBounds, Ne.symm h]
theorem putO_same (w : World) (r : Nat) (o o' : Obj) (h : w.heap[r]? = some o') : (putO w r o).heap[r]? = some o := by
  have : r < w.heap.size := by
    rcases Nat.lt_or_ge r w.heap.size with h' | h'
    · exact h'
    · simp [Array.getElem?_eq_none h'] at h
  simp [putO, Array.getElem?_setIfInBounds, this]
theorem putO_size (w : World) (r : Nat) (o : Obj) : (putO w r o).heap.size = w.heap.size := by simp [putO]

theorem HeldIs.of_block {w w' : World} {r : Nat} {ks : List (List UInt8)} (h : HeldIs w r ks) (he : w'.heap[r]? = w.heap[r]?) : HeldIs w' r ks := by
  obtain ⟨l, c, h1, h2⟩ := h
  exact ⟨l, c, he.trans h1, h2⟩
theorem HeldIs.lt {w : World} {r : Nat} {ks : List (List UInt8)} (h : HeldIs w r ks) : r < w.heap.size := by
  obtain ⟨l, c, h1, _⟩ := h
  rcases Nat.lt_or_ge r w.heap.size with h' | h'
  · exact h'
  · simp [Array.getElem?_eq_none h'] at h1

def inL (ks : List (List UInt8)) (k : List UInt8) : Bool := ks.contains k
theorem eraseIdx_map' {α β : Type} (f : α → β) : ∀ (l : List α) (j : Nat), (l.map f).eraseIdx j = (l.eraseIdx j).map f
  | [], _ => rfl
  | _ :: _, 0 => rfl
  | x :: l, j + 1 => by simp [eraseIdx_map' f l j]

theorem findL_mem {k : List UInt8} : ∀ {l : List Ent} {i : Nat}, (∀ e ∈ l, e.v = .bool true) → ((findL k l i).map (·.2)).getD (.bool false) = .bool ((l.map Ent.k).contains k)
  | [], _, _ => rfl
  | e :: l, i, h => by
    by_cases he : (k == e.k) = true
    · rw [findL, if_pos he]
      simp only [Option.map_some, Option.getD_some, List.map_cons, List.contains_cons, he, Bool.true_or, h e (by simp)]
    · rw [findL, if_neg he, findL_mem fun x hx => h x (by simp [hx])]
      have : (k == e.k) = false := by simpa using he
      simp only [List.map_cons, List.contains_cons, this, Bool.false_or]

theorem HeldIs.lookup {w : World} {r : Nat} {ks : List (List UInt8)} (h : HeldIs w r ks) (k : List UInt8) (hk : k.length = 12) :
    (Instr.lookup 37 (.map (some r)) (.agg (bC k)) false).run Try.prog w = .ok (.bool (inL ks k)) w := by
  obtain ⟨l, c, h1, rfl, h3, _⟩ := h
  unfold inL
  rw [run_lookup37 w r l c k hk (fun e he => (h3 e he).2.1) h1, findL_mem fun e he => (h3 e he).1]
theorem HeldIs.update {w : World} {r : Nat} {ks : List (List UInt8)} (h : HeldIs w r ks) (k : List UInt8) (hk : k.length = 12) (hn : inL ks k = false) :
    ∃ o, (Instr.mapUpdate 37 (.map (some r)) (.agg (bC k)) (.bool true)).run Try.prog w = .ok () (putO w r o) ∧ HeldIs (putO w r o) r (ks ++ [k]) := by
  unfold inL at hn
  obtain ⟨l, c, h1, rfl, h3, h4⟩ := h
  refine ⟨_, run_update37_new w r l c k _ hk (fun e he => (h3 e he).2.1) (fun e he hek => ?_) h1, l ++ [⟨k, .bool true, c⟩], c + 1, putO_same _ _ _ _ h1, by simp, ?_, ?_⟩
  · have : (l.map Ent.k).contains k = true := by
      rw [List.contains_iff_mem]; exact List.mem_map.2 ⟨e, he, hek⟩
    rw [hn] at this; cases this
  · intro e he
    rcases List.mem_append.1 he with he | he
    · exact ⟨(h3 e he).1, (h3 e he).2.1, by have := (h3 e he).2.2; omega⟩
    · simp only [List.mem_singleton] at he
      subst he
      exact ⟨rfl, hk, by simp⟩
  · rw [List.map_append, List.pairwise_append]
    refine ⟨h4, by simp, fun a ha b hb => ?_⟩
    obtain ⟨e, he, rfl⟩ := List.mem_map.1 ha
    simp at hb
    subst hb
    exact (h3 e he).2.2

theorem eraseIdx_find {k : List UInt8} : ∀ {l : List Ent} {i j : Nat} {v : Value}, findL k l i = some (j, v) → ∃ m, j = i + m ∧ m < l.length ∧ (l.eraseIdx m).map Ent.k = (l.map Ent.k).erase k
  | [], _, _, _, h => by simp [findL] at h
  | e :: l, i, j, v, h => by
    by_cases he : (k == e.k) = true
    · rw [findL, if_pos he] at h
      simp only [Option.some.injEq, Prod.mk.injEq] at h
      refine ⟨0, by omega, by simp, ?_⟩
      have : e.k = k := by simpa using (beq_iff_eq.1 he).symm
      simp [this]
    · rw [findL, if_neg he] at h
      obtain ⟨m, h1, h2, h3⟩ := eraseIdx_find h
      refine ⟨m + 1, by omega, by simpa using h2, ?_⟩
      have : ¬ (e.k == k) = true := fun hh => he (by rw [beq_iff_eq] at hh ⊢; exact hh.symm)
      simp only [List.eraseIdx_cons_succ, List.map_cons, h3, List.erase_cons, this]
      simp

theorem HeldIs.del {w : World} {r : Nat} {ks : List (List UInt8)} (h : HeldIs w r ks) (k : List UInt8) (hk : k.length = 12) (hn : inL ks k = true) :
    ∃ o, (∀ t, (Builtin.delete_ #[37, 23] t #[.map (some r), .agg (bC k)]).run Try.prog w = .ok (.tuple #[]) (putO w r o)) ∧ HeldIs (putO w r o) r (ks.erase k) := by
  unfold inL at hn
  obtain ⟨l, c, h1, rfl, h3, h4⟩ := h
  have hf : ∃ j v, findL k l 0 = some (j, v) := by
    have := findL_mem (k := k) (i := 0) fun e he => (h3 e he).1
    rw [hn] at this
    cases hq : findL k l 0 with
    | none => rw [hq] at this; simp at this
    | some x => exact ⟨x.1, x.2, rfl⟩
  obtain ⟨j, v, hf⟩ := hf
  obtain ⟨m, hm, hml, hme⟩ := eraseIdx_find hf
  obtain rfl : j = m := by omega
  have hg : (getObj r).run Try.prog w = .ok (mObj l c) w := by simp [getObj, Sem.run, h1, mObj]
  refine ⟨mObj (l.eraseIdx j) c, fun t => ?_, l.eraseIdx j, c, putO_same _ _ _ _ h1, hme, fun e he => h3 e (List.mem_of_mem_eraseIdx he), ?_⟩
  · simp only [Builtin.delete_]
    have hh : (setObj r (.map ((l.map Ent.e).eraseIdx j).toArray c)).run Try.prog w = .ok () (putO w r (mObj (l.eraseIdx j) c)) := by
      rw [MapKept.run_setObj_map _ h1, eraseIdx_map']; rfl
    simp [Sem.run_bind, run_underlying Try.underlying37, hg, mObj, run_checkKey23 _ 9998 w k hk, run_findKey23 w k hk l (fun e he => (h3 e he).2.1), hf]
    rw [hh]
    rfl
  · rw [← eraseIdx_map']
    exact h4.sublist (List.eraseIdx_sublist _ _)

/-- The set in the variable at block sp. -/
def SetAt (w : World) (sp : Nat) (o : Option Nat) (ks : List (List UInt8)) : Prop :=
  w.heap[sp]? = some (.cells #[.map o] 39) ∧ match o with
    | none => ks = []
    | some r => HeldIs w r ks

theorem SetAt.look {w : World} {sp : Nat} {o : Option Nat} {ks : List (List UInt8)} (h : SetAt w sp o ks) (k : List UInt8) (hk : k.length = 12) :
    (Instr.lookup 37 (.map o) (.agg (bC k)) false).run Try.prog w = .ok (.bool (inL ks k)) w := by
  cases o with
  | none =>
    have : ks = [] := h.2
    rw [this]
    exact run_lookup37_nil w k hk
  | some r => exact HeldIs.lookup h.2 k hk
theorem SetAt.below {w w' : World} {B sp : Nat} {o : Option Nat} {ks : List (List UInt8)} (h : SetAt w sp o ks) (hb : Below B w w') (hB : w.heap.size ≤ B) : SetAt w' sp o ks := by
  have hlt : sp < w.heap.size := by
    rcases Nat.lt_or_ge sp w.heap.size with h' | h'
    · exact h'
    · have := h.1; simp [Array.getElem?_eq_none h'] at this
  refine ⟨(hb.block sp (by omega)).trans h.1, ?_⟩
  cases o with
  | none => exact h.2
  | some r =>
    have h2 : HeldIs w r ks := h.2
    exact h2.of_block (hb.block r (by have := h2.lt; omega))
theorem SetAt.cell {w : World} {sp : Nat} {o : Option Nat} {ks : List (List UInt8)} (h : SetAt w sp o ks) : w.cell? ⟨sp, 0, none⟩ = some (.map o) := by
  rw [cell_of_row w sp 0 _ _ _ h.1]; rfl
theorem SetAt.free {w : World} {sp : Nat} {o : Option Nat} {ks : List (List UInt8)} (h : SetAt w sp o ks) : w.frozen? ⟨sp, 0, none⟩ = false := by
  simp [World.frozen?, h.1]

section
variable {ops : Array Oper} {Q : Act → Prop} {a : Act} {o : Oper} {rest : List Oper}
theorem wq_look37 {W : World} (x y : Operand) (sp : Nat) (m : Option Nat) (ks : List (List UInt8)) (k : List UInt8) (hw : Region.wanted o (yielded ops a.tmps) = true) (ho : o.op = .lookup 37 x y false)
    (hx : a.eval x = .map m) (hy : a.eval y = .agg (bC k)) (hs : SetAt W sp m ks) (hk : k.length = 12)
    (h : wpQuiet Try.prog ops (fun w' => ∃ p : Regrown, w' = Sort.grow (redrawn W p.d) p.os) Q rest (a.put o.dst (.bool (inL ks k)))) : wpQuiet Try.prog ops (fun w' => ∃ p : Regrown, w' = Sort.grow (redrawn W p.d) p.os) Q (o :: rest) a := by
  refine wq_valC _ hw (fun w hC => ?_) h
  obtain ⟨⟨dq, osq⟩, rfl⟩ := hC
  unfold execOp
  simp only [ho, hx, hy, Sem.run_bind, (hs.below (below_regrown W dq osq) (Nat.le_refl _)).look k hk, Result.andThen_ok, Sem.run_pure]
end

set_option maxHeartbeats 400000 in
theorem has_nil (k : List UInt8) (w : World) (hk : k.length = 12) : Calls Try.prog 19 #[.pointer none, .agg (bC k)] w fun e w' => e = .returned (.bool false) ∧ Below w.heap.size w w' := by
  have HK := Lib.hid hk
  clear hk
  go_enter Try.func19, Try.ntmps19
  go_wp2_with fail
  refine wp_region_quiet_below (by kernel_rfl) (by kernel_rfl) ?_
  repeat (go_big_quiet_step (fail))
  refine wpQuiet_nil ?_
  rintro _ ⟨⟨dq, osq⟩, rfl⟩
  go_wp2_with fail
  go_ret
  exact ⟨rfl, (below_alloc1 _ _).trans ((below_regrown _ dq osq).mono (by simp))⟩

set_option maxHeartbeats 400000 in
theorem has_any (sp : Nat) (o : Option Nat) (ks : List (List UInt8)) (k : List UInt8) (w : World) (hs : SetAt w sp o ks) (hk : k.length = 12) :
    Calls Try.prog 19 #[.pointer (some ⟨sp, 0, none⟩), .agg (bC k)] w fun e w' => e = .returned (.bool (inL ks k)) ∧ Below w.heap.size w w' := by
  have HK := Lib.hid hk
  have hs1 := hs.below (below_alloc1 w (.cells (bC k) 23)) (Nat.le_refl _)
  have hcell := cell_regrown hs1.cell
  have HS := Lib.hid hs1
  clear hk hs hs1
  go_enter Try.func19, Try.ntmps19
  go_wp2_with fail
  refine wp_region_quiet_below (by kernel_rfl) (by kernel_rfl) ?_
  repeat (first
    | (with_reducible refine wq_load23 _ w.heap.size k (0, 0) rfl rfl rfl (heap_alloc_new _ _) HK.out ?_; simp only [Act.put, List.setIfInBounds_toArray, List.set_cons_zero, List.set_cons_succ])
    | (with_reducible refine wq_look37 _ _ sp o ks k rfl rfl rfl rfl HS.out HK.out ?_; simp only [Act.put, List.setIfInBounds_toArray, List.set_cons_zero, List.set_cons_succ])
    | go_big_quiet_step (fail))
  refine wpQuiet_nil ?_
  rintro _ ⟨⟨dq, osq⟩, rfl⟩
  go_wp2_with fail
  go_ret
  exact ⟨rfl, (below_alloc1 _ _).trans ((below_regrown _ dq osq).mono (by simp))⟩

theorem len_nil (w : World) : Calls Try.prog 20 #[.pointer none] w fun e w' => e = .returned (.int .i64 0) ∧ w = w' := by
  go_enter Try.func20, Try.ntmps20
  go_wp2
  go_ret
  exact ⟨rfl, rfl⟩
end Go.Proofs.Ytbflliiaigkmgaa
