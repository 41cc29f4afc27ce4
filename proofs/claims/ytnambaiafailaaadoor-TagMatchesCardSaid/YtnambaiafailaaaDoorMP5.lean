/- A map keyed by tags: set, look-up. -/
import Derived.Test.YtnambaiafailaaaDoorPB5
import Derived.MapKept
namespace Go.Proofs.YtnambaiafailaaaDoor
open Go.RowKit

/-- A set's entry: a tag's bytes, when it was born. -/
structure Ent where
  k : List UInt8
  b : Nat
def Ent.e (x : Ent) : MapEntry := { key := .agg (bC x.k), val := .bool true, born := x.b }
def mObj (l : List Ent) (clock : Nat) : Obj := .map (l.map Ent.e).toArray clock
theorem size5 (w : World) : (sizeOf 5).run Tryd.prog w = .ok 1 w := by kernel_rfl
theorem run_part5 (w : World) (l : List UInt8) (i : Nat) (hi : i < l.length) : (part 5 (bC l) (i * 1)).run Tryd.prog w = .ok (.int .u8 (l[i].toNat : Int)) w := by
  simp [part, isAgg, run_underlying Tryd.underlying5, bC_get l i hi]
theorem run_checkKey5 (em : Bool) (n : Nat) (x : Int) (w : World) : (Instr.checkKey em (n + 1) 5 (.int .u8 x)).run Tryd.prog w = .ok () w := by
  simp [Instr.checkKey, run_underlying Tryd.underlying5]
theorem run_checkKeyA (em : Bool) (n : Nat) (w : World) (t k : Nat) (ht : Tryd.prog.underlying t = some (.array k 5)) (l : List UInt8) (hl : l.length = k) : (Instr.checkKey em (n + 2) t (.agg (bC l))).run Tryd.prog w = .ok () w := by
  rw [Instr.checkKey]
  simp only [Sem.run_bind, run_underlying ht, Result.andThen_ok, size5, Std.Legacy.Range.forIn_eq_forIn_range', Std.Legacy.Range.size, Nat.sub_zero, Nat.add_sub_cancel, Nat.div_one]
  have hlt : ∀ i ∈ List.range' 0 k 1, i < l.length := fun i hi => by rw [hl]; simpa using (List.mem_range'_1.1 hi).2
  generalize List.range' 0 k 1 = r at hlt ⊢
  induction r with
  | nil => simp
  | cons i r ih =>
    have hi := hlt i (by simp)
    simp only [List.forIn_cons, Sem.run_bind, size5, run_part5 w l i hi, Result.andThen_ok, run_checkKey5, Sem.run_pure]
    exact ih fun j hj => hlt j (by simp [hj])
theorem run_checkKeyT (em : Bool) (n : Nat) (w : World) (l : List UInt8) (hl : l.length = 10) : (Instr.checkKey em (n + 3) 29 (.agg (bC l))).run Tryd.prog w = .ok () w := by
  obtain ⟨a, b, c, d, e, f, g, i, j, k, rfl⟩ := list10 l hl
  have p0 : ∀ (w : World), (part 26 (bC [a, b, c, d, e, f, g, i, j, k]) 0).run Tryd.prog w = .ok (.agg (bC [a, b, c])) w := fun _ => by kernel_rfl
  have p1 : ∀ (w : World), (part 27 (bC [a, b, c, d, e, f, g, i, j, k]) 3).run Tryd.prog w = .ok (.agg (bC [d, e, f, g])) w := fun _ => by kernel_rfl
  have p2 : ∀ (w : World), (part 26 (bC [a, b, c, d, e, f, g, i, j, k]) 7).run Tryd.prog w = .ok (.agg (bC [i, j, k])) w := fun _ => by kernel_rfl
  have q0 := fun w => run_checkKeyA em n w 26 3 Tryd.underlying26 [a, b, c] rfl
  have q1 := fun w => run_checkKeyA em n w 27 4 Tryd.underlying27 [d, e, f, g] rfl
  have q2 := fun w => run_checkKeyA em n w 26 3 Tryd.underlying26 [i, j, k] rfl
  rw [Instr.checkKey]
  simp only [Sem.run_bind, run_underlying Tryd.underlying29, Result.andThen_ok]
  simp [p0, p1, p2, q0, q1, q2]
theorem run_equalT (w : World) (a b : List UInt8) (ha : a.length = 10) (hb : b.length = 10) : (Op.equal 29 (.agg (bC a)) (.agg (bC b))).run Tryd.prog w = .ok (a == b) w := eqIn10 w a b ha hb
def findL (k : List UInt8) : List Ent → Nat → Option (Nat × Value)
  | [], _ => none
  | e :: es, i => if k == e.k then some (i, .bool true) else findL k es (i + 1)
theorem run_findAskingT (w : World) (k : List UInt8) (hk : k.length = 10) : ∀ (l : List Ent) (i : Nat), (∀ e ∈ l, e.k.length = 10) → (Instr.findAsking 29 (.agg (bC k)) (l.map Ent.e) i).run Tryd.prog w = .ok (findL k l i) w
  | [], i, _ => by simp [Instr.findAsking, findL]
  | e :: l, i, h => by
    have ih := run_findAskingT w k hk l (i + 1) fun x hx => h x (by simp [hx])
    simp only [List.map_cons, Instr.findAsking, Sem.run_bind, Ent.e, run_equalT w k e.k hk (h e (by simp)), Result.andThen_ok, findL]
    by_cases he : k == e.k
    · rw [if_pos he, if_pos he]; rfl
    · rw [if_neg he, if_neg he]; exact ih
theorem run_findKeyT (w : World) (k : List UInt8) (hk : k.length = 10) (l : List Ent) (h : ∀ e ∈ l, e.k.length = 10) : (Instr.findKey 29 (.agg (bC k)) (l.map Ent.e)).run Tryd.prog w = .ok (findL k l 0) w := by
  simp only [Instr.findKey, Sem.run_bind, run_underlying Tryd.underlying29, Result.andThen_ok]
  cases l with
  | nil => rfl
  | cons e l =>
    have hn : ∀ fs, Instr.findNow (.struct fs) (.agg (bC k)) ((e :: l).map Ent.e) 0 = none := fun _ => rfl
    rw [hn]
    exact run_findAskingT w k hk (e :: l) 0 h
theorem findL_spec {k : List UInt8} : ∀ (l : List Ent) (i : Nat), (findL k l i = none ∧ ∀ e ∈ l, e.k ≠ k) ∨ ∃ (j : Nat) (h : j < l.length), findL k l i = some (i + j, .bool true) ∧ l[j].k = k
  | [], _ => .inl ⟨rfl, by simp⟩
  | e :: l, i => by
    by_cases h : k == e.k
    · exact .inr ⟨0, by simp, by simp [findL, h], (by simpa using h : k = e.k).symm⟩
    · rcases findL_spec (k := k) l (i + 1) with ⟨h1, h2⟩ | ⟨j, hj, h1, h2⟩
      · refine .inl ⟨by simp [findL, h, h1], ?_⟩
        intro x hx
        rcases List.mem_cons.1 hx with rfl | hx
        · intro e'; subst e'; simp at h
        · exact h2 x hx
      · exact .inr ⟨j + 1, by simpa using hj, by simp [findL, h, h1]; omega, by simpa using h2⟩
/-- Block r is the set of the tags ks. -/
def SetIs (w : World) (r : Nat) (ks : List (List UInt8)) : Prop :=
  ∃ l c, w.heap[r]? = some (mObj l c) ∧ (∀ e ∈ l, e.k.length = 10) ∧ ∀ k, k ∈ l.map Ent.k ↔ k ∈ ks
theorem SetIs.look {w : World} {r : Nat} {ks : List (List UInt8)} (h : SetIs w r ks) (k : List UInt8) (hk : k.length = 10) :
    (Instr.lookup 100 (.map (some r)) (.agg (bC k)) false).run Tryd.prog w = .ok (.bool (decide (k ∈ ks))) w := by
  obtain ⟨l, c, hr, h10, hm⟩ := h
  have hz : ∀ w, (zeroValue 4).run Tryd.prog w = .ok (.bool false) w := fun w => by kernel_rfl
  have hg : (getObj r).run Tryd.prog w = .ok (mObj l c) w := by simp [getObj, Sem.run, hr, mObj]
  simp only [Instr.lookup, Sem.run_bind, run_underlying Tryd.underlying100, Result.andThen_ok, hg, mObj, Sem.run_pure, run_checkKeyT _ 9997 w k hk, run_findKeyT w k hk l h10]
  rcases findL_spec (k := k) l 0 with ⟨e1, e2⟩ | ⟨j, hj, e1, e2⟩
  · have hn : ¬ k ∈ ks := fun hk' => by
      obtain ⟨e, he, hek⟩ := List.mem_map.1 ((hm k).2 hk')
      exact e2 e he hek
    rw [e1]; simp [hz, hn]
  · have hy : k ∈ ks := (hm k).1 (List.mem_map.2 ⟨l[j], List.getElem_mem hj, e2⟩)
    rw [e1]; simp [hy]
theorem same_all (n : Nat) : ∀ l : List Value, (∀ x ∈ l, Instr.sameBits n x x = true) → ((l.zip l).all fun (x, y) => Instr.sameBits n x y) = true
  | [], _ => rfl
  | x :: l, h => by
    rw [List.zip_cons_cons, List.all_cons, same_all n l fun y hy => h y (by simp [hy])]
    simp [h x (by simp)]
theorem same_bits (k : List UInt8) : Instr.sameBits 10000 (.agg (bC k)) (.agg (bC k)) = true := by
  show ((bC k).size == (bC k).size && _) = true
  rw [beq_self_eq_true, Bool.true_and]
  refine same_all 9999 (bC k).toList fun x hx => ?_
  simp only [bC, List.mem_map] at hx
  obtain ⟨b, _, rfl⟩ := hx
  simp [Instr.sameBits]
theorem run_stays (w : World) (k : List UInt8) : (Instr.keyThatStays (.agg (bC k)) (.agg (bC k))).run Tryd.prog w = .ok (.agg (bC k)) w := by
  simp [Instr.keyThatStays, same_bits]
/-- The set takes a tag. -/
theorem SetIs.put {w : World} {r : Nat} {ks : List (List UInt8)} (h : SetIs w r ks) (k : List UInt8) (hk : k.length = 10) :
    ∃ o, (Instr.mapUpdate 100 (.map (some r)) (.agg (bC k)) (.bool true)).run Tryd.prog w = .ok () (w.putObj r o) ∧ SetIs (w.putObj r o) r (ks ++ [k]) := by
  obtain ⟨l, c, hr, h10, hm⟩ := h
  have hg : (getObj r).run Tryd.prog w = .ok (mObj l c) w := by simp [getObj, Sem.run, hr, mObj]
  have hput : ∀ o, (w.putObj r o).heap[r]? = some o := fun o => by
    have := lt_heap hr
    simp [World.putObj, this]
  rcases findL_spec (k := k) l 0 with ⟨e1, e2⟩ | ⟨j, hj, e1, e2⟩
  · refine ⟨mObj (l ++ [⟨k, c⟩]) (c + 1), ?_, l ++ [⟨k, c⟩], c + 1, hput _, ?_, ?_⟩
    · simp only [Instr.mapUpdate, Sem.run_bind, run_underlying Tryd.underlying100, Result.andThen_ok, hg, mObj, Sem.run_pure, run_checkKeyT _ 9997 w k hk, run_findKeyT w k hk l h10, e1]
      rw [MapKept.run_setObj_map _ hr]
      simp [mObj, Ent.e, World.putObj]
    · intro e he
      rcases List.mem_append.1 he with he | he
      · exact h10 e he
      · simp at he; subst he; exact hk
    · intro x
      rw [List.map_append, List.mem_append, List.mem_append, hm x]; simp
  · have hsame : (l.map Ent.e).toArray.modify j (fun e => { e with key := .agg (bC k), val := .bool true }) = (l.map Ent.e).toArray := by
      apply Array.ext_getElem?
      intro i
      rw [Array.getElem?_modify]
      by_cases hi : j = i
      · subst hi
        have he : ((l.map Ent.e).toArray[j]?) = some l[j].e := by simp [hj]
        rw [if_pos rfl, he]
        show some _ = some _
        rw [← e2]; rfl
      · rw [if_neg hi]
    have hek : (((l.map Ent.e).toArray[j]?).map (·.key)).getD (.agg (bC k)) = .agg (bC k) := by
      have he : ((l.map Ent.e).toArray[j]?) = some l[j].e := by simp [hj]
      rw [he]; show Value.agg (bC l[j].k) = _; rw [e2]
    refine ⟨mObj l c, ?_, l, c, hput _, h10, ?_⟩
    · rw [Nat.zero_add] at e1
      simp only [Instr.mapUpdate, Sem.run_bind, run_underlying Tryd.underlying100, Result.andThen_ok, hg, mObj, Sem.run_pure, run_checkKeyT _ 9997 w k hk, run_findKeyT w k hk l h10, e1, hek, run_stays, hsame]
      rw [MapKept.run_setObj_map _ hr]
      simp [mObj, World.putObj]
    · intro x
      rw [hm x, List.mem_append]
      constructor
      · exact Or.inl
      · rintro (h | h)
        · exact h
        · simp at h; subst h
          exact (hm x).1 (List.mem_map.2 ⟨l[j], List.getElem_mem hj, e2⟩)
end Go.Proofs.YtnambaiafailaaaDoor
