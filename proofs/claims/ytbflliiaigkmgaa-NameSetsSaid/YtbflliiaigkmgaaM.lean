/- Maps keyed by arrays of twelve bytes, entry by entry; slices of such arrays. -/
import Derived.Test.YtbflliiaigkmgaaF
import Derived.Great.BuildSlice
import Derived.Deep.MidRow
import Derived.MapKept
namespace Go.Proofs.Ytbflliiaigkmgaa
open Go.RowKit

/-- An entry: its key's bytes, its value, when it was born. -/
structure Ent where
  k : List UInt8
  v : Value
  b : Nat
def Ent.e (x : Ent) : MapEntry := { key := .agg (bC x.k), val := x.v, born := x.b }
def mObj (l : List Ent) (clock : Nat) : Obj := .map (l.map Ent.e).toArray clock

theorem size5 (w : World) : (sizeOf 5).run Try.prog w = .ok 1 w := by kernel_rfl
theorem run_part5 (w : World) (l : List UInt8) (i : Nat) (hi : i < l.length) : (part 5 (bC l) (i * 1)).run Try.prog w = .ok (.int .u8 (l[i].toNat : Int)) w := by
  simp [part, isAgg, run_underlying Try.underlying5, bC_get l i hi]
theorem run_checkKey5 (em : Bool) (n : Nat) (x : Int) (w : World) : (Instr.checkKey em (n + 1) 5 (.int .u8 x)).run Try.prog w = .ok () w := by
  simp [Instr.checkKey, run_underlying Try.underlying5]
theorem run_checkKey23 (em : Bool) (n : Nat) (w : World) (l : List UInt8) (hl : l.length = 12) : (Instr.checkKey em (n + 2) 23 (.agg (bC l))).run Try.prog w = .ok () w := by
  rw [Instr.checkKey]
  simp only [Sem.run_bind, run_underlying Try.underlying23, Result.andThen_ok, size5, Std.Legacy.Range.forIn_eq_forIn_range', Std.Legacy.Range.size, Nat.sub_zero, Nat.add_sub_cancel, Nat.div_one]
  have hlt : ∀ i ∈ List.range' 0 12 1, i < l.length := fun i hi => by rw [hl]; simpa using (List.mem_range'_1.1 hi).2
  generalize List.range' 0 12 1 = r at hlt ⊢
  induction r with
  | nil => simp
  | cons i r ih =>
    have hi := hlt i (by simp)
    simp only [List.forIn_cons, Sem.run_bind, size5, run_part5 w l i hi, Result.andThen_ok, run_checkKey5, Sem.run_pure]
    exact ih fun j hj => hlt j (by simp [hj])

theorem run_equal23 (w : World) (a b : List UInt8) (ha : a.length = 12) (hb : b.length = 12) : (Op.equal 23 (.agg (bC a)) (.agg (bC b))).run Try.prog w = .ok (a == b) w :=
  run_equalIn_bytes w 9998 23 5 12 Try.underlying23 Try.underlying5 (fun _ => by kernel_rfl) a b ha hb

/-- The place and the value of the first entry of a key. -/
def findL (k : List UInt8) : List Ent → Nat → Option (Nat × Value)
  | [], _ => none
  | e :: es, i => if k == e.k then some (i, e.v) else findL k es (i + 1)
theorem run_findAsking23 (w : World) (k : List UInt8) (hk : k.length = 12) : ∀ (l : List Ent) (i : Nat), (∀ e ∈ l, e.k.length = 12) → (Instr.findAsking 23 (.agg (bC k)) (l.map Ent.e) i).run Try.prog w = .ok (findL k l i) w
  | [], i, _ => by simp [Instr.findAsking, findL]
  | e :: l, i, h => by
    have ih := run_findAsking23 w k hk l (i + 1) fun x hx => h x (by simp [hx])
    simp only [List.map_cons, Instr.findAsking, Sem.run_bind, Ent.e, run_equal23 w k e.k hk (h e (by simp)), Result.andThen_ok, findL]
    by_cases he : k == e.k
    · rw [if_pos he, if_pos he]; rfl
    · rw [if_neg he, if_neg he]; exact ih
theorem run_findKey23 (w : World) (k : List UInt8) (hk : k.length = 12) (l : List Ent) (h : ∀ e ∈ l, e.k.length = 12) : (Instr.findKey 23 (.agg (bC k)) (l.map Ent.e)).run Try.prog w = .ok (findL k l 0) w := by
  simp only [Instr.findKey, Sem.run_bind, run_underlying Try.underlying23, Result.andThen_ok]
  cases l with
  | nil => rfl
  | cons e l =>
    have : Instr.findNow (.array 12 5) (.agg (bC k)) ((e :: l).map Ent.e) 0 = none := rfl
    rw [this]
    exact run_findAsking23 w k hk (e :: l) 0 h

theorem findL_none {k : List UInt8} : ∀ {l : List Ent} {i : Nat}, (∀ e ∈ l, e.k ≠ k) → findL k l i = none
  | [], _, _ => rfl
  | e :: l, i, h => by
    rw [findL, if_neg (by simpa using (h e (by simp)).symm)]
    exact findL_none fun x hx => h x (by simp [hx])
theorem findL_some {k : List UInt8} : ∀ {l : List Ent} {i : Nat} (j : Nat) (hj : j < l.length), l[j].k = k → (∀ m (hm : m < j), l[m].k ≠ k) → findL k l i = some (i + j, l[j].v)
  | [], _, j, hj, _, _ => by simp at hj
  | e :: l, i, 0, _, h, _ => by
    rw [findL, if_pos (by simpa using h.symm)]; rfl
  | e :: l, i, j + 1, hj, h, hn => by
    rw [findL, if_neg (by simpa using (hn 0 (by omega)).symm), findL_some j (by simpa using hj) (by simpa using h) (fun m hm => by have := hn (m + 1) (by omega); simpa using this)]
    simp; omega

/-- The look-up in a map whose block is known. -/
theorem run_lookup37 (w : World) (r : Nat) (l : List Ent) (c : Nat) (k : List UInt8) (hk : k.length = 12) (h : ∀ e ∈ l, e.k.length = 12) (hr : w.heap[r]? = some (mObj l c)) :
    (Instr.lookup 37 (.map (some r)) (.agg (bC k)) false).run Try.prog w = .ok (((findL k l 0).map (·.2)).getD (.bool false)) w := by
  have hz : ∀ w, (zeroValue 4).run Try.prog w = .ok (.bool false) w := fun w => by kernel_rfl
  have hg : (getObj r).run Try.prog w = .ok (mObj l c) w := by simp [getObj, Sem.run, hr, mObj]
  simp only [Instr.lookup, Sem.run_bind, run_underlying Try.underlying37, Result.andThen_ok, hg, mObj, Sem.run_pure, run_checkKey23 _ 9998 w k hk, run_findKey23 w k hk l h]
  cases findL k l 0 <;> simp [hz]
theorem run_lookup37_nil (w : World) (k : List UInt8) (hk : k.length = 12) :
    (Instr.lookup 37 (.map none) (.agg (bC k)) false).run Try.prog w = .ok (.bool false) w := by
  have hz : ∀ w, (zeroValue 4).run Try.prog w = .ok (.bool false) w := fun w => by kernel_rfl
  have hf := run_findKey23 w k hk [] (by simp)
  simp only [List.map_nil, findL] at hf
  simp only [Instr.lookup, Sem.run_bind, run_underlying Try.underlying37, Result.andThen_ok, Sem.run_pure, run_checkKey23 _ 9998 w k hk, hf]
  simp [hz]

/-- A new entry. -/
theorem run_update37_new (w : World) (r : Nat) (l : List Ent) (c : Nat) (k : List UInt8) (v : Value) (hk : k.length = 12) (h : ∀ e ∈ l, e.k.length = 12) (hn : ∀ e ∈ l, e.k ≠ k) (hr : w.heap[r]? = some (mObj l c)) :
    (Instr.mapUpdate 37 (.map (some r)) (.agg (bC k)) v).run Try.prog w = .ok () { w with heap := w.heap.setIfInBounds r (mObj (l ++ [⟨k, v, c⟩]) (c + 1)) } := by
  have hg : (getObj r).run Try.prog w = .ok (mObj l c) w := by simp [getObj, Sem.run, hr, mObj]
  simp only [Instr.mapUpdate, Sem.run_bind, run_underlying Try.underlying37, Result.andThen_ok, hg, mObj, Sem.run_pure, run_checkKey23 _ 9998 w k hk, run_findKey23 w k hk l h, findL_none hn]
  rw [MapKept.run_setObj_map _ hr]
  simp [mObj, Ent.e]
end Go.Proofs.Ytbflliiaigkmgaa
