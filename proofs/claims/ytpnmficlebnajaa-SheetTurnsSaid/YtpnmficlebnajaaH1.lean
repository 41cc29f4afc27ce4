/- A map of texts, keyed by names: look-up, update, delete. -/
import Derived.Test.YtpnmficlebnajaaGX
import Derived.MapKept
import Derived.WideKeyEntry
namespace Go.Proofs.Ytpnmficlebnajaa
open Go.RowKit

/-- An entry: a name's bytes, a text, when it was born. -/
structure ME where
  k : List UInt8
  v : ByteArray
  b : Nat
def ME.e (x : ME) : MapEntry := { key := .agg (bC x.k), val := .string x.v, born := x.b }
def ME.p (x : ME) : List UInt8 × ByteArray := (x.k, x.v)
def mObj (l : List ME) (clock : Nat) : Obj := .map (l.map ME.e).toArray clock
theorem size5 (w : World) : (sizeOf 5).run Try.prog w = .ok 1 w := by kernel_rfl
theorem run_part5 (w : World) (l : List UInt8) (i : Nat) (hi : i < l.length) : (part 5 (bC l) (i * 1)).run Try.prog w = .ok (.int .u8 (l[i].toNat : Int)) w := by
  simp [part, isAgg, run_underlying Try.underlying5, bC_get l i hi]
theorem run_checkKey5 (em : Bool) (n : Nat) (x : Int) (w : World) : (Instr.checkKey em (n + 1) 5 (.int .u8 x)).run Try.prog w = .ok () w := by
  simp [Instr.checkKey, run_underlying Try.underlying5]
theorem run_checkKeyN (em : Bool) (n : Nat) (w : World) (l : List UInt8) (hl : l.length = 12) : (Instr.checkKey em (n + 2) 40 (.agg (bC l))).run Try.prog w = .ok () w := by
  rw [Instr.checkKey]
  simp only [Sem.run_bind, run_underlying Try.underlying40, Result.andThen_ok, size5, Std.Legacy.Range.forIn_eq_forIn_range', Std.Legacy.Range.size, Nat.sub_zero, Nat.add_sub_cancel, Nat.div_one]
  have hlt : ∀ i ∈ List.range' 0 12 1, i < l.length := fun i hi => by rw [hl]; simpa using (List.mem_range'_1.1 hi).2
  generalize List.range' 0 12 1 = r at hlt ⊢
  induction r with
  | nil => simp
  | cons i r ih =>
    have hi := hlt i (by simp)
    simp only [List.forIn_cons, Sem.run_bind, size5, run_part5 w l i hi, Result.andThen_ok, run_checkKey5, Sem.run_pure]
    exact ih fun j hj => hlt j (by simp [hj])
theorem run_equalN (w : World) (a b : List UInt8) (ha : a.length = 12) (hb : b.length = 12) : (Op.equal 40 (.agg (bC a)) (.agg (bC b))).run Try.prog w = .ok (a == b) w :=
  run_equalIn_bytes w 9998 40 5 12 Try.underlying40 Try.underlying5 (fun _ => by kernel_rfl) a b ha hb
def findM (k : List UInt8) : List ME → Nat → Option (Nat × Value)
  | [], _ => none
  | e :: es, i => if k == e.k then some (i, .string e.v) else findM k es (i + 1)
theorem run_findAskingN (w : World) (k : List UInt8) (hk : k.length = 12) : ∀ (l : List ME) (i : Nat), (∀ e ∈ l, e.k.length = 12) → (Instr.findAsking 40 (.agg (bC k)) (l.map ME.e) i).run Try.prog w = .ok (findM k l i) w
  | [], i, _ => by simp [Instr.findAsking, findM]
  | e :: l, i, h => by
    have ih := run_findAskingN w k hk l (i + 1) fun x hx => h x (by simp [hx])
    simp only [List.map_cons, Instr.findAsking, Sem.run_bind, ME.e, run_equalN w k e.k hk (h e (by simp)), Result.andThen_ok, findM]
    by_cases he : k == e.k
    · rw [if_pos he, if_pos he]; rfl
    · rw [if_neg he, if_neg he]; exact ih
theorem run_findKeyN (w : World) (k : List UInt8) (hk : k.length = 12) (l : List ME) (h : ∀ e ∈ l, e.k.length = 12) : (Instr.findKey 40 (.agg (bC k)) (l.map ME.e)).run Try.prog w = .ok (findM k l 0) w := by
  simp only [Instr.findKey, Sem.run_bind, run_underlying Try.underlying40, Result.andThen_ok]
  cases l with
  | nil => rfl
  | cons e l =>
    have : Instr.findNow (.array 12 5) (.agg (bC k)) ((e :: l).map ME.e) 0 = none := rfl
    rw [this]
    exact run_findAskingN w k hk (e :: l) 0 h
theorem findM_spec {k : List UInt8} : ∀ (l : List ME) (i : Nat), (findM k l i = none ∧ ∀ e ∈ l, e.k ≠ k) ∨ ∃ (j : Nat) (h : j < l.length), findM k l i = some (i + j, .string l[j].v) ∧ l[j].k = k
  | [], _ => .inl ⟨rfl, by simp⟩
  | e :: l, i => by
    by_cases h : k == e.k
    · exact .inr ⟨0, by simp, by simp [findM, h], (by simpa using h : k = e.k).symm⟩
    · rcases findM_spec (k := k) l (i + 1) with ⟨h1, h2⟩ | ⟨j, hj, h1, h2⟩
      · refine .inl ⟨by simp [findM, h, h1], ?_⟩
        intro x hx
        rcases List.mem_cons.1 hx with rfl | hx
        · intro e'; subst e'; simp at h
        · exact h2 x hx
      · exact .inr ⟨j + 1, by simpa using hj, by simp [findM, h, h1]; omega, by simpa using h2⟩
/-! ### The plain map -/
abbrev TM := List (List UInt8 × ByteArray)
def getM (m : TM) (k : List UInt8) : Option ByteArray := (m.find? fun x => x.1 == k).map (·.2)
def putM : TM → List UInt8 → ByteArray → TM
  | [], k, v => [(k, v)]
  | x :: m, k, v => if x.1 = k then (k, v) :: m else x :: putM m k v
def delM (m : TM) (k : List UInt8) : TM := m.filter fun x => !(x.1 == k)
/-- Block r is the map m. -/
def MapIs (w : World) (r : Nat) (m : TM) : Prop :=
  ∃ l c, w.heap[r]? = some (mObj l c) ∧ l.map ME.p = m ∧ (∀ e ∈ l, e.k.length = 12 ∧ e.b < c) ∧ (l.map ME.b).Pairwise (· < ·) ∧ (l.map ME.k).Nodup
theorem MapIs.lt {w : World} {r : Nat} {m : TM} (h : MapIs w r m) : r < w.heap.size := by
  obtain ⟨l, c, h1, _⟩ := h
  exact lt_heap h1
theorem MapIs.block {w w' : World} {r : Nat} {m : TM} (h : MapIs w r m) (he : w'.heap[r]? = w.heap[r]?) : MapIs w' r m := by
  obtain ⟨l, c, h1, h2⟩ := h
  exact ⟨l, c, he.trans h1, h2⟩
theorem get_not {l : List ME} {k : List UInt8} (h : ∀ e ∈ l, e.k ≠ k) : getM (l.map ME.p) k = none := by
  unfold getM
  rw [Option.map_eq_none_iff, List.find?_eq_none]
  intro x hx
  obtain ⟨e, he, rfl⟩ := List.mem_map.1 hx
  simpa [ME.p] using h e he
theorem get_at {l : List ME} {k : List UInt8} (hn : (l.map ME.k).Nodup) {j : Nat} (hj : j < l.length) (hk : l[j].k = k) : getM (l.map ME.p) k = some l[j].v := by
  unfold getM
  have h2 : j < (l.map ME.p).length := by simpa using hj
  rw [show (l.map ME.p).find? (fun x => x.1 == k) = some (l.map ME.p)[j] from List.find?_eq_some_iff_getElem.2 ⟨by simpa [ME.p] using hk, j, h2, rfl, fun i hi => by
    have hne := List.pairwise_iff_getElem.1 hn i j (by simp; omega) (by simpa using hj) hi
    simp only [List.getElem_map] at hne
    rw [hk] at hne
    simpa [ME.p] using hne⟩]
  simp [ME.p]
theorem MapIs.look {w : World} {r : Nat} {m : TM} (h : MapIs w r m) (k : List UInt8) (hk : k.length = 12) :
    (Instr.lookup 84 (.map (some r)) (.agg (bC k)) false).run Try.prog w = .ok (.string ((getM m k).getD ⟨#[]⟩)) w := by
  obtain ⟨l, c, hr, rfl, h12, hp, hn⟩ := h
  have hz : ∀ w, (zeroValue 9).run Try.prog w = .ok (.string ⟨#[]⟩) w := fun w => by kernel_rfl
  have hg : (getObj r).run Try.prog w = .ok (mObj l c) w := by simp [getObj, Sem.run, hr, mObj]
  simp only [Instr.lookup, Sem.run_bind, run_underlying Try.underlying84, Result.andThen_ok, hg, mObj, Sem.run_pure, run_checkKeyN _ 9998 w k hk, run_findKeyN w k hk l (fun e he => (h12 e he).1)]
  rcases findM_spec (k := k) l 0 with ⟨e1, e2⟩ | ⟨j, hj, e1, e2⟩
  · rw [e1, get_not e2]; simp [hz]
  · rw [e1, get_at hn hj e2]; simp
theorem MapIs.lookOk {w : World} {r : Nat} {m : TM} (h : MapIs w r m) (k : List UInt8) (hk : k.length = 12) :
    (Instr.lookup 84 (.map (some r)) (.agg (bC k)) true).run Try.prog w = .ok (.tuple #[.string ((getM m k).getD ⟨#[]⟩), .bool (getM m k).isSome]) w := by
  obtain ⟨l, c, hr, rfl, h12, hp, hn⟩ := h
  have hz : ∀ w, (zeroValue 9).run Try.prog w = .ok (.string ⟨#[]⟩) w := fun w => by kernel_rfl
  have hg : (getObj r).run Try.prog w = .ok (mObj l c) w := by simp [getObj, Sem.run, hr, mObj]
  simp only [Instr.lookup, Sem.run_bind, run_underlying Try.underlying84, Result.andThen_ok, hg, mObj, Sem.run_pure, run_checkKeyN _ 9998 w k hk, run_findKeyN w k hk l (fun e he => (h12 e he).1)]
  rcases findM_spec (k := k) l 0 with ⟨e1, e2⟩ | ⟨j, hj, e1, e2⟩
  · rw [e1, get_not e2]; simp [hz]
  · rw [e1, get_at hn hj e2]; simp
end Go.Proofs.Ytpnmficlebnajaa
