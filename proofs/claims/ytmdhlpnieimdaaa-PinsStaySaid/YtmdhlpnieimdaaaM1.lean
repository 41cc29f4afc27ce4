/- A map of counts by numbers: look-up, update. -/
import Derived.Test.YtmdhlpnieimdaaaT3
import Derived.MapKept
namespace Go.Proofs.Ytmdhlpnieimdaaa
open Go.RowKit

structure EntN where
  k : Nat
  n : Nat
  b : Nat
def EntN.e (x : EntN) : MapEntry := { key := .int .u64 x.k, val := .int .i64 x.n, born := x.b }
def mObjN (l : List EntN) (c : Nat) : Obj := .map (l.map EntN.e).toArray c

def findN (k : Nat) : List EntN → Nat → Option (Nat × Value)
  | [], _ => none
  | e :: es, i => if k = e.k then some (i, .int .i64 e.n) else findN k es (i + 1)
theorem find_now (k : Nat) : ∀ (l : List EntN) (i : Nat), Instr.findNow (.int .u64) (.int .u64 k) (l.map EntN.e) i = some (findN k l i)
  | [], i => rfl
  | e :: l, i => by
    rw [List.map_cons, Instr.findNow, findN]
    by_cases h : k = e.k
    · subst h; simp [EntN.e, Instr.sameNow]
    · have : ((k : Int) == (e.k : Int)) = false := by rw [beq_eq_false_iff_ne]; omega
      simp [EntN.e, Instr.sameNow, this, h, find_now k l (i + 1)]
theorem run_findKeyN (w : World) (k : Nat) (l : List EntN) : (Instr.findKey 23 (.int .u64 k) (l.map EntN.e)).run Try.prog w = .ok (findN k l 0) w :=
  MapKept.run_findKey Try.underlying23 (find_now k l 0)
theorem findN_none {k : Nat} : ∀ {l : List EntN} {i : Nat}, (∀ e ∈ l, e.k ≠ k) → findN k l i = none
  | [], _, _ => rfl
  | e :: l, i, h => by rw [findN, if_neg (Ne.symm (h e (by simp)))]; exact findN_none fun x hx => h x (by simp [hx])
theorem findN_spec {k : Nat} : ∀ (l : List EntN) (i : Nat), (findN k l i = none ∧ ∀ e ∈ l, e.k ≠ k) ∨ ∃ (j : Nat) (h : j < l.length), findN k l i = some (i + j, .int .i64 l[j].n) ∧ l[j].k = k
  | [], _ => .inl ⟨rfl, by simp⟩
  | e :: l, i => by
    by_cases h : k = e.k
    · exact .inr ⟨0, by simp, by simp [findN, h], h.symm⟩
    · rcases findN_spec (k := k) l (i + 1) with ⟨h1, h2⟩ | ⟨j, hj, h1, h2⟩
      · refine .inl ⟨by rw [findN, if_neg h, h1], ?_⟩
        intro x hx
        rcases List.mem_cons.1 hx with rfl | hx
        · exact Ne.symm h
        · exact h2 x hx
      · exact .inr ⟨j + 1, by simpa using hj, by rw [findN, if_neg h, h1]; simp; omega, by simpa using h2⟩
theorem run_lookupN (w : World) (r : Nat) (l : List EntN) (c k : Nat) (hr : w.heap[r]? = some (mObjN l c)) :
    (Instr.lookup 25 (.map (some r)) (.int .u64 k) false).run Try.prog w = .ok (((findN k l 0).map (·.2)).getD (.int .i64 0)) w := by
  have hz : ∀ w, (zeroValue 3).run Try.prog w = .ok (.int .i64 0) w := fun w => by kernel_rfl
  have hg : (getObj r).run Try.prog w = .ok (mObjN l c) w := by simp [getObj, Sem.run, hr, mObjN]
  have hc : ∀ b, (Instr.checkKey b 10000 23 (.int .u64 k)).run Try.prog w = .ok () w := fun b => MapKept.run_checkKey Try.underlying23 (by simp [MapKept.IsKey]) b 9999
  simp only [Instr.lookup, Sem.run_bind, run_underlying Try.underlying25, Result.andThen_ok, hg, mObjN, Sem.run_pure, hc, run_findKeyN w k l]
  cases findN k l 0 <;> simp [hz]

def putB (w : World) (r : Nat) (o : Obj) : World := { w with heap := w.heap.setIfInBounds r o }
theorem map_modN (l : List EntN) (j n : Nat) : (l.modify j fun e => { e with n := n }).map EntN.e = (l.map EntN.e).modify j fun e => { e with val := .int .i64 n } := by
  apply List.ext_getElem?
  intro i
  rw [List.getElem?_map, List.getElem?_modify, List.getElem?_modify, List.getElem?_map]
  cases l[i]? with
  | none => rfl
  | some x => by_cases h : j = i <;> simp [h, EntN.e]
theorem run_updateN_new (w : World) (r : Nat) (l : List EntN) (c k n : Nat) (hn : ∀ e ∈ l, e.k ≠ k) (hr : w.heap[r]? = some (mObjN l c)) :
    (Instr.mapUpdate 25 (.map (some r)) (.int .u64 k) (.int .i64 n)).run Try.prog w = .ok () (putB w r (mObjN (l ++ [⟨k, n, c⟩]) (c + 1))) := by
  have hg : (getObj r).run Try.prog w = .ok (mObjN l c) w := by simp [getObj, Sem.run, hr, mObjN]
  have hc : ∀ b, (Instr.checkKey b 10000 23 (.int .u64 k)).run Try.prog w = .ok () w := fun b => MapKept.run_checkKey Try.underlying23 (by simp [MapKept.IsKey]) b 9999
  simp only [Instr.mapUpdate, Sem.run_bind, run_underlying Try.underlying25, Result.andThen_ok, hg, mObjN, Sem.run_pure, hc, run_findKeyN w k l, findN_none hn]
  rw [MapKept.run_setObj_map _ hr]
  simp [mObjN, EntN.e, putB]
theorem run_updateN_old (w : World) (r : Nat) (l : List EntN) (c k n j : Nat) (hj : j < l.length) (hf : findN k l 0 = some (j, .int .i64 l[j].n)) (hkj : l[j].k = k) (hr : w.heap[r]? = some (mObjN l c)) :
    (Instr.mapUpdate 25 (.map (some r)) (.int .u64 k) (.int .i64 n)).run Try.prog w = .ok () (putB w r (mObjN (l.modify j fun e => { e with n := n }) c)) := by
  have hg : (getObj r).run Try.prog w = .ok (mObjN l c) w := by simp [getObj, Sem.run, hr, mObjN]
  have hc : ∀ b, (Instr.checkKey b 10000 23 (.int .u64 k)).run Try.prog w = .ok () w := fun b => MapKept.run_checkKey Try.underlying23 (by simp [MapKept.IsKey]) b 9999
  have he : ((l.map EntN.e).toArray[j]?) = some l[j].e := by simp [hj]
  have hek : l[j].e.key = .int .u64 k := by rw [← hkj]; rfl
  have hst : (Instr.keyThatStays (.int .u64 k) (.int .u64 k)).run Try.prog w = .ok (.int .u64 k) w := by simp [Instr.keyThatStays, Instr.sameBits]
  have hsame : (l.map EntN.e).toArray.modify j (fun e => { e with key := .int .u64 k, val := .int .i64 n }) = ((l.map EntN.e).modify j fun e => { e with val := .int .i64 n }).toArray := by
    apply Array.ext_getElem?
    intro i
    rw [Array.getElem?_modify, List.getElem?_toArray, List.getElem?_toArray, List.getElem?_modify]
    by_cases hi : j = i
    · subst hi
      have hx : (l.map EntN.e)[j]? = some l[j].e := by simp [hj]
      rw [if_pos rfl, hx]
      rw [← hek]; simp
    · rw [if_neg hi]
      cases (l.map EntN.e)[i]? with
      | none => rfl
      | some x => simp [hi]
  simp only [Instr.mapUpdate, Sem.run_bind, run_underlying Try.underlying25, Result.andThen_ok, hg, mObjN, Sem.run_pure, hc, run_findKeyN w k l, hf, he, Option.map_some, Option.getD_some, hek, hst, hsame]
  rw [MapKept.run_setObj_map _ hr]
  simp [mObjN, putB, map_modN]
end Go.Proofs.Ytmdhlpnieimdaaa
