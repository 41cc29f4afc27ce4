/- What a sheet's text is, in plain Lean. -/
import Derived.Test.YtpnmficlebnajaaTX
namespace Go.Proofs.Ytpnmficlebnajaa

/-- A byte, as it stands in a line. -/
def escB (c : UInt8) : List UInt8 := if c = 10 then [92, 110] else if c = 13 then [92, 114] else if c = 92 then [92, 92] else [c]
def escL (l : List UInt8) : List UInt8 := l.flatMap escB
theorem escB_le (c : UInt8) : (escB c).length ≤ 2 := by unfold escB; repeat (first | split | simp)
theorem escL_le : ∀ l : List UInt8, (escL l).length ≤ 2 * l.length
  | [] => by simp [escL]
  | c :: l => by
    have h1 := escB_le c
    have h2 := escL_le l
    show ((c :: l).flatMap escB).length ≤ _
    rw [List.flatMap_cons, List.length_append, List.length_cons]
    show _ + (escL l).length ≤ _
    omega
theorem escL_snoc (l : List UInt8) (k : Nat) (h : k < l.length) : escL (l.take (k + 1)) = escL (l.take k) ++ escB l[k] := by
  rw [List.take_succ_eq_append_getElem h, escL, List.flatMap_append]; simp [escL]

/-- An entry: a name's twelve bytes, a text. -/
structure Ent where
  n : List UInt8
  hn : n.length = 12
  t : ByteArray
/-- May an entry stand behind some? 0: it may; else the error. -/
def behindE (l : List Ent) (x : Ent) : Nat :=
  if 16 ≤ l.length then 2 else if rightB x.n = false then 15 else if 60 < x.t.size then 2 else
  match l.getLast? with
  | some y => if lessL y.n x.n then 0 else 8
  | none => 0
def lineL (x : Ent) : List UInt8 := textL x.n ++ [61] ++ escL x.t.data.toList ++ [10]
/-- The first error of the first k. -/
def errF (l : List Ent) : Nat → Nat
  | 0 => 0
  | k + 1 => if errF l k = 0 then (match l[k]? with | some x => behindE (l.take k) x | none => 0) else errF l k
theorem errF_step {l : List Ent} {k : Nat} (h : k < l.length) (h0 : errF l k = 0) : errF l (k + 1) = behindE (l.take k) l[k] := by
  rw [errF, if_pos h0, List.getElem?_eq_getElem h]
theorem errF_stays {l : List Ent} {k : Nat} (h : errF l k ≠ 0) : ∀ m, errF l (k + m) = errF l k
  | 0 => rfl
  | m + 1 => by
    have := errF_stays h m
    show errF l (k + m + 1) = _
    rw [errF, this, if_neg h]
def linesL (l : List Ent) : List UInt8 := l.flatMap lineL
theorem linesL_snoc (l : List Ent) (k : Nat) (h : k < l.length) : linesL (l.take (k + 1)) = linesL (l.take k) ++ lineL l[k] := by
  rw [List.take_succ_eq_append_getElem h, linesL, List.flatMap_append]; simp [linesL]
def printE (l : List Ent) : Nat := if errF l l.length = 0 then (if 1200 < (linesL l).length then 2 else 0) else errF l l.length
def printT (l : List Ent) : List UInt8 := if printE l = 0 then linesL l else []
theorem printE_stop {l : List Ent} {k e : Nat} (h : k < l.length) (h0 : errF l k = 0) (he : behindE (l.take k) l[k] = e) (hne : e ≠ 0) : printE l = e ∧ printT l = [] := by
  have h1 : errF l (k + 1) = e := by rw [errF_step h h0, he]
  have h2 : errF l l.length = e := by
    have := errF_stays (l := l) (k := k + 1) (by rw [h1]; exact hne) (l.length - (k + 1))
    rw [show k + 1 + (l.length - (k + 1)) = l.length by omega, h1] at this
    exact this
  have h3 : printE l = e := by rw [printE, h2, if_neg hne]
  exact ⟨h3, by rw [printT, h3, if_neg hne]⟩
theorem line_le (x : Ent) (h : x.t.size ≤ 60) : (lineL x).length ≤ 134 := by
  have h1 := escL_le x.t.data.toList
  have h2 : (textL x.n).length ≤ 12 := by
    unfold textL; split
    · have := front_length x.n; rw [x.hn] at this; exact this
    · simp
  have h3 : x.t.data.toList.length = x.t.size := by simp
  simp only [lineL, List.length_append, List.length_singleton]
  omega
theorem err_text {l : List Ent} : ∀ {k : Nat}, k ≤ l.length → errF l k = 0 → k ≤ 16 ∧ ∀ i (h : i < l.length), i < k → l[i].t.size ≤ 60 ∧ rightB l[i].n = true
  | 0, _, _ => ⟨by omega, fun i _ h => by omega⟩
  | k + 1, hk, h0 => by
    have hk' : k < l.length := by omega
    have hz : errF l k = 0 := by
      rcases Nat.eq_zero_or_pos (errF l k) with h | h
      · exact h
      · rw [errF, if_neg (by omega)] at h0; exact h0
    have hb := errF_step hk' hz
    rw [h0] at hb
    obtain ⟨g1, g2⟩ := err_text (by omega) hz
    have hbe := hb.symm
    unfold behindE at hbe
    rw [List.length_take, Nat.min_eq_left (by omega)] at hbe
    by_cases b1 : 16 ≤ k
    · rw [if_pos b1] at hbe; cases hbe
    · rw [if_neg b1] at hbe
      by_cases b2 : rightB l[k].n = false
      · rw [if_pos b2] at hbe; cases hbe
      · rw [if_neg b2] at hbe
        by_cases b3 : 60 < l[k].t.size
        · rw [if_pos b3] at hbe; cases hbe
        · refine ⟨by omega, fun i h hi => ?_⟩
          by_cases e : i = k
          · subst e; exact ⟨by omega, by simpa using b2⟩
          · exact g2 i h (by omega)
theorem lines_le {l : List Ent} : ∀ {k : Nat}, k ≤ l.length → errF l k = 0 → (linesL (l.take k)).length ≤ k * 134
  | 0, _, _ => by simp [linesL]
  | k + 1, hk, h0 => by
    have hk' : k < l.length := by omega
    have hz : errF l k = 0 := by
      rcases Nat.eq_zero_or_pos (errF l k) with h | h
      · exact h
      · rw [errF, if_neg (by omega)] at h0; exact h0
    have h1 := lines_le (l := l) (k := k) (by omega) hz
    have h2 := line_le l[k] ((err_text hk h0).2 k hk' (by omega)).1
    rw [linesL_snoc l k hk', List.length_append]
    omega
end Go.Proofs.Ytpnmficlebnajaa
