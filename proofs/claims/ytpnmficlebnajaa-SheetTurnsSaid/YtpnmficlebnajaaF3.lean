/- Lines and sheets, read, in plain Lean. -/
import Derived.Test.YtpnmficlebnajaaF2
import Derived.Test.YtpnmficlebnajaaTX
import Derived.Lib.IndexLaws
namespace Go.Proofs.Ytpnmficlebnajaa

/-- A byte's place: none, or what stands ahead and behind. -/
theorem idx_none {l : List UInt8} {c : UInt8} (h : Lib.indexByte l c < 0) : Lib.indexByte l c = -1 ∧ ∀ x ∈ l, x ≠ c := by
  have h1 : Lib.indexByte l c = -1 := by have := Lib.indexByte_ge l c; omega
  refine ⟨h1, fun x hx e => ?_⟩
  obtain ⟨i, hi, rfl⟩ := List.mem_iff_getElem.1 hx
  exact Lib.indexByte_none h1 i (by rw [List.getElem?_eq_getElem hi, e])
theorem idx_some {l : List UInt8} {c : UInt8} (h : ¬ Lib.indexByte l c < 0) : ∃ k : Nat, Lib.indexByte l c = k ∧ (Lib.indexByte l c).toNat = k ∧ k < l.length ∧ l = l.take k ++ [c] ++ l.drop (k + 1) ∧ ∀ x ∈ l.take k, x ≠ c := by
  obtain ⟨k, hk⟩ : ∃ k : Nat, Lib.indexByte l c = k := ⟨(Lib.indexByte l c).toNat, by omega⟩
  obtain ⟨h1, h2⟩ := Lib.indexByte_some hk
  obtain ⟨hl, hc⟩ := List.getElem?_eq_some_iff.1 h1
  refine ⟨k, hk, by omega, hl, ?_, fun x hx e => ?_⟩
  · rw [List.append_assoc, List.singleton_append, ← hc, ← List.drop_eq_getElem_cons hl, List.take_append_drop]
  · obtain ⟨i, hi, rfl⟩ := List.mem_iff_getElem.1 hx
    rw [List.length_take] at hi
    rw [List.getElem_take] at e
    exact h2 i (by omega) (by rw [List.getElem?_eq_getElem (by omega), e])
theorem idx_of {l r : List UInt8} {c : UInt8} (h : ∀ x ∈ l, x ≠ c) : Lib.indexByte (l ++ [c] ++ r) c = l.length := by
  by_cases hn : Lib.indexByte (l ++ [c] ++ r) c < 0
  · exact absurd rfl ((idx_none hn).2 c (by simp))
  · obtain ⟨k, h1, _, h3, h4, h5⟩ := idx_some hn
    rw [h1]
    congr 1
    rcases Nat.lt_trichotomy k l.length with hk | hk | hk
    · obtain ⟨hx, _⟩ := Lib.indexByte_some h1
      rw [List.append_assoc, List.getElem?_append_left hk, List.getElem?_eq_getElem hk] at hx
      exact absurd (Option.some.inj hx) (h _ (List.getElem_mem hk))
    · exact hk
    · obtain ⟨_, hx⟩ := Lib.indexByte_some h1
      exact absurd (by simp) (hx l.length hk)

/-- A line's name, its text; the error. -/
def lineAt (l : List UInt8) : Nat := (Lib.indexByte l 61).toNat
def lineE (l : List UInt8) : Nat :=
  if Lib.indexByte l 61 < 0 then 3 else if isName (l.take (lineAt l)) = false then 15 else if unOk (l.drop (lineAt l + 1)) = false then 3 else 0
def lineX (l : List UInt8) : Ent := ⟨parseN (l.take (lineAt l)), parseN_length _, unT (l.drop (lineAt l + 1))⟩
def lineR (l : List UInt8) : Ent := if lineE l = 0 then lineX l else ⟨z12, rfl, ⟨#[]⟩⟩
theorem lineE_ok {l : List UInt8} (h : lineE l = 0) : ¬ Lib.indexByte l 61 < 0 ∧ isName (l.take (lineAt l)) = true ∧ unOk (l.drop (lineAt l + 1)) = true := by
  unfold lineE at h
  by_cases h1 : Lib.indexByte l 61 < 0
  · rw [if_pos h1] at h; cases h
  · rw [if_neg h1] at h
    by_cases h2 : isName (l.take (lineAt l)) = false
    · rw [if_pos h2] at h; cases h
    · rw [if_neg h2] at h
      by_cases h3 : unOk (l.drop (lineAt l + 1)) = false
      · rw [if_pos h3] at h; cases h
      · exact ⟨h1, by simpa using h2, by simpa using h3⟩
theorem unOk_some {l : List UInt8} (h : unOk l = true) : unesc l = some (unT l).data.toList := by
  unfold unOk at h
  obtain ⟨u, hu⟩ := Option.isSome_iff_exists.1 h
  rw [(un_some hu).1, hu]
theorem line_text {l : List UInt8} (h : lineE l = 0) (h10 : ∀ c ∈ l, c ≠ 10) : lineL (lineX l) = l ++ [10] := by
  obtain ⟨h1, h2, h3⟩ := lineE_ok h
  obtain ⟨k, g1, g2, g3, g4, g5⟩ := idx_some h1
  have hat : lineAt l = k := g2
  rw [hat] at h2 h3
  have e1 : textL (parseN (l.take k)) = l.take k := by rw [parseN, if_pos h2, text_pad h2]
  have e2 : escL (unT (l.drop (k + 1))).data.toList = l.drop (k + 1) :=
    esc_unesc _ _ _ (Nat.le_refl _) (fun c hc => h10 c (List.mem_of_mem_drop hc)) (unOk_some h3)
  show textL (parseN (l.take (lineAt l))) ++ [61] ++ escL (unT (l.drop (lineAt l + 1))).data.toList ++ [10] = _
  rw [hat, e1, e2, ← g4]

/-- How far a text's first line goes. -/
def cutAt (s : List UInt8) : Nat := (Lib.indexByte s 10).toNat
/-- What is wrong with the first line behind some entries. -/
def stepE (out : List Ent) (s : List UInt8) : Nat :=
  if Lib.indexByte s 10 < 0 then 4 else if 16 ≤ out.length then 2 else if lineE (s.take (cutAt s)) ≠ 0 then lineE (s.take (cutAt s)) else behindE out (lineX (s.take (cutAt s)))
def parR : Nat → List Ent → List UInt8 → List Ent × Nat × Nat
  | 0, out, _ => (out, 0, 0)
  | f + 1, out, s => if s = [] then (out, 0, 0) else if stepE out s = 0 then parR f (out ++ [lineX (s.take (cutAt s))]) (s.drop (cutAt s + 1)) else ([], out.length, stepE out s)
theorem parR_fuel : ∀ (n : Nat) (out : List Ent) (s : List UInt8), s.length ≤ n → parR n out s = parR s.length out s
  | 0, out, s, h => by
    obtain rfl : s = [] := List.length_eq_zero_iff.1 (by omega)
    rfl
  | n + 1, out, [], _ => by rfl
  | n + 1, out, c :: s, h => by
    have h' : s.length ≤ n := by simpa using h
    have hd : ((c :: s).drop (cutAt (c :: s) + 1)).length ≤ s.length := by simp
    show (if _ then _ else if _ then _ else _) = (if _ then _ else if _ then _ else _)
    rw [parR_fuel n _ _ (by omega), parR_fuel s.length _ _ hd]
/-- The sheet of a text; the line that is wrong, and how. -/
def parseS (s : List UInt8) : List Ent × Nat × Nat := if 1200 < s.length then ([], 0, 2) else parR s.length [] s
theorem parR_nil (out : List Ent) : parR 0 out [] = (out, 0, 0) := rfl
theorem parR_bad {out : List Ent} {s : List UInt8} {e : Nat} (hs : s ≠ []) (h : stepE out s = e) (he : e ≠ 0) : parR s.length out s = ([], out.length, e) := by
  cases s with
  | nil => exact absurd rfl hs
  | cons c s =>
    show (if _ then _ else if _ then _ else _) = _
    rw [if_neg hs, if_neg (by rw [h]; exact he), h]
theorem parR_ok {out : List Ent} {s : List UInt8} (hs : s ≠ []) (h : stepE out s = 0) : parR s.length out s = parR (s.drop (cutAt s + 1)).length (out ++ [lineX (s.take (cutAt s))]) (s.drop (cutAt s + 1)) := by
  cases s with
  | nil => exact absurd rfl hs
  | cons c s =>
    show (if _ then _ else if _ then _ else _) = _
    rw [if_neg hs, if_pos h, parR_fuel s.length _ _ (by simp)]
theorem stepE_ok {out : List Ent} {s : List UInt8} (h : stepE out s = 0) : ¬ Lib.indexByte s 10 < 0 ∧ out.length < 16 ∧ lineE (s.take (cutAt s)) = 0 ∧ behindE out (lineX (s.take (cutAt s))) = 0 := by
  unfold stepE at h
  by_cases h1 : Lib.indexByte s 10 < 0
  · rw [if_pos h1] at h; cases h
  · rw [if_neg h1] at h
    by_cases h2 : 16 ≤ out.length
    · rw [if_pos h2] at h; cases h
    · rw [if_neg h2] at h
      by_cases h3 : lineE (s.take (cutAt s)) = 0
      · rw [if_neg (by simpa using h3)] at h
        exact ⟨h1, by omega, h3, h⟩
      · rw [if_pos h3] at h; exact absurd h h3
theorem errF_app (l r : List Ent) : ∀ k, k ≤ l.length → errF (l ++ r) k = errF l k
  | 0, _ => rfl
  | k + 1, h => by
    rw [errF, errF, errF_app l r k (by omega), List.getElem?_append_left (by omega), List.take_append_of_le_length (by omega)]
theorem errF_snoc {l : List Ent} {x : Ent} (h : errF l l.length = 0) (hb : behindE l x = 0) : errF (l ++ [x]) (l ++ [x]).length = 0 := by
  rw [List.length_append]
  have h1 : errF (l ++ [x]) l.length = 0 := by rw [errF_app _ _ _ (Nat.le_refl _), h]
  have := errF_step (l := l ++ [x]) (k := l.length) (by simp) h1
  simp only [List.take_left', List.getElem_append_right (Nat.le_refl _), Nat.sub_self, List.getElem_cons_zero] at this
  exact this.trans hb
/-- What was parsed is printed as it was. -/
theorem parR_back : ∀ (n : Nat) (out : List Ent) (s : List UInt8) (x : List Ent) (at' : Nat), s.length ≤ n → errF out out.length = 0 → parR n out s = (x, at', 0) → at' = 0 ∧ errF x x.length = 0 ∧ linesL x = linesL out ++ s
  | 0, out, s, x, at', hs, he, h => by
    obtain rfl : s = [] := List.length_eq_zero_iff.1 (by omega)
    obtain ⟨rfl, rfl, _⟩ : out = x ∧ 0 = at' ∧ 0 = 0 := by simpa [parR] using h
    exact ⟨rfl, he, by simp⟩
  | n + 1, out, s, x, at', hs, he, h => by
    unfold parR at h
    by_cases h0 : s = []
    · rw [if_pos h0] at h
      obtain ⟨rfl, rfl⟩ : out = x ∧ 0 = at' := by simpa using h
      exact ⟨rfl, he, by simp [h0]⟩
    · rw [if_neg h0] at h
      by_cases h1 : stepE out s = 0
      · rw [if_pos h1] at h
        obtain ⟨g1, g2, g3, g4⟩ := stepE_ok h1
        obtain ⟨k, k1, k2, k3, k4, k5⟩ := idx_some g1
        have hk : cutAt s = k := k2
        rw [hk] at h g3 g4
        obtain ⟨r1, r2, r3⟩ := parR_back n _ _ x at' (by simp; omega) (errF_snoc he g4) h
        refine ⟨r1, r2, ?_⟩
        have e1 : linesL (out ++ [lineX (s.take k)]) = linesL out ++ (s.take k ++ [10]) := by
          rw [linesL, List.flatMap_append, ← line_text g3 k5]; simp [linesL]
        rw [r3, e1, List.append_assoc, ← k4]
      · rw [if_neg h1] at h
        have : stepE out s = 0 := by simpa using (congrArg (fun p => p.2.2) h)
        exact absurd this h1
theorem parseS_back {s : List UInt8} {x : List Ent} {at' : Nat} (h : parseS s = (x, at', 0)) : at' = 0 ∧ printE x = 0 ∧ printT x = s := by
  unfold parseS at h
  by_cases h1 : 1200 < s.length
  · rw [if_pos h1] at h
    have := congrArg (fun p => p.2.2) h
    cases this
  · rw [if_neg h1] at h
    obtain ⟨r1, r2, r3⟩ := parR_back _ _ _ _ _ (Nat.le_refl _) rfl h
    have r3' : linesL x = s := by simpa [linesL] using r3
    have hp : printE x = 0 := by rw [printE, if_pos r2, r3', if_neg h1]
    exact ⟨r1, hp, by rw [printT, if_pos hp, r3']⟩
end Go.Proofs.Ytpnmficlebnajaa
