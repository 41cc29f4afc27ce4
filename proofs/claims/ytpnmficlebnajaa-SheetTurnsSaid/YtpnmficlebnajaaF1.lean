/- What a sheet's text reads as, in plain Lean. -/
import Derived.Test.YtpnmficlebnajaaE1
namespace Go.Proofs.Ytpnmficlebnajaa

/-- A line's text, read: none where it can't be. -/
def unesc : List UInt8 → Option (List UInt8)
  | [] => some []
  | c :: l =>
    if c = 13 then none else
    if c = 92 then
      match l with
      | [] => none
      | d :: l' => if d = 110 then (unesc l').map (10 :: ·) else if d = 114 then (unesc l').map (13 :: ·) else if d = 92 then (unesc l').map (92 :: ·) else none
    else (unesc l).map (c :: ·)

theorem unesc_cr (l : List UInt8) : unesc (13 :: l) = none := by cases l <;> simp [unesc]
theorem unesc_raw {c : UInt8} (l : List UInt8) (h1 : c ≠ 13) (h2 : c ≠ 92) : unesc (c :: l) = (unesc l).map (c :: ·) := by
  cases l <;> simp [unesc, h1, h2]
theorem unesc_end : unesc [92] = none := by simp [unesc]
theorem unesc_n (l : List UInt8) : unesc (92 :: 110 :: l) = (unesc l).map (10 :: ·) := by simp [unesc]
theorem unesc_r (l : List UInt8) : unesc (92 :: 114 :: l) = (unesc l).map (13 :: ·) := by simp [unesc]
theorem unesc_b (l : List UInt8) : unesc (92 :: 92 :: l) = (unesc l).map (92 :: ·) := by simp [unesc]
theorem unesc_bad {d : UInt8} (l : List UInt8) (h1 : d ≠ 110) (h2 : d ≠ 114) (h3 : d ≠ 92) : unesc (92 :: d :: l) = none := by
  simp [unesc, h1, h2, h3]

/-- What was read is told as it was, where no line's end stood in it. -/
theorem esc_unesc : ∀ (n : Nat) (l u : List UInt8), l.length ≤ n → (∀ c ∈ l, c ≠ 10) → unesc l = some u → escL u = l
  | _, [], u, _, _, h => by
    obtain rfl : [] = u := by simpa [unesc] using h
    rfl
  | 0, c :: l, _, hn, _, _ => by simp at hn
  | n + 1, c :: l, u, hn, h10, h => by
    have hl : l.length ≤ n := by simpa using hn
    have hc10 : c ≠ 10 := h10 c (by simp)
    by_cases h13 : c = 13
    · subst h13; rw [unesc_cr] at h; cases h
    · by_cases h92 : c = 92
      · subst h92
        cases l with
        | nil => rw [unesc_end] at h; cases h
        | cons d l' =>
          have hl' : l'.length ≤ n := by simp at hl; omega
          have h10' : ∀ c ∈ l', c ≠ 10 := fun c hc => h10 c (by simp [hc])
          by_cases e1 : d = 110
          · subst e1
            rw [unesc_n] at h
            obtain ⟨v, hv, rfl⟩ := Option.map_eq_some_iff.1 h
            have := esc_unesc n l' v hl' h10' hv
            show escB 10 ++ escL v = _
            rw [this]; rfl
          · by_cases e2 : d = 114
            · subst e2
              rw [unesc_r] at h
              obtain ⟨v, hv, rfl⟩ := Option.map_eq_some_iff.1 h
              have := esc_unesc n l' v hl' h10' hv
              show escB 13 ++ escL v = _
              rw [this]; rfl
            · by_cases e3 : d = 92
              · subst e3
                rw [unesc_b] at h
                obtain ⟨v, hv, rfl⟩ := Option.map_eq_some_iff.1 h
                have := esc_unesc n l' v hl' h10' hv
                show escB 92 ++ escL v = _
                rw [this]; rfl
              · rw [unesc_bad l' e1 e2 e3] at h; cases h
      · rw [unesc_raw l h13 h92] at h
        obtain ⟨v, hv, rfl⟩ := Option.map_eq_some_iff.1 h
        have := esc_unesc n l v hl (fun c hc => h10 c (by simp [hc])) hv
        show escB c ++ escL v = _
        rw [this]
        simp [escB, hc10, h13, h92]
theorem unesc_le : ∀ (n : Nat) (l u : List UInt8), l.length ≤ n → unesc l = some u → u.length ≤ l.length
  | _, [], u, _, h => by
    obtain rfl : [] = u := by simpa [unesc] using h
    simp
  | 0, c :: l, _, hn, _ => by simp at hn
  | n + 1, c :: l, u, hn, h => by
    have hl : l.length ≤ n := by simpa using hn
    by_cases h13 : c = 13
    · subst h13; rw [unesc_cr] at h; cases h
    · by_cases h92 : c = 92
      · subst h92
        cases l with
        | nil => rw [unesc_end] at h; cases h
        | cons d l' =>
          have hl' : l'.length ≤ n := by simp at hl; omega
          have key : ∀ x, (unesc l').map (x :: ·) = some u → u.length ≤ (92 :: d :: l').length := fun x hx => by
            obtain ⟨v, hv, rfl⟩ := Option.map_eq_some_iff.1 hx
            have := unesc_le n l' v hl' hv
            simp; omega
          by_cases e1 : d = 110
          · subst e1; rw [unesc_n] at h; exact key _ h
          · by_cases e2 : d = 114
            · subst e2; rw [unesc_r] at h; exact key _ h
            · by_cases e3 : d = 92
              · subst e3; rw [unesc_b] at h; exact key _ h
              · rw [unesc_bad l' e1 e2 e3] at h; cases h
      · rw [unesc_raw l h13 h92] at h
        obtain ⟨v, hv, rfl⟩ := Option.map_eq_some_iff.1 h
        have := unesc_le n l v hl hv
        simp; omega

/-- Behind k bytes that read as A. -/
def unA (l : List UInt8) (k : Nat) (A : List UInt8) : Prop := unesc l = (unesc (l.drop k)).map (A ++ ·)
theorem unA_zero (l : List UInt8) : unA l 0 [] := by
  show unesc l = (unesc l).map ([] ++ ·)
  cases unesc l <;> rfl
theorem unA_step {l : List UInt8} {k j : Nat} {A : List UInt8} {x : UInt8} (h : unA l k A) (hs : unesc (l.drop k) = (unesc (l.drop j)).map (x :: ·)) : unA l j (A ++ [x]) := by
  unfold unA at h ⊢
  rw [h, hs]
  cases unesc (l.drop j) <;> simp
theorem unA_none {l : List UInt8} {k : Nat} {A : List UInt8} (h : unA l k A) (hs : unesc (l.drop k) = none) : unesc l = none := by
  unfold unA at h; rw [h, hs]; rfl
theorem unA_end {l : List UInt8} {k : Nat} {A : List UInt8} (h : unA l k A) (hk : l.length ≤ k) : unesc l = some A := by
  unfold unA at h
  rw [h, List.drop_eq_nil_of_le hk]; simp [unesc]
end Go.Proofs.Ytpnmficlebnajaa
