/- The pure table: pins, unpins, and what stays true. -/
import Derived.Test.YtmdhlpnieimdaaaI3
namespace Go.Proofs.Ytmdhlpnieimdaaa

def cntP (p : Nat → Bool) : Nat → Nat
  | 0 => 0
  | n + 1 => cntP p n + if p n then 1 else 0
theorem cntP_le (p : Nat → Bool) : ∀ n, cntP p n ≤ n
  | 0 => Nat.le_refl _
  | n + 1 => by have := cntP_le p n; rw [cntP]; split <;> omega
theorem cntP_same {p q : Nat → Bool} : ∀ n, (∀ i, i < n → p i = q i) → cntP p n = cntP q n
  | 0, _ => rfl
  | n + 1, h => by rw [cntP, cntP, h n (by omega), cntP_same n fun i hi => h i (by omega)]
theorem cntP_flip {p q : Nat → Bool} {j : Nat} : ∀ n, j < n → p j = true → q j = false → (∀ i, i ≠ j → p i = q i) → cntP p n = cntP q n + 1
  | 0, h, _, _, _ => by omega
  | n + 1, h, h1, h2, h3 => by
    rw [cntP, cntP]
    by_cases e : j = n
    · subst e
      rw [h1, h2, cntP_same j fun i hi => h3 i (by omega)]; rfl
    · rw [cntP_flip n (by omega) h1 h2 h3, h3 n (by omega)]; omega
theorem cntP_pos {p : Nat → Bool} {j : Nat} : ∀ n, j < n → p j = true → 0 < cntP p n
  | 0, h, _ => by omega
  | n + 1, h, h1 => by
    rw [cntP]
    by_cases e : j = n
    · subst e; rw [h1]; simp
    · have := cntP_pos n (by omega) h1; omega
theorem cntP_none {p : Nat → Bool} : ∀ n, (∀ i, i < n → p i = false) → cntP p n = 0
  | 0, _ => rfl
  | n + 1, h => by rw [cntP, cntP_none n fun i hi => h i (by omega), h n (by omega)]; rfl
theorem cntTo_eq (x : Nat) : ∀ n, cntTo x n = cntP x.testBit n
  | 0 => rfl
  | n + 1 => by rw [cntTo, cntP, cntTo_eq x n]

/-- A table's state. -/
structure PS where
  used : Nat
  times : List Nat
  f : Nat → Nat
  K : List Nat
def PS.at1 (s : PS) (i : Nat) : Nat := s.times.getD i 0
def PS.is (s : PS) (t : Nat) (i : Nat) : Bool := s.used.testBit i && s.at1 i == t
structure PS.Ok (s : PS) : Prop where
  hu : s.used < 18446744073709551616
  hl : s.times.length = 64
  hf : ∀ t, s.f t = cntP (s.is t) 64
  hn : s.K.Nodup
  hk : ∀ t, t ∈ s.K ↔ s.f t ≠ 0
def PS.empty : PS := ⟨0, List.replicate 64 0, fun _ => 0, []⟩
theorem PS.empty_ok : PS.empty.Ok := by
  refine ⟨by decide, rfl, fun t => ?_, List.nodup_nil, fun t => ?_⟩
  · rw [cntP_none]; rfl
    intro i _; simp [PS.is, PS.empty]
  · simp [PS.empty]
def PS.pin (s : PS) (k t : Nat) : PS := ⟨s.used ||| 2 ^ k, s.times.set k t, setF s.f t (s.f t + 1), addK s.K t⟩
/-- A word without a bit. -/
def clearB (u k : Nat) : Nat := u &&& (18446744073709551615 ^^^ 2 ^ k)
def PS.un (s : PS) (id : Int) : PS :=
  if hasL s.used id then
    ⟨clearB s.used id.toNat, s.times.set id.toNat 0, setF s.f (s.at1 id.toNat) (s.f (s.at1 id.toNat) - 1), if s.f (s.at1 id.toNat) - 1 = 0 then s.K.erase (s.at1 id.toNat) else s.K⟩
  else s
theorem pow_lt64 {k : Nat} (h : k < 64) : 2 ^ k < 18446744073709551616 := by
  have h64 : (18446744073709551616 : Nat) = 2 ^ 64 := by decide
  rw [h64]; exact Nat.pow_lt_pow_right (by omega) h
theorem clearB_test {u k : Nat} (hu : u < 18446744073709551616) (hk : k < 64) (i : Nat) : (clearB u k).testBit i = (u.testBit i && decide (i ≠ k)) := by
  have h64 : (18446744073709551616 : Nat) = 2 ^ 64 := by decide
  have e1 : (18446744073709551615 : Nat) = 2 ^ 64 - (0 + 1) := by decide
  rw [clearB, Nat.testBit_and, Nat.testBit_xor, e1, Nat.testBit_two_pow_sub_succ (by decide), Nat.testBit_two_pow]
  by_cases hi : i < 64
  · by_cases e : k = i
    · subst e; simp [hi]
    · have : i ≠ k := fun h => e h.symm
      simp [hi, e, this]
  · have h0 : u.testBit i = false := Nat.testBit_lt_two_pow (Nat.lt_of_lt_of_le (by rw [← h64]; exact hu) (Nat.pow_le_pow_right (by omega) (by omega)))
    simp [h0]
theorem clearB_lt {u k : Nat} (hu : u < 18446744073709551616) : clearB u k < 18446744073709551616 := Nat.lt_of_le_of_lt Nat.and_le_left hu
theorem or_test (u k i : Nat) : (u ||| 2 ^ k).testBit i = (u.testBit i || decide (i = k)) := by
  rw [Nat.testBit_or, Nat.testBit_two_pow]
  by_cases e : k = i
  · subst e; simp
  · have : ¬ i = k := fun h => e h.symm
    simp [e, this]
theorem at1_set {l : List Nat} {k t : Nat} (hk : k < l.length) (i : Nat) : (l.set k t).getD i 0 = if i = k then t else l.getD i 0 := by
  simp only [List.getD_eq_getElem?_getD, List.getElem?_set]
  by_cases e : k = i
  · subst e; simp [hk]
  · have : ¬ i = k := fun h => e h.symm
    simp [e, this]
theorem PS.pin_ok {s : PS} (h : s.Ok) {k : Nat} (hk : k < 64) (h0 : s.used.testBit k = false) (t : Nat) : (s.pin k t).Ok := by
  have h64 : (18446744073709551616 : Nat) = 2 ^ 64 := by decide
  have hkl : k < s.times.length := by rw [h.hl]; exact hk
  have his : ∀ x i, (s.pin k t).is x i = if i = k then t == x else s.is x i := fun x i => by
    simp only [PS.is, PS.pin, PS.at1, or_test, at1_set hkl]
    by_cases e : i = k
    · simp [e]
    · simp [e]
  have hcnt : ∀ x, (s.pin k t).f x = cntP ((s.pin k t).is x) 64 := fun x => by
    show setF s.f t (s.f t + 1) x = _
    unfold setF
    by_cases e : x = t
    · subst e
      rw [if_pos rfl, h.hf, cntP_flip 64 hk (p := (s.pin k x).is x) (q := s.is x) (by rw [his]; simp) (by simp [PS.is, h0]) fun i hi => by rw [his, if_neg hi]]
    · rw [if_neg e, h.hf]
      refine cntP_same 64 fun i _ => ?_
      rw [his]
      by_cases e' : i = k
      · subst e'
        have : (t == x) = false := by rw [beq_eq_false_iff_ne]; exact fun h => e h.symm
        rw [if_pos rfl, this]; simp [PS.is, h0]
      · rw [if_neg e']
  refine ⟨?_, by simp [PS.pin, h.hl], hcnt, ?_, fun x => ?_⟩
  · show s.used ||| 2 ^ k < _
    rw [h64]; exact Nat.or_lt_two_pow (by rw [← h64]; exact h.hu) (by rw [← h64]; exact pow_lt64 hk)
  · show (addK s.K t).Nodup
    unfold addK
    split
    · exact h.hn
    · exact List.nodup_append.2 ⟨h.hn, by simp, fun a ha b hb e => by simp at hb; subst hb; subst e; contradiction⟩
  · show x ∈ addK s.K t ↔ setF s.f t (s.f t + 1) x ≠ 0
    unfold addK setF
    by_cases e : x = t
    · subst e
      by_cases hm : x ∈ s.K <;> simp [hm]
    · rw [if_neg e]
      by_cases hm : t ∈ s.K
      · rw [if_pos hm]; exact h.hk x
      · rw [if_neg hm, List.mem_append]
        simp [e, h.hk x]
theorem PS.f_le {s : PS} (h : s.Ok) (t : Nat) : s.f t ≤ 64 := by rw [h.hf]; exact cntP_le _ _
theorem PS.f_pos {s : PS} (h : s.Ok) {k : Nat} (hk : k < 64) (h1 : s.used.testBit k = true) : 0 < s.f (s.at1 k) := by
  rw [h.hf]; exact cntP_pos 64 hk (by simp [PS.is, h1])
theorem hasL_spec {u : Nat} {id : Int} (h : hasL u id = true) : ∃ k : Nat, id = k ∧ k < 64 ∧ u.testBit k = true := by
  simp only [hasL, Bool.and_eq_true, decide_eq_true_eq] at h
  exact ⟨id.toNat, by omega, by omega, h.2⟩
theorem PS.un_ok {s : PS} (h : s.Ok) (id : Int) : (s.un id).Ok := by
  unfold PS.un
  cases hh : hasL s.used id
  · exact h
  obtain ⟨k, rfl, hk, h1⟩ := hasL_spec hh
  have hkl : k < s.times.length := by rw [h.hl]; exact hk
  rw [if_pos rfl]
  simp only [Int.toNat_natCast]
  generalize ht : s.at1 k = t
  have hpos : 0 < s.f t := by rw [← ht]; exact PS.f_pos h hk h1
  have his : ∀ x i, PS.is ⟨clearB s.used k, s.times.set k 0, setF s.f t (s.f t - 1), if s.f t - 1 = 0 then s.K.erase t else s.K⟩ x i = if i = k then false else s.is x i := fun x i => by
    simp only [PS.is, PS.at1, clearB_test h.hu hk, at1_set hkl]
    by_cases e : i = k
    · simp [e]
    · simp [e]
  refine ⟨clearB_lt h.hu, by simp [h.hl], fun x => ?_, ?_, fun x => ?_⟩
  · show setF s.f t (s.f t - 1) x = _
    unfold setF
    by_cases e : x = t
    · subst e
      have hfl := cntP_flip 64 hk (p := s.is x) (q := PS.is ⟨clearB s.used k, s.times.set k 0, setF s.f x (s.f x - 1), if s.f x - 1 = 0 then s.K.erase x else s.K⟩ x) (by simp [PS.is, h1, ht]) (by rw [his]; simp) fun i hi => by rw [his, if_neg hi]
      rw [if_pos rfl, h.hf, hfl]
      rfl
    · rw [if_neg e, h.hf]
      refine cntP_same 64 fun i _ => Eq.trans ?_ (his x i).symm
      by_cases e' : i = k
      · subst e'
        have : (t == x) = false := by rw [beq_eq_false_iff_ne]; exact fun h => e h.symm
        rw [if_pos rfl]; simp [PS.is, ht, this]
      · rw [if_neg e']
  · show (if s.f t - 1 = 0 then s.K.erase t else s.K).Nodup
    split
    · exact h.hn.erase t
    · exact h.hn
  · show x ∈ (if s.f t - 1 = 0 then s.K.erase t else s.K) ↔ setF s.f t (s.f t - 1) x ≠ 0
    unfold setF
    by_cases e : x = t
    · subst e
      rw [if_pos rfl]
      split
      · rename_i h0
        rw [h0]
        simp [h.hn.mem_erase_iff]
      · rename_i h0
        exact ⟨fun _ => h0, fun _ => (h.hk x).2 (by omega)⟩
    · rw [if_neg e]
      split
      · rw [h.hn.mem_erase_iff]
        simp [e, h.hk x]
      · exact h.hk x
end Go.Proofs.Ytmdhlpnieimdaaa
