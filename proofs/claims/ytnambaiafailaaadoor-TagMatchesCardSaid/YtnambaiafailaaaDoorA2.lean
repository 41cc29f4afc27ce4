/- Tags: the document's way comes to the same. Plain. -/
import Derived.Test.YtnambaiafailaaaDoorA1
namespace Go.Proofs.YtnambaiafailaaaDoor

def stepT (t : T3) (a : List UInt8) : Option T3 :=
  if isScript a = true ∧ t.script = [] ∧ t.region = [] then some { t with script := titleL a }
  else if isRegion a = true ∧ t.region = [] then some { t with region := a.map upB } else none
def foldT (t : T3) : List (List UInt8) → Option T3
  | [] => some t
  | a :: r => match stepT t a with
    | some t' => foldT t' r
    | none => none
theorem isScript_len {a : List UInt8} (h : isScript a = true) : a.length = 4 := by
  simp only [isScript, Bool.and_eq_true, decide_eq_true_eq] at h; exact h.1
theorem isRegion_len {a : List UInt8} (h : isRegion a = true) : a.length = 2 ∨ a.length = 3 := by
  simp only [isRegion, Bool.or_eq_true, Bool.and_eq_true, decide_eq_true_eq] at h
  rcases h with h | h
  · exact .inl h.1
  · exact .inr h.1
theorem titleL_len (a : List UInt8) : (titleL a).length = a.length := by cases a <;> simp [titleL]
theorem title_ne {a : List UInt8} (h : isScript a = true) : titleL a ≠ [] := by
  intro e
  have h1 := titleL_len a
  rw [e, isScript_len h] at h1; simp at h1
theorem region_ne {a : List UInt8} (h : isRegion a = true) : a.map upB ≠ [] := by
  intro e
  have : a.length = 0 := by have := congrArg List.length e; simpa using this
  rcases isRegion_len h with h | h <;> omega
theorem scr_not_reg {a : List UInt8} (h : isScript a = true) : isRegion a = false := by
  cases hr : isRegion a
  · rfl
  · have := isScript_len h
    rcases isRegion_len hr with h | h <;> omega
theorem foldT_full {t : T3} (h : t.region ≠ []) : ∀ r, foldT t r = if r = [] then some t else none
  | [] => rfl
  | a :: r => by
    rw [foldT, stepT, if_neg (fun e => h e.2.2), if_neg (fun e => h e.2)]
    simp
theorem foldT_reg {l s : List UInt8} (hs : s ≠ []) : ∀ r, foldT ⟨l, s, []⟩ r = if (reg r).2 = [] then some ⟨l, s, (reg r).1⟩ else none
  | [] => rfl
  | a :: r => by
    rw [foldT, stepT, if_neg (fun e => hs e.2.1)]
    by_cases h : isRegion a = true
    · rw [if_pos ⟨h, rfl⟩]
      simp only [reg, h, if_true]
      rw [foldT_full (region_ne h)]
    · rw [if_neg (fun e => h e.1)]
      simp [reg, h]
theorem parseR_fold (p : List UInt8) (r : List (List UInt8)) : parseR (p :: r) = if isLang p then foldT ⟨p.map loB, [], []⟩ r else none := by
  unfold parseR
  simp only
  split
  · cases r with
    | nil => rfl
    | cons a r =>
      by_cases h : isScript a = true
      · have e : stepT ⟨p.map loB, [], []⟩ a = some ⟨p.map loB, titleL a, []⟩ := by unfold stepT; rw [if_pos ⟨h, rfl, rfl⟩]
        simp only [scr, h, if_true, foldT, e]
        exact (foldT_reg (title_ne h) r).symm
      · by_cases hr : isRegion a = true
        · have e : stepT ⟨p.map loB, [], []⟩ a = some ⟨p.map loB, [], a.map upB⟩ := by unfold stepT; rw [if_neg (fun e => h e.1), if_pos ⟨hr, rfl⟩]
          simp only [scr, h, Bool.false_eq_true, if_false, reg, hr, if_true, foldT, e]
          rw [foldT_full (region_ne hr)]
        · have e : stepT ⟨p.map loB, [], []⟩ a = none := by unfold stepT; rw [if_neg (fun e => h e.1), if_neg (fun e => hr e.1)]
          simp only [scr, h, Bool.false_eq_true, if_false, reg, hr, foldT, e]
          rfl
  · rfl

/-! Zeros at the end. -/
theorem frontZ_pad (l : List UInt8) (k : Nat) (h : ∀ c ∈ l, c ≠ 0) : frontZ (l ++ List.replicate k 0) = l := by
  unfold frontZ Lib.trimRightB
  rw [List.reverse_append, List.reverse_replicate]
  have h1 : ∀ k (r : List UInt8), (∀ c ∈ r, c ≠ 0) → (List.replicate k 0 ++ r).dropWhile (· == 0) = r := by
    intro k r hr
    induction k with
    | zero =>
      cases r with
      | nil => rfl
      | cons c r => simp [hr c (by simp)]
    | succ k ih => simp only [List.replicate_succ, List.cons_append, List.dropWhile_cons]; simpa using ih
  rw [h1 k l.reverse (by simpa using h), List.reverse_reverse]
theorem frontZ_padTo (n : Nat) (l : List UInt8) (h : ∀ c ∈ l, c ≠ 0) : frontZ (padTo n l) = l := frontZ_pad l _ h
theorem frontZ_split : ∀ l : List UInt8, l = frontZ l ++ List.replicate (l.length - (frontZ l).length) 0 := by
  intro l
  unfold frontZ Lib.trimRightB
  have h1 : ∀ r : List UInt8, r = List.replicate (r.length - (r.dropWhile (· == 0)).length) 0 ++ r.dropWhile (· == 0) := by
    intro r
    induction r with
    | nil => rfl
    | cons c r ih =>
      by_cases hc : c = 0
      · subst hc
        have hle : (r.dropWhile (· == 0)).length ≤ r.length := (List.dropWhile_sublist _).length_le
        have e : (((0 : UInt8) :: r).dropWhile (· == 0)) = r.dropWhile (· == 0) := by simp
        rw [e, List.length_cons, Nat.succ_sub hle, List.replicate_succ, List.cons_append, ← ih]
      · have e : ((c :: r).dropWhile (· == 0)) = c :: r := by simp [hc]
        rw [e, Nat.sub_self]; rfl
  have := h1 l.reverse
  have h2 := congrArg List.reverse this
  rw [List.reverse_reverse, List.reverse_append, List.reverse_replicate] at h2
  rw [List.length_reverse] at h2
  rw [List.length_reverse]
  exact h2
theorem frontZ_le (l : List UInt8) : (frontZ l).length ≤ l.length := by
  unfold frontZ Lib.trimRightB
  rw [List.length_reverse]
  have := (List.dropWhile_sublist (l := l.reverse) (p := (· == (0 : UInt8)))).length_le
  rwa [List.length_reverse] at this
theorem padTo_front {n : Nat} {l : List UInt8} (h : l.length = n) : padTo n (frontZ l) = l := by
  subst h
  exact (frontZ_split l).symm
theorem padTo_len {n : Nat} {l : List UInt8} (h : l.length ≤ n) : (padTo n l).length = n := by unfold padTo; simp; omega
theorem bytT_fT {b : List UInt8} (h : b.length = 10) : bytT (fT b) = b := by
  unfold bytT fT
  rw [padTo_front (by simp; omega), padTo_front (by simp; omega), padTo_front (by simp; omega)]
  have e : List.drop 3 b = (List.drop 3 b).take 4 ++ List.drop 7 b := by
    have := (List.take_append_drop 4 (List.drop 3 b)).symm
    rwa [List.drop_drop] at this
  have e2 := (List.take_append_drop 3 b).symm
  rw [List.append_assoc, ← e, ← e2]
structure T3.ok (t : T3) : Prop where
  l3 : t.lang.length ≤ 3
  s4 : t.script.length ≤ 4
  r3 : t.region.length ≤ 3
  lz : ∀ c ∈ t.lang, c ≠ 45 ∧ c ≠ 0
  sz : ∀ c ∈ t.script, c ≠ 45 ∧ c ≠ 0
  rz : ∀ c ∈ t.region, c ≠ 45 ∧ c ≠ 0
theorem T3.ok.empty : T3.ok ⟨[], [], []⟩ := ⟨by simp, by simp, by simp, by simp, by simp, by simp⟩
theorem fT_bytT {t : T3} (h : t.ok) : fT (bytT t) = t := by
  unfold fT bytT
  have h1 := padTo_len (l := t.lang) h.l3
  have h2 := padTo_len (l := t.script) h.s4
  have e1 : (padTo 3 t.lang ++ padTo 4 t.script ++ padTo 3 t.region).take 3 = padTo 3 t.lang := by
    rw [List.append_assoc, List.take_left' h1]
  have e2 : ((padTo 3 t.lang ++ padTo 4 t.script ++ padTo 3 t.region).drop 3).take 4 = padTo 4 t.script := by
    rw [List.append_assoc, List.drop_left' h1, List.take_left' h2]
  have e3 : (padTo 3 t.lang ++ padTo 4 t.script ++ padTo 3 t.region).drop 7 = padTo 3 t.region := by
    rw [List.drop_left' (by rw [List.length_append, h1, h2])]
  rw [e1, e2, e3, frontZ_padTo _ _ fun c hc => (h.lz c hc).2, frontZ_padTo _ _ fun c hc => (h.sz c hc).2, frontZ_padTo _ _ fun c hc => (h.rz c hc).2]
theorem title_mem {a : List UInt8} (h : a.all ltB = true) : ∀ c ∈ titleL a, ltB c = true := by
  cases a with
  | nil => simp [titleL]
  | cons b a =>
    simp only [List.all_cons, Bool.and_eq_true, List.all_eq_true] at h
    intro c hc
    rcases List.mem_cons.1 hc with rfl | hc
    · rw [lt_up]; exact h.1
    · obtain ⟨d, hd, rfl⟩ := List.mem_map.1 hc
      rw [lt_lo]; exact h.2 d hd
theorem parseR_ok {r : List (List UInt8)} {t : T3} (h : parseR r = some t) : t.ok ∧ 2 ≤ t.lang.length := by
  unfold parseR at h
  cases r with
  | nil => cases h
  | cons p r =>
    simp only at h
    split at h
    · rename_i hp
      split at h
      · simp only [Option.some.injEq] at h
        subst h
        simp only [isLang, Bool.and_eq_true, decide_eq_true_eq, List.all_eq_true] at hp
        obtain ⟨⟨h2, h3⟩, hall⟩ := hp
        have hs : (scr r).1.length ≤ 4 ∧ ∀ c ∈ (scr r).1, c ≠ 45 ∧ c ≠ 0 := by
          cases r with
          | nil => simp [scr]
          | cons a r =>
            by_cases ha : isScript a = true
            · have e : scr (a :: r) = (titleL a, r) := by simp [scr, ha]
              rw [e]
              refine ⟨by rw [titleL_len, isScript_len ha]; exact Nat.le_refl _, fun c hc => lt_ne c (title_mem (a := a) ?_ c hc)⟩
              simp only [isScript, Bool.and_eq_true] at ha; exact ha.2
            · have e : scr (a :: r) = ([], a :: r) := by simp [scr, ha]
              rw [e]; simp
        have hr : ∀ r, (reg r).1.length ≤ 3 ∧ ∀ c ∈ (reg r).1, c ≠ 45 ∧ c ≠ 0 := by
          intro r
          cases r with
          | nil => simp [reg]
          | cons a r =>
            by_cases ha : isRegion a = true
            · have e : reg (a :: r) = (a.map upB, r) := by simp [reg, ha]
              rw [e]
              refine ⟨by rw [List.length_map]; rcases isRegion_len ha with h | h <;> omega, fun c hc => ?_⟩
              obtain ⟨d, hd, rfl⟩ := List.mem_map.1 hc
              simp only [isRegion, Bool.or_eq_true, Bool.and_eq_true, List.all_eq_true] at ha
              rcases ha with ha | ha
              · exact lt_ne _ (by rw [lt_up]; exact ha.2 d hd)
              · exact dg_ne _ (by rw [dg_up]; exact ha.2 d hd)
            · have e : reg (a :: r) = ([], a :: r) := by simp [reg, ha]
              rw [e]; simp
        refine ⟨⟨by rw [List.length_map]; exact h3, hs.1, (hr _).1, fun c hc => ?_, hs.2, (hr _).2⟩, by rw [List.length_map]; exact h2⟩
        obtain ⟨d, hd, rfl⟩ := List.mem_map.1 hc
        exact lt_ne _ (by rw [lt_lo]; exact hall d hd)
      · cases h
    · cases h
theorem parseT_ok {s : List UInt8} {t : T3} (h : parseT s = some t) : t.ok := by
  unfold parseT at h
  split at h
  · cases h; exact T3.ok.empty
  · exact (parseR_ok h).1

/-- The tag of ten bytes, as the document has it. -/
def ofT (b : List UInt8) : Option T3 :=
  if (fT b).lang = [] then (if (fT b) = ⟨[], [], []⟩ then some ⟨[], [], []⟩ else none) else match parseT (textT (fT b)) with
    | some x => if x = fT b then some (fT b) else none
    | none => none
theorem fT_zero : fT tag0 = ⟨[], [], []⟩ := by decide +kernel
theorem bytT_zero : bytT ⟨[], [], []⟩ = tag0 := by decide +kernel
theorem fT_empty {b : List UInt8} (h : b.length = 10) (he : fT b = ⟨[], [], []⟩) : b = tag0 := by
  rw [← bytT_fT h, he, bytT_zero]
theorem parse_noLang (s r : List UInt8) : parseT (textT ⟨[], s, r⟩) = none := by
  have h1 : textT ⟨[], s, r⟩ = dash s ++ dash r := by simp [textT]
  have h2 : dash s ++ dash r = [] ∨ ∃ l, dash s ++ dash r = 45 :: l := by
    unfold dash
    by_cases hs : s = []
    · by_cases hr : r = []
      · left; simp [hs, hr]
      · right; exact ⟨r, by simp [hs, hr]⟩
    · right; rw [if_neg hs]; exact ⟨_, rfl⟩
  rw [h1]
  rcases h2 with h2 | ⟨l, h2⟩
  · rw [h2]; decide +kernel
  · rw [h2, parseT, if_neg (by intro e; cases e), spl, if_pos rfl]
    rfl
theorem right_of {b : List UInt8} (h : b.length = 10) : rightT b = (ofT b).isSome := by
  unfold rightT plainL ofT
  by_cases h0 : b = tag0
  · subst h0
    rw [if_pos rfl, fT_zero]
    decide +kernel
  · rw [if_neg h0]
    by_cases hl : (fT b).lang = []
    · have hne : ¬ fT b = ⟨[], [], []⟩ := fun e => h0 (fT_empty h e)
      rw [if_pos hl, if_neg hne]
      have e : fT b = ⟨[], (fT b).script, (fT b).region⟩ := by rw [← hl]
      rw [e, parse_noLang]; rfl
    · rw [if_neg hl]
      cases hp : parseT (textT (fT b)) with
      | none => rfl
      | some x =>
        have hx := parseT_ok hp
        simp only
        by_cases he : x = fT b
        · rw [if_pos he, he, bytT_fT h]; simp
        · rw [if_neg he]
          have : bytT x ≠ b := fun e => he (by rw [← e, fT_bytT hx])
          simp [this]
theorem of_some {b : List UInt8} {t : T3} (_ : b.length = 10) (ho : ofT b = some t) : t = fT b := by
  unfold ofT at ho
  split at ho
  · split at ho
    · rename_i he; cases ho; exact he.symm
    · cases ho
  · split at ho
    · split at ho
      · cases ho; rfl
      · cases ho
    · cases ho
end Go.Proofs.YtnambaiafailaaaDoor
