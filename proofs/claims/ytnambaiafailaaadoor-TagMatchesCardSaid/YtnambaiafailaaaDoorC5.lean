/- Canonical tags, their parents and chains. Plain. -/
import Derived.Test.YtnambaiafailaaaDoorA2
namespace Go.Proofs.YtnambaiafailaaaDoor

structure canT (t : T3) : Prop where
  l : ∃ p, isLang p = true ∧ t.lang = p.map loB
  s : t.script = [] ∨ ∃ a, isScript a = true ∧ t.script = titleL a
  r : t.region = [] ∨ ∃ a, isRegion a = true ∧ t.region = a.map upB
theorem parseR_can {r : List (List UInt8)} {t : T3} (h : parseR r = some t) : canT t := by
  unfold parseR at h
  cases r with
  | nil => cases h
  | cons p r =>
    simp only at h
    split at h
    · rename_i hp
      split at h
      · simp only [Option.some.injEq] at h
        subst h
        refine ⟨⟨p, hp, rfl⟩, ?_, ?_⟩
        · cases r with
          | nil => exact .inl rfl
          | cons a r =>
            by_cases ha : isScript a = true
            · exact .inr ⟨a, ha, by simp [scr, ha]⟩
            · exact .inl (by simp [scr, ha])
        · cases (scr r).2 with
          | nil => exact .inl rfl
          | cons a r =>
            by_cases ha : isRegion a = true
            · exact .inr ⟨a, ha, by simp [reg, ha]⟩
            · exact .inl (by simp [reg, ha])
      · cases h
    · cases h
theorem isLang_lo {p : List UInt8} (h : isLang p = true) : isLang (p.map loB) = true := by
  unfold isLang at *
  simp only [List.length_map, List.all_map, Bool.and_eq_true] at *
  refine ⟨h.1, ?_⟩
  rw [List.all_eq_true] at *
  intro c hc
  rw [Function.comp, lt_lo]; exact h.2 c hc
theorem isScript_title {a : List UInt8} (h : isScript a = true) : isScript (titleL a) = true := by
  unfold isScript at *
  simp only [Bool.and_eq_true, decide_eq_true_eq] at *
  refine ⟨by rw [titleL_len]; exact h.1, ?_⟩
  rw [List.all_eq_true]
  exact title_mem h.2
theorem isRegion_up {a : List UInt8} (h : isRegion a = true) : isRegion (a.map upB) = true := by
  unfold isRegion at *
  simp only [List.length_map, List.all_map, Bool.or_eq_true, Bool.and_eq_true, decide_eq_true_eq] at *
  have e1 : (ltB ∘ upB) = ltB := funext fun c => lt_up c
  have e2 : (dgB ∘ upB) = dgB := funext fun c => dg_up c
  rw [e1, e2]; exact h
theorem map_lo_lo (p : List UInt8) : (p.map loB).map loB = p.map loB := by
  rw [List.map_map]; congr 1; funext c; exact lo_lo c
theorem map_up_up (p : List UInt8) : (p.map upB).map upB = p.map upB := by
  rw [List.map_map]; congr 1; funext c; exact up_up c
theorem title_title (a : List UInt8) : titleL (titleL a) = titleL a := by
  cases a with
  | nil => rfl
  | cons c a => simp only [titleL, up_up, map_lo_lo]
theorem canT.lne {t : T3} (h : canT t) : t.lang ≠ [] := by
  obtain ⟨p, hp, e⟩ := h.l
  rw [e]
  intro h0
  have : p = [] := by simpa using h0
  subst this
  simp [isLang] at hp
theorem canT.isl {t : T3} (h : canT t) : isLang t.lang = true := by
  obtain ⟨p, hp, e⟩ := h.l
  rw [e]; exact isLang_lo hp
theorem canT.ok {t : T3} (h : canT t) : t.ok := by
  obtain ⟨⟨p, hp, el⟩, hs, hr⟩ := h
  have hl := isLang_lo hp
  rw [← el] at hl
  simp only [isLang, Bool.and_eq_true, decide_eq_true_eq, List.all_eq_true] at hl
  refine ⟨hl.1.2, ?_, ?_, fun c hc => lt_ne c (hl.2 c hc), ?_, ?_⟩
  · rcases hs with e | ⟨a, ha, e⟩
    · rw [e]; simp
    · rw [e, titleL_len, isScript_len ha]; omega
  · rcases hr with e | ⟨a, ha, e⟩
    · rw [e]; simp
    · rw [e, List.length_map]; rcases isRegion_len ha with h | h <;> omega
  · rcases hs with e | ⟨a, ha, e⟩
    · rw [e]; simp
    · rw [e]
      intro c hc
      have := isScript_title ha
      simp only [isScript, Bool.and_eq_true, List.all_eq_true] at this
      exact lt_ne c (this.2 c hc)
  · rcases hr with e | ⟨a, ha, e⟩
    · rw [e]; simp
    · rw [e]
      intro c hc
      have := isRegion_up ha
      simp only [isRegion, Bool.or_eq_true, Bool.and_eq_true, List.all_eq_true] at this
      rcases this with h | h
      · exact lt_ne c (h.2 c hc)
      · exact dg_ne c (h.2 c hc)
def oneIf {α : Type} (l : List α) : List (List α) := if l = [] then [] else [l]
theorem spl_dash {d r : List UInt8} (p : List UInt8) (hp : ∀ c ∈ p, c ≠ 45) (hd : ∀ c ∈ d, c ≠ 45) (hr : ∀ c ∈ r, c ≠ 45) : spl 45 (p ++ dash d ++ dash r) = p :: (oneIf d ++ oneIf r) := by
  unfold dash oneIf
  by_cases h1 : d = []
  · by_cases h2 : r = []
    · simp only [h1, h2, if_true, List.append_nil]; exact spl_one hp
    · simp only [h1, h2, if_true, if_false, List.append_nil, List.nil_append]
      rw [spl_app _ hp, spl_one hr]
  · by_cases h2 : r = []
    · simp only [h1, h2, if_true, if_false, List.append_nil]
      rw [spl_app _ hp, spl_one hd]
    · simp only [h1, h2, if_false]
      rw [List.append_assoc, List.cons_append, spl_app _ hp, spl_app _ hd, spl_one hr]; rfl
theorem text_ne_root {t : T3} (h : canT t) : textT t ≠ rootL := by
  intro e
  have hl := h.isl
  simp only [isLang, Bool.and_eq_true, decide_eq_true_eq] at hl
  have hn : ∀ c ∈ textT t, c ≠ 45 := by rw [e]; decide
  have h1 : t.script = [] := by
    refine Decidable.byContradiction fun hs => hn 45 ?_ rfl
    simp [textT, dash, hs]
  have h2 : t.region = [] := by
    refine Decidable.byContradiction fun hs => hn 45 ?_ rfl
    simp [textT, dash, hs]
  have h3 := congrArg List.length e
  simp [textT, dash, h1, h2, rootL] at h3
  omega
theorem parse_can {t : T3} (h : canT t) : parseT (textT t) = some t := by
  have ho := h.ok
  unfold parseT
  rw [if_neg (text_ne_root h), textT, spl_dash _ (fun c hc => (ho.lz c hc).1) (fun c hc => (ho.sz c hc).1) (fun c hc => (ho.rz c hc).1)]
  obtain ⟨⟨p, hp, el⟩, hs, hr⟩ := h
  have hl : isLang t.lang = true := by rw [el]; exact isLang_lo hp
  have hll : t.lang.map loB = t.lang := by rw [el]; exact map_lo_lo p
  obtain ⟨L, S, R⟩ := t
  simp only at *
  unfold parseR
  simp only [hl, if_true, hll]
  rcases hs with rfl | ⟨a, ha, rfl⟩
  · rcases hr with rfl | ⟨r, hr, rfl⟩
    · rfl
    · have h1 := isRegion_up hr
      have h2 : isScript (r.map upB) = false := by
        cases hq : isScript (r.map upB)
        · rfl
        · have := isScript_len hq; rcases isRegion_len h1 with h | h <;> omega
      simp only [oneIf, if_true, region_ne hr, if_false, List.nil_append, scr, h2, Bool.false_eq_true, reg, h1, map_up_up]
  · have h1 := isScript_title ha
    rcases hr with rfl | ⟨r, hr, rfl⟩
    · simp only [oneIf, if_true, title_ne ha, if_false, List.append_nil, scr, h1, title_title, reg]
    · have h2 := isRegion_up hr
      simp only [oneIf, title_ne ha, region_ne hr, if_false, List.cons_append, List.nil_append, scr, h1, if_true, title_title, reg, h2, map_up_up]
theorem parseT_can {s : List UInt8} {t : T3} (h : parseT s = some t) : t = ⟨[], [], []⟩ ∨ canT t := by
  unfold parseT at h
  split at h
  · cases h; exact .inl rfl
  · exact .inr (parseR_can h)
theorem byt_ne0 {t : T3} (h : canT t) : bytT t ≠ tag0 := by
  intro e
  have := congrArg fT e
  rw [fT_bytT h.ok, fT_zero] at this
  exact h.lne (by rw [this])
theorem byt_len {t : T3} (h : t.ok) : (bytT t).length = 10 := by rw [bytT, List.length_append, List.length_append, padTo_len h.l3, padTo_len h.s4, padTo_len h.r3]
theorem plain_can {t : T3} (h : canT t) : plainL (bytT t) = textT t := by rw [plainL, if_neg (byt_ne0 h), fT_bytT h.ok]
theorem right_can {t : T3} (h : canT t) : rightT (bytT t) = true := by
  unfold rightT
  rw [plain_can h, parse_can h]; simp
theorem right_zero : rightT tag0 = true := by decide +kernel
theorem right_cases {b : List UInt8} (h : rightT b = true) : b = tag0 ∨ ∃ t, canT t ∧ b = bytT t := by
  unfold rightT at h
  cases hp : parseT (plainL b) with
  | none => rw [hp] at h; cases h
  | some t =>
    rw [hp] at h
    simp only [decide_eq_true_eq] at h
    rcases parseT_can hp with rfl | hc
    · left; rw [← h]; exact bytT_zero
    · exact .inr ⟨t, hc, h.symm⟩

/-- A tag's parent. -/
def parT (t : T3) : T3 := if t.region ≠ [] then ⟨t.lang, t.script, []⟩ else if t.script ≠ [] then ⟨t.lang, [], []⟩ else ⟨[], [], []⟩
def z3 : List UInt8 := [0, 0, 0]
def z4 : List UInt8 := [0, 0, 0, 0]
def parB (b : List UInt8) : List UInt8 := if b.drop 7 ≠ z3 then b.take 7 ++ z3 else if (b.drop 3).take 4 ≠ z4 then b.take 3 ++ z4 ++ b.drop 7 else tag0
theorem pad_zero {n : Nat} {l : List UInt8} (h : ∀ c ∈ l, c ≠ 45 ∧ c ≠ 0) (hl : l.length ≤ n) : padTo n l = List.replicate n 0 ↔ l = [] := by
  constructor
  · intro e
    cases l with
    | nil => rfl
    | cons c l =>
      cases n with
      | zero => simp at hl
      | succ n =>
        simp only [padTo, List.cons_append, List.replicate_succ, List.cons.injEq] at e
        exact absurd e.1 (h c (by simp)).2
  · rintro rfl; simp [padTo]
theorem byt_parts {t : T3} (h : t.ok) : (bytT t).drop 7 = padTo 3 t.region ∧ ((bytT t).drop 3).take 4 = padTo 4 t.script ∧ (bytT t).take 3 = padTo 3 t.lang ∧ (bytT t).take 7 = padTo 3 t.lang ++ padTo 4 t.script := by
  have h1 := padTo_len (l := t.lang) h.l3
  have h2 := padTo_len (l := t.script) h.s4
  unfold bytT
  refine ⟨?_, ?_, ?_, ?_⟩
  · rw [List.drop_left' (by rw [List.length_append, h1, h2])]
  · rw [List.append_assoc, List.drop_left' h1, List.take_left' h2]
  · rw [List.append_assoc, List.take_left' h1]
  · rw [List.take_left' (by rw [List.length_append, h1, h2])]
theorem par_byt {t : T3} (h : t.ok) : parB (bytT t) = bytT (parT t) := by
  obtain ⟨p1, p2, p3, p4⟩ := byt_parts h
  unfold parB parT
  rw [p1, p2, p3, p4]
  have e3 : z3 = List.replicate 3 0 := rfl
  have e4 : z4 = List.replicate 4 0 := rfl
  by_cases hr : t.region = []
  · have q1 : ¬ padTo 3 t.region ≠ z3 := by rw [e3, Ne, pad_zero h.rz h.r3]; simpa using hr
    have q2 : ¬ t.region ≠ [] := by simpa using hr
    rw [if_neg q1, if_neg q2]
    by_cases hs : t.script = []
    · have q3 : ¬ padTo 4 t.script ≠ z4 := by rw [e4, Ne, pad_zero h.sz h.s4]; simpa using hs
      have q4 : ¬ t.script ≠ [] := by simpa using hs
      rw [if_neg q3, if_neg q4]; exact bytT_zero.symm
    · have q3 : padTo 4 t.script ≠ z4 := by rw [e4, Ne, pad_zero h.sz h.s4]; exact hs
      rw [if_pos q3, if_pos hs, hr]
      simp [bytT, padTo, z4]
  · have q1 : padTo 3 t.region ≠ z3 := by rw [e3, Ne, pad_zero h.rz h.r3]; exact hr
    rw [if_pos q1, if_pos hr]
    simp [bytT, padTo, z3]
theorem par_can {t : T3} (h : canT t) : canT (parT t) ∨ parT t = ⟨[], [], []⟩ := by
  unfold parT
  split
  · exact .inl ⟨h.l, h.s, .inl rfl⟩
  · split
    · exact .inl ⟨h.l, .inl rfl, .inl rfl⟩
    · exact .inr rfl
/-- How far to root. -/
def farT (t : T3) : Nat := (if t.region ≠ [] then 1 else 0) + (if t.script ≠ [] then 1 else 0) + (if t.lang ≠ [] then 1 else 0)
theorem far_par {t : T3} (h : canT t) : farT (parT t) + 1 = farT t := by
  have hl := h.lne
  unfold farT parT
  by_cases hr : t.region = [] <;> by_cases hs : t.script = [] <;> simp [hr, hs, hl]
theorem far_le (t : T3) : farT t ≤ 3 := by
  unfold farT; repeat' split
  all_goals omega
/-- The chain of a right tag, as bytes. -/
def chF : Nat → List UInt8 → List (List UInt8)
  | 0, b => [b]
  | k + 1, b => if b = tag0 then [b] else b :: chF k (parB b)
def chB (b : List UInt8) : List (List UInt8) := if rightT b then chF 4 b else []
theorem right_par {b : List UInt8} (h : rightT b = true) (h0 : b ≠ tag0) : rightT (parB b) = true := by
  rcases right_cases h with rfl | ⟨t, ht, rfl⟩
  · exact absurd rfl h0
  · rw [par_byt ht.ok]
    rcases par_can ht with hc | hc
    · exact right_can hc
    · rw [hc, bytT_zero]; exact right_zero
end Go.Proofs.YtnambaiafailaaaDoor
