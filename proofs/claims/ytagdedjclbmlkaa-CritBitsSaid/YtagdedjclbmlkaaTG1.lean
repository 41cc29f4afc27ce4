/- Chapter 05's document on tags (texts of wip/T05, printed by gTG.py). -/
import Derived.Lib.SplitLaws
import Derived.Lib.TrimByte
import Derived.Lib.IndexBytes
import Derived.Deep.QuietTactic
import Derived.IntWalk
import Derived.WalkMore
import Derived.Laws.StructEq
import Derived.Deep.RegionHeld3
import Derived.Deep.DeepCutAuto
import Derived.Test.YtagdedjclbmlkaaGX
/- Tags as bytes: parts of a text, what is a tag's. Plain. -/
namespace Go.Proofs.Ytagdedjclbmlkaa.Tg

def ltB (c : UInt8) : Bool := (97 ≤ c && c ≤ 122) || (65 ≤ c && c ≤ 90)
def dgB (c : UInt8) : Bool := 48 ≤ c && c ≤ 57
def loB (c : UInt8) : UInt8 := if 65 ≤ c && c ≤ 90 then c + 32 else c
def upB (c : UInt8) : UInt8 := if 97 ≤ c && c ≤ 122 then c - 32 else c
theorem u8_all {p : UInt8 → Prop} (h : ∀ n : Fin 256, p (UInt8.ofNat n.1)) (c : UInt8) : p c := by
  have := h ⟨c.toNat, c.toNat_lt⟩; simpa using this
theorem up_lo (c : UInt8) : upB (loB c) = upB c := by
  exact u8_all (p := fun c => upB (loB c) = upB c) (by decide +kernel) c
theorem lo_lo (c : UInt8) : loB (loB c) = loB c := by
  exact u8_all (p := fun c => loB (loB c) = loB c) (by decide +kernel) c
theorem up_up (c : UInt8) : upB (upB c) = upB c := by
  exact u8_all (p := fun c => upB (upB c) = upB c) (by decide +kernel) c
theorem lt_lo (c : UInt8) : ltB (loB c) = ltB c := by
  exact u8_all (p := fun c => ltB (loB c) = ltB c) (by decide +kernel) c
theorem lt_up (c : UInt8) : ltB (upB c) = ltB c := by
  exact u8_all (p := fun c => ltB (upB c) = ltB c) (by decide +kernel) c
theorem dg_up (c : UInt8) : dgB (upB c) = dgB c := by
  exact u8_all (p := fun c => dgB (upB c) = dgB c) (by decide +kernel) c
theorem lt_dg (c : UInt8) : ltB c = true → dgB c = false := by
  exact u8_all (p := fun c => ltB c = true → dgB c = false) (by decide +kernel) c
theorem lt_ne (c : UInt8) : ltB c = true → c ≠ 45 ∧ c ≠ 0 := by
  exact u8_all (p := fun c => ltB c = true → c ≠ 45 ∧ c ≠ 0) (by decide +kernel) c
theorem dg_ne (c : UInt8) : dgB c = true → c ≠ 45 ∧ c ≠ 0 := by
  exact u8_all (p := fun c => dgB c = true → c ≠ 45 ∧ c ≠ 0) (by decide +kernel) c

/-- The parts of a text. -/
def spl (d : UInt8) : List UInt8 → List (List UInt8)
  | [] => [[]]
  | c :: l => if c = d then [] :: spl d l else match spl d l with
    | p :: ps => (c :: p) :: ps
    | [] => [[c]]
theorem spl_ne (d : UInt8) (l : List UInt8) : spl d l ≠ [] := by
  cases l with
  | nil => simp [spl]
  | cons c l =>
    unfold spl
    split
    · simp
    · split <;> simp
theorem splitK_spl (d : UInt8) : ∀ s : List UInt8, Lib.splitK [d] 0 (s.count d) s = spl d s
  | [] => rfl
  | b :: l => by
    have ih := splitK_spl d l
    by_cases h : b = d
    · subst h
      have e : (b :: l).count b = l.count b + 1 := by simp
      have hi : Lib.index (b :: l) [b] = 0 := by rw [Lib.index]; simp [List.isPrefixOf]
      rw [e, Lib.splitK, hi, if_neg (by decide)]
      simp only [Int.toNat_zero, Nat.zero_add, List.take_zero, List.length_singleton, List.drop_succ_cons, List.drop_zero]
      rw [ih, spl, if_pos rfl]
    · have e : (b :: l).count d = l.count d := by rw [List.count_cons_of_ne (by simpa using h)]
      rw [e, spl, if_neg h, ← ih]
      cases hk : l.count d with
      | zero => rfl
      | succ m =>
        have hne : Lib.index l [d] ≠ -1 := by
          intro hx
          have h1 : Lib.count l [d] = 0 := by rw [Lib.count_miss hx]
          rw [Lib.count_one, hk] at h1; omega
        have hge := Lib.index_ge l [d]
        obtain ⟨i, hi⟩ : ∃ i : Nat, Lib.index l [d] = i := ⟨(Lib.index l [d]).toNat, by omega⟩
        have hb : Lib.index (b :: l) [d] = ((i + 1 : Nat) : Int) := by
          rw [Lib.index, if_neg (by simp [List.isPrefixOf]; exact fun e => h e.symm), if_neg (by rw [beq_iff_eq]; exact hne), hi]
          omega
        have t1 : ¬ (Lib.index (b :: l) [d] == -1) = true := by rw [beq_iff_eq, hb]; omega
        have t2 : ¬ (Lib.index l [d] == -1) = true := by rw [beq_iff_eq]; exact hne
        rw [Lib.splitK, if_neg t1, Lib.splitK, if_neg t2, hb, hi]
        simp
theorem splitB_spl (d : UInt8) (s : ByteArray) : (Lib.splitB ⟨#[d]⟩ 0 (Lib.countB s ⟨#[d]⟩) s).map (·.data.toList) = spl d s.data.toList := by
  rw [Lib.splitB_data]
  have : Lib.countB s ⟨#[d]⟩ = s.data.toList.count d := by
    show Lib.count s.data.toList [d] = _
    rw [Lib.count_one]
  rw [this]
  exact splitK_spl d _
theorem spl_noD (d : UInt8) : ∀ (l : List UInt8), ∀ p ∈ spl d l, ∀ c ∈ p, c ≠ d
  | [], p, hp, c, hc => by simp [spl] at hp; subst hp; simp at hc
  | b :: l, p, hp, c, hc => by
    have ih := spl_noD d l
    unfold spl at hp
    split at hp
    · rcases List.mem_cons.1 hp with rfl | hp
      · simp at hc
      · exact ih p hp c hc
    · rename_i hne
      split at hp
      · rename_i q qs hq
        rcases List.mem_cons.1 hp with rfl | hp
        · rcases List.mem_cons.1 hc with rfl | hc
          · exact hne
          · exact ih q (by rw [hq]; simp) c hc
        · exact ih p (by rw [hq]; simp [hp]) c hc
      · simp at hp; subst hp; simp at hc; subst hc; exact hne
theorem spl_app {d : UInt8} : ∀ {p : List UInt8} (r : List UInt8), (∀ c ∈ p, c ≠ d) → spl d (p ++ d :: r) = p :: spl d r
  | [], r, _ => by simp [spl]
  | b :: p, r, h => by
    have ih := spl_app (p := p) r fun c hc => h c (by simp [hc])
    show spl d (b :: (p ++ d :: r)) = _
    rw [spl, if_neg (h b (by simp)), ih]
theorem spl_one {d : UInt8} : ∀ {p : List UInt8}, (∀ c ∈ p, c ≠ d) → spl d p = [p]
  | [], _ => rfl
  | b :: p, h => by
    rw [spl, if_neg (h b (by simp)), spl_one fun c hc => h c (by simp [hc])]
theorem spl_size (d : UInt8) : ∀ (l : List UInt8), ∀ p ∈ spl d l, p.length ≤ l.length
  | [], p, hp => by simp [spl] at hp; subst hp; simp
  | b :: l, p, hp => by
    have ih := spl_size d l
    unfold spl at hp
    split at hp
    · rcases List.mem_cons.1 hp with rfl | hp
      · simp
      · have := ih p hp; simp; omega
    · split at hp
      · rename_i q qs hq
        rcases List.mem_cons.1 hp with rfl | hp
        · have := ih q (by rw [hq]; simp); simp; omega
        · have := ih p (by rw [hq]; simp [hp]); simp; omega
      · simp at hp; subst hp; simp
theorem spl_len (d : UInt8) : ∀ (l : List UInt8), (spl d l).length ≤ l.length + 1
  | [] => by simp [spl]
  | b :: l => by
    have ih := spl_len d l
    unfold spl
    split
    · simp; omega
    · split
      · rename_i q qs hq; rw [hq] at ih; simp at ih ⊢; omega
      · simp

/-- Three parts, canonical. -/
structure T3 where
  lang : List UInt8
  script : List UInt8
  region : List UInt8
deriving DecidableEq
def rootL : List UInt8 := [114, 111, 111, 116]
def isLang (p : List UInt8) : Bool := decide (2 ≤ p.length ∧ p.length ≤ 3) && p.all ltB
def isScript (p : List UInt8) : Bool := decide (p.length = 4) && p.all ltB
def isRegion (p : List UInt8) : Bool := (decide (p.length = 2) && p.all ltB) || (decide (p.length = 3) && p.all dgB)
def titleL : List UInt8 → List UInt8
  | [] => []
  | c :: l => upB c :: l.map loB
/-- A script, if there is one, and what is left; then a region. -/
def scr : List (List UInt8) → List UInt8 × List (List UInt8)
  | [] => ([], [])
  | a :: r => if isScript a then (titleL a, r) else ([], a :: r)
def reg : List (List UInt8) → List UInt8 × List (List UInt8)
  | [] => ([], [])
  | a :: r => if isRegion a then (a.map upB, r) else ([], a :: r)
def parseR (r : List (List UInt8)) : Option T3 :=
  match r with
  | [] => none
  | p :: r => if isLang p then (if (reg (scr r).2).2 = [] then some ⟨p.map loB, (scr r).1, (reg (scr r).2).1⟩ else none) else none
def parseT (s : List UInt8) : Option T3 := if s = rootL then some ⟨[], [], []⟩ else parseR (spl 45 s)
def padTo (n : Nat) (l : List UInt8) : List UInt8 := l ++ List.replicate (n - l.length) 0
def bytT (t : T3) : List UInt8 := padTo 3 t.lang ++ padTo 4 t.script ++ padTo 3 t.region
def frontZ (l : List UInt8) : List UInt8 := Lib.trimRightB l 0
def tag0 : List UInt8 := List.replicate 10 0
def fT (b : List UInt8) : T3 := ⟨frontZ (b.take 3), frontZ ((b.drop 3).take 4), frontZ (b.drop 7)⟩
def dash (l : List UInt8) : List UInt8 := if l = [] then [] else 45 :: l
def textT (t : T3) : List UInt8 := t.lang ++ dash t.script ++ dash t.region
def plainL (b : List UInt8) : List UInt8 := if b = tag0 then rootL else textT (fT b)
def rightT (b : List UInt8) : Bool := match parseT (plainL b) with | some t => decide (bytT t = b) | none => false
end Go.Proofs.Ytagdedjclbmlkaa.Tg
/- Tags: the document's way comes to the same. Plain. -/
namespace Go.Proofs.Ytagdedjclbmlkaa.Tg

def stepT (t : T3) (a : List UInt8) : Option T3 :=
  if isScript a = true ∧ t.script = [] ∧ t.region = [] then some { t with script := titleL a }
  else if isRegion a = true ∧ t.region = [] then some { t with region := a.map upB } else none
def foldT (t : T3) : List (List UInt8) → Option T3
  | [] => some t
  | a :: r => match stepT t a with
    | some t' => foldT t' r
    | none => none
theorem isScript_len {a : List UInt8} (h : isScript a = true) : a.length = 4 := by
  simp only [isScript, Bool.and_eq_true, decide_eq_true_eq] at h; exact h.1
theorem isRegion_len {a : List UInt8} (h : isRegion a = true) : a.length = 2 ∨ a.length = 3 := by
  simp only [isRegion, Bool.or_eq_true, Bool.and_eq_true, decide_eq_true_eq] at h
  rcases h with h | h
  · exact .inl h.1
  · exact .inr h.1
theorem titleL_len (a : List UInt8) : (titleL a).length = a.length := by cases a <;> simp [titleL]
theorem title_ne {a : List UInt8} (h : isScript a = true) : titleL a ≠ [] := by
  intro e
  have h1 := titleL_len a
  rw [e, isScript_len h] at h1; simp at h1
theorem region_ne {a : List UInt8} (h : isRegion a = true) : a.map upB ≠ [] := by
  intro e
  have : a.length = 0 := by have := congrArg List.length e; simpa using this
  rcases isRegion_len h with h | h <;> omega
theorem scr_not_reg {a : List UInt8} (h : isScript a = true) : isRegion a = false := by
  cases hr : isRegion a
  · rfl
  · have := isScript_len h
    rcases isRegion_len hr with h | h <;> omega
theorem foldT_full {t : T3} (h : t.region ≠ []) : ∀ r, foldT t r = if r = [] then some t else none
  | [] => rfl
  | a :: r => by
    rw [foldT, stepT, if_neg (fun e => h e.2.2), if_neg (fun e => h e.2)]
    simp
theorem foldT_reg {l s : List UInt8} (hs : s ≠ []) : ∀ r, foldT ⟨l, s, []⟩ r = if (reg r).2 = [] then some ⟨l, s, (reg r).1⟩ else none
  | [] => rfl
  | a :: r => by
    rw [foldT, stepT, if_neg (fun e => hs e.2.1)]
    by_cases h : isRegion a = true
    · rw [if_pos ⟨h, rfl⟩]
      simp only [reg, h, if_true]
      rw [foldT_full (region_ne h)]
    · rw [if_neg (fun e => h e.1)]
      simp [reg, h]
theorem parseR_fold (p : List UInt8) (r : List (List UInt8)) : parseR (p :: r) = if isLang p then foldT ⟨p.map loB, [], []⟩ r else none := by
  unfold parseR
  simp only
  split
  · cases r with
    | nil => rfl
    | cons a r =>
      by_cases h : isScript a = true
      · have e : stepT ⟨p.map loB, [], []⟩ a = some ⟨p.map loB, titleL a, []⟩ := by unfold stepT; rw [if_pos ⟨h, rfl, rfl⟩]
        simp only [scr, h, if_true, foldT, e]
        exact (foldT_reg (title_ne h) r).symm
      · by_cases hr : isRegion a = true
        · have e : stepT ⟨p.map loB, [], []⟩ a = some ⟨p.map loB, [], a.map upB⟩ := by unfold stepT; rw [if_neg (fun e => h e.1), if_pos ⟨hr, rfl⟩]
          simp only [scr, h, Bool.false_eq_true, if_false, reg, hr, if_true, foldT, e]
          rw [foldT_full (region_ne hr)]
        · have e : stepT ⟨p.map loB, [], []⟩ a = none := by unfold stepT; rw [if_neg (fun e => h e.1), if_neg (fun e => hr e.1)]
          simp only [scr, h, Bool.false_eq_true, if_false, reg, hr, foldT, e]
          rfl
  · rfl

/-! Zeros at the end. -/
theorem frontZ_pad (l : List UInt8) (k : Nat) (h : ∀ c ∈ l, c ≠ 0) : frontZ (l ++ List.replicate k 0) = l := by
  unfold frontZ Lib.trimRightB
  rw [List.reverse_append, List.reverse_replicate]
  have h1 : ∀ k (r : List UInt8), (∀ c ∈ r, c ≠ 0) → (List.replicate k 0 ++ r).dropWhile (· == 0) = r := by
    intro k r hr
    induction k with
    | zero =>
      cases r with
      | nil => rfl
      | cons c r => simp [hr c (by simp)]
    | succ k ih => simp only [List.replicate_succ, List.cons_append, List.dropWhile_cons]; simpa using ih
  rw [h1 k l.reverse (by simpa using h), List.reverse_reverse]
theorem frontZ_padTo (n : Nat) (l : List UInt8) (h : ∀ c ∈ l, c ≠ 0) : frontZ (padTo n l) = l := frontZ_pad l _ h
theorem frontZ_split : ∀ l : List UInt8, l = frontZ l ++ List.replicate (l.length - (frontZ l).length) 0 := by
  intro l
  unfold frontZ Lib.trimRightB
  have h1 : ∀ r : List UInt8, r = List.replicate (r.length - (r.dropWhile (· == 0)).length) 0 ++ r.dropWhile (· == 0) := by
    intro r
    induction r with
    | nil => rfl
    | cons c r ih =>
      by_cases hc : c = 0
      · subst hc
        have hle : (r.dropWhile (· == 0)).length ≤ r.length := (List.dropWhile_sublist _).length_le
        have e : (((0 : UInt8) :: r).dropWhile (· == 0)) = r.dropWhile (· == 0) := by simp
        rw [e, List.length_cons, Nat.succ_sub hle, List.replicate_succ, List.cons_append, ← ih]
      · have e : ((c :: r).dropWhile (· == 0)) = c :: r := by simp [hc]
        rw [e, Nat.sub_self]; rfl
  have := h1 l.reverse
  have h2 := congrArg List.reverse this
  rw [List.reverse_reverse, List.reverse_append, List.reverse_replicate] at h2
  rw [List.length_reverse] at h2
  rw [List.length_reverse]
  exact h2
theorem frontZ_le (l : List UInt8) : (frontZ l).length ≤ l.length := by
  unfold frontZ Lib.trimRightB
  rw [List.length_reverse]
  have := (List.dropWhile_sublist (l := l.reverse) (p := (· == (0 : UInt8)))).length_le
  rwa [List.length_reverse] at this
theorem padTo_front {n : Nat} {l : List UInt8} (h : l.length = n) : padTo n (frontZ l) = l := by
  subst h
  exact (frontZ_split l).symm
theorem padTo_len {n : Nat} {l : List UInt8} (h : l.length ≤ n) : (padTo n l).length = n := by unfold padTo; simp; omega
theorem bytT_fT {b : List UInt8} (h : b.length = 10) : bytT (fT b) = b := by
  unfold bytT fT
  rw [padTo_front (by simp; omega), padTo_front (by simp; omega), padTo_front (by simp; omega)]
  have e : List.drop 3 b = (List.drop 3 b).take 4 ++ List.drop 7 b := by
    have := (List.take_append_drop 4 (List.drop 3 b)).symm
    rwa [List.drop_drop] at this
  have e2 := (List.take_append_drop 3 b).symm
  rw [List.append_assoc, ← e, ← e2]
structure T3.ok (t : T3) : Prop where
  l3 : t.lang.length ≤ 3
  s4 : t.script.length ≤ 4
  r3 : t.region.length ≤ 3
  lz : ∀ c ∈ t.lang, c ≠ 45 ∧ c ≠ 0
  sz : ∀ c ∈ t.script, c ≠ 45 ∧ c ≠ 0
  rz : ∀ c ∈ t.region, c ≠ 45 ∧ c ≠ 0
theorem T3.ok.empty : T3.ok ⟨[], [], []⟩ := ⟨by simp, by simp, by simp, by simp, by simp, by simp⟩
theorem fT_bytT {t : T3} (h : t.ok) : fT (bytT t) = t := by
  unfold fT bytT
  have h1 := padTo_len (l := t.lang) h.l3
  have h2 := padTo_len (l := t.script) h.s4
  have e1 : (padTo 3 t.lang ++ padTo 4 t.script ++ padTo 3 t.region).take 3 = padTo 3 t.lang := by
    rw [List.append_assoc, List.take_left' h1]
  have e2 : ((padTo 3 t.lang ++ padTo 4 t.script ++ padTo 3 t.region).drop 3).take 4 = padTo 4 t.script := by
    rw [List.append_assoc, List.drop_left' h1, List.take_left' h2]
  have e3 : (padTo 3 t.lang ++ padTo 4 t.script ++ padTo 3 t.region).drop 7 = padTo 3 t.region := by
    rw [List.drop_left' (by rw [List.length_append, h1, h2])]
  rw [e1, e2, e3, frontZ_padTo _ _ fun c hc => (h.lz c hc).2, frontZ_padTo _ _ fun c hc => (h.sz c hc).2, frontZ_padTo _ _ fun c hc => (h.rz c hc).2]
theorem title_mem {a : List UInt8} (h : a.all ltB = true) : ∀ c ∈ titleL a, ltB c = true := by
  cases a with
  | nil => simp [titleL]
  | cons b a =>
    simp only [List.all_cons, Bool.and_eq_true, List.all_eq_true] at h
    intro c hc
    rcases List.mem_cons.1 hc with rfl | hc
    · rw [lt_up]; exact h.1
    · obtain ⟨d, hd, rfl⟩ := List.mem_map.1 hc
      rw [lt_lo]; exact h.2 d hd
theorem parseR_ok {r : List (List UInt8)} {t : T3} (h : parseR r = some t) : t.ok ∧ 2 ≤ t.lang.length := by
  unfold parseR at h
  cases r with
  | nil => cases h
  | cons p r =>
    simp only at h
    split at h
    · rename_i hp
      split at h
      · simp only [Option.some.injEq] at h
        subst h
        simp only [isLang, Bool.and_eq_true, decide_eq_true_eq, List.all_eq_true] at hp
        obtain ⟨⟨h2, h3⟩, hall⟩ := hp
        have hs : (scr r).1.length ≤ 4 ∧ ∀ c ∈ (scr r).1, c ≠ 45 ∧ c ≠ 0 := by
          cases r with
          | nil => simp [scr]
          | cons a r =>
            by_cases ha : isScript a = true
            · have e : scr (a :: r) = (titleL a, r) := by simp [scr, ha]
              rw [e]
              refine ⟨by rw [titleL_len, isScript_len ha]; exact Nat.le_refl _, fun c hc => lt_ne c (title_mem (a := a) ?_ c hc)⟩
              simp only [isScript, Bool.and_eq_true] at ha; exact ha.2
            · have e : scr (a :: r) = ([], a :: r) := by simp [scr, ha]
              rw [e]; simp
        have hr : ∀ r, (reg r).1.length ≤ 3 ∧ ∀ c ∈ (reg r).1, c ≠ 45 ∧ c ≠ 0 := by
          intro r
          cases r with
          | nil => simp [reg]
          | cons a r =>
            by_cases ha : isRegion a = true
            · have e : reg (a :: r) = (a.map upB, r) := by simp [reg, ha]
              rw [e]
              refine ⟨by rw [List.length_map]; rcases isRegion_len ha with h | h <;> omega, fun c hc => ?_⟩
              obtain ⟨d, hd, rfl⟩ := List.mem_map.1 hc
              simp only [isRegion, Bool.or_eq_true, Bool.and_eq_true, List.all_eq_true] at ha
              rcases ha with ha | ha
              · exact lt_ne _ (by rw [lt_up]; exact ha.2 d hd)
              · exact dg_ne _ (by rw [dg_up]; exact ha.2 d hd)
            · have e : reg (a :: r) = ([], a :: r) := by simp [reg, ha]
              rw [e]; simp
        refine ⟨⟨by rw [List.length_map]; exact h3, hs.1, (hr _).1, fun c hc => ?_, hs.2, (hr _).2⟩, by rw [List.length_map]; exact h2⟩
        obtain ⟨d, hd, rfl⟩ := List.mem_map.1 hc
        exact lt_ne _ (by rw [lt_lo]; exact hall d hd)
      · cases h
    · cases h
theorem parseT_ok {s : List UInt8} {t : T3} (h : parseT s = some t) : t.ok := by
  unfold parseT at h
  split at h
  · cases h; exact T3.ok.empty
  · exact (parseR_ok h).1

/-- The tag of ten bytes, as the document has it. -/
def ofT (b : List UInt8) : Option T3 :=
  if (fT b).lang = [] then (if (fT b) = ⟨[], [], []⟩ then some ⟨[], [], []⟩ else none) else match parseT (textT (fT b)) with
    | some x => if x = fT b then some (fT b) else none
    | none => none
theorem fT_zero : fT tag0 = ⟨[], [], []⟩ := by decide +kernel
theorem bytT_zero : bytT ⟨[], [], []⟩ = tag0 := by decide +kernel
theorem fT_empty {b : List UInt8} (h : b.length = 10) (he : fT b = ⟨[], [], []⟩) : b = tag0 := by
  rw [← bytT_fT h, he, bytT_zero]
theorem parse_noLang (s r : List UInt8) : parseT (textT ⟨[], s, r⟩) = none := by
  have h1 : textT ⟨[], s, r⟩ = dash s ++ dash r := by simp [textT]
  have h2 : dash s ++ dash r = [] ∨ ∃ l, dash s ++ dash r = 45 :: l := by
    unfold dash
    by_cases hs : s = []
    · by_cases hr : r = []
      · left; simp [hs, hr]
      · right; exact ⟨r, by simp [hs, hr]⟩
    · right; rw [if_neg hs]; exact ⟨_, rfl⟩
  rw [h1]
  rcases h2 with h2 | ⟨l, h2⟩
  · rw [h2]; decide +kernel
  · rw [h2, parseT, if_neg (by intro e; cases e), spl, if_pos rfl]
    rfl
theorem right_of {b : List UInt8} (h : b.length = 10) : rightT b = (ofT b).isSome := by
  unfold rightT plainL ofT
  by_cases h0 : b = tag0
  · subst h0
    rw [if_pos rfl, fT_zero]
    decide +kernel
  · rw [if_neg h0]
    by_cases hl : (fT b).lang = []
    · have hne : ¬ fT b = ⟨[], [], []⟩ := fun e => h0 (fT_empty h e)
      rw [if_pos hl, if_neg hne]
      have e : fT b = ⟨[], (fT b).script, (fT b).region⟩ := by rw [← hl]
      rw [e, parse_noLang]; rfl
    · rw [if_neg hl]
      cases hp : parseT (textT (fT b)) with
      | none => rfl
      | some x =>
        have hx := parseT_ok hp
        simp only
        by_cases he : x = fT b
        · rw [if_pos he, he, bytT_fT h]; simp
        · rw [if_neg he]
          have : bytT x ≠ b := fun e => he (by rw [← e, fT_bytT hx])
          simp [this]
theorem of_some {b : List UInt8} {t : T3} (_ : b.length = 10) (ho : ofT b = some t) : t = fT b := by
  unfold ofT at ho
  split at ho
  · split at ho
    · rename_i he; cases ho; exact he.symm
    · cases ho
  · split at ho
    · split at ho
      · cases ho; rfl
      · cases ho
    · cases ho
end Go.Proofs.Ytagdedjclbmlkaa.Tg
namespace Go.Proofs.Ytagdedjclbmlkaa.Tg
open Go.RowKit
theorem ltB_int (c : UInt8) : ltB c = ((decide (97 ≤ (c.toNat : Int)) && decide ((c.toNat : Int) ≤ 122)) || (decide (65 ≤ (c.toNat : Int)) && decide ((c.toNat : Int) ≤ 90))) := by
  exact u8_all (p := fun c => ltB c = ((decide (97 ≤ (c.toNat : Int)) && decide ((c.toNat : Int) ≤ 122)) || (decide (65 ≤ (c.toNat : Int)) && decide ((c.toNat : Int) ≤ 90)))) (by decide +kernel) c
theorem dgB_int (c : UInt8) : dgB c = (decide (48 ≤ (c.toNat : Int)) && decide ((c.toNat : Int) ≤ 57)) := by
  exact u8_all (p := fun c => dgB c = (decide (48 ≤ (c.toNat : Int)) && decide ((c.toNat : Int) ≤ 57))) (by decide +kernel) c
theorem loB_int (c : UInt8) : ((loB c).toNat : Int) = if 65 ≤ (c.toNat : Int) ∧ (c.toNat : Int) ≤ 90 then (c.toNat : Int) + 32 else c.toNat := by
  exact u8_all (p := fun c => ((loB c).toNat : Int) = if 65 ≤ (c.toNat : Int) ∧ (c.toNat : Int) ≤ 90 then (c.toNat : Int) + 32 else c.toNat) (by decide +kernel) c
theorem upB_int (c : UInt8) : ((upB c).toNat : Int) = if 97 ≤ (c.toNat : Int) ∧ (c.toNat : Int) ≤ 122 then (c.toNat : Int) - 32 else c.toNat := by
  exact u8_all (p := fun c => ((upB c).toNat : Int) = if 97 ≤ (c.toNat : Int) ∧ (c.toNat : Int) ≤ 122 then (c.toNat : Int) - 32 else c.toNat) (by decide +kernel) c
theorem eqlS (x y : ByteArray) (W : World) : (binOp .eql 9 (.string x) (.string y)).run Try.prog W = .ok (.bool (decide (x.data.toList = y.data.toList))) W := by
  have h : (x.toList == y.toList) = decide (x.data.toList = y.data.toList) := by
    rw [ByteArray.toList_eq, ByteArray.toList_eq, Bool.eq_iff_iff]; simp
  go_simp
theorem root_beq (s : ByteArray) : (s.toList == [114, 111, 111, 116]) = decide (s.data.toList = rootL) := by
  rw [ByteArray.toList_eq, Bool.eq_iff_iff, decide_eq_true_eq]; simp [rootL]

theorem conv_any (w : World) (b o n cap : Nat) (l : List UInt8) (hl : l.length = n) (h : w.rangeAt b o (bC l).toList) :
    (convert 109 9 (.slice (some ⟨b, o, none⟩) n cap)).run Try.prog w = .ok (.string ⟨l.toArray⟩) w := by
  have hb : ∀ i (hi : i < l.length), w.cell? ⟨b, o + i, none⟩ = some (.int .u8 (l[i].toNat : Int)) := fun i hi => h i _ (by simp [bC, hi])
  have := run_convert_bytes_arg (P := Try.prog) w 109 5 Try.underlying109 Try.underlying5 b o n cap (l.map fun x => (x.toNat : Int)) (by simp; omega) (fun i hi => by
    rw [hb i (by omega)]
    simp [hl ▸ hi]) 9 Try.underlying9
  rw [this]
  refine congrArg (fun s => Result.ok (Value.string s) w) (ByteArray.ext (Array.toList_inj.1 ?_))
  rw [strOfNums_data, List.map_map]
  show _ = l
  conv => rhs; rw [← List.map_id l]
  apply List.map_congr_left
  intro x _
  simp
theorem ba_add (a b : List UInt8) : (⟨a.toArray⟩ : ByteArray) ++ ⟨b.toArray⟩ = ⟨(a ++ b).toArray⟩ := ByteArray.ext (by simp)
theorem ba_size (a : List UInt8) : (⟨a.toArray⟩ : ByteArray).size = a.length := List.size_toArray
theorem bC_take (b : List UInt8) (k : Nat) : (bC (b.take k)).toList = (bC b).toList.take k := by simp [bC]
theorem range_sub {w : World} {g o : Nat} {b : List UInt8} (h : w.rangeAt g o (bC b).toList) (s n : Nat) : w.rangeAt g (o + s) (bC ((b.drop s).take n)).toList := fun j v hv => by
  have hj : j < ((b.drop s).take n).length := by have := (List.getElem?_eq_some_iff.1 hv).1; simpa [bC] using this
  rw [Nat.add_assoc]
  refine h (s + j) v ?_
  rw [← hv]
  simp only [bC, List.getElem?_map]
  congr 1
  rw [List.length_take, List.length_drop] at hj
  rw [List.getElem?_take_of_lt (by omega), List.getElem?_drop]
theorem catS5 (a b : List UInt8) (h : a.length + b.length ≤ 1000000) (w : World) : (binOp .add 9 (.string ⟨a.toArray⟩) (.string ⟨b.toArray⟩)).run Try.prog w = .ok (.string ⟨(a ++ b).toArray⟩) w := by
  have := run_string_add_sum (P := Try.prog) (w := w) ⟨a.toArray⟩ ⟨b.toArray⟩ (by rw [ba_size, ba_size]; omega)
  rw [ba_add] at this
  simp [binOp, this]
theorem emp5 (l : List UInt8) : (⟨l.toArray⟩ : ByteArray).toList.isEmpty = l.isEmpty := by rw [ByteArray.toList_eq]
theorem neqE5 (l : List UInt8) (W : World) : (binOp .neq 9 (.string ⟨l.toArray⟩) (.string ⟨#[]⟩)).run Try.prog W = .ok (.bool (!l.isEmpty)) W := by
  have := emp5 l
  go_simp
end Go.Proofs.Ytagdedjclbmlkaa.Tg
/- The document's tags: kind, turn, cut. -/
namespace Go.Proofs.Ytagdedjclbmlkaa.Tg
open Go.RowKit

def kindL (l : List UInt8) : Int := if l.all ltB then 1 else if l.all dgB then 2 else 0
theorem ret_i64 {a b : Int} (h : a = b) : Ending.returned (.int .i64 a) = .returned (.int .i64 b) := by rw [h]
theorem countP_snoc {α : Type} (p : α → Bool) (l : List α) (k : Nat) (h : k < l.length) : (l.take (k + 1)).countP p = (l.take k).countP p + if p l[k] then 1 else 0 := by
  rw [List.take_succ_eq_append_getElem h, List.countP_append, List.countP_singleton]
theorem count_all {α : Type} (p : α → Bool) (l : List α) : (l.countP p = l.length) ↔ l.all p = true := by
  rw [List.countP_eq_length, List.all_eq_true]
theorem kind_eq (l : List UInt8) : kindL l = if l.countP ltB = l.length then 1 else if l.countP dgB = l.length then 2 else 0 := by
  unfold kindL
  by_cases h : l.all ltB = true
  · rw [if_pos h, if_pos ((count_all _ _).2 h)]
  · rw [if_neg h, if_neg (fun e => h ((count_all _ _).1 e))]
    by_cases h2 : l.all dgB = true
    · rw [if_pos h2, if_pos ((count_all _ _).2 h2)]
    · rw [if_neg h2, if_neg (fun e => h2 ((count_all _ _).1 e))]
set_option maxRecDepth 100000 in
set_option maxHeartbeats 4000000 in
theorem kind_any (s : ByteArray) (w : World) (hs : s.size ≤ 1000000) :
    Calls Try.prog 64 #[.string s] w fun e w' => e = .returned (.int .i64 (kindL s.data.toList)) ∧ w = w' := by
  have HK := Lib.hid (kind_eq s.data.toList)
  have HC1 : Hid (∀ k (h : k < s.size), (s.data.toList.take (k + 1)).countP ltB = (s.data.toList.take k).countP ltB + if ltB s[k] then 1 else 0) := fun k h => by
    have := countP_snoc ltB s.data.toList k (by simpa using h)
    rwa [at_list s k h] at this
  have HC2 : Hid (∀ k (h : k < s.size), (s.data.toList.take (k + 1)).countP dgB = (s.data.toList.take k).countP dgB + if dgB s[k] then 1 else 0) := fun k h => by
    have := countP_snoc dgB s.data.toList k (by simpa using h)
    rwa [at_list s k h] at this
  have HL1 : Hid (∀ k, (s.data.toList.take k).countP ltB ≤ s.size) := fun k => by
    have h1 := List.countP_le_length (p := ltB) (l := s.data.toList.take k)
    have h2 := List.length_take_le' k s.data.toList
    have h3 : s.data.toList.length = s.size := by simp
    omega
  have HL2 : Hid (∀ k, (s.data.toList.take k).countP dgB ≤ s.size) := fun k => by
    have h1 := List.countP_le_length (p := dgB) (l := s.data.toList.take k)
    have h2 := List.length_take_le' k s.data.toList
    have h3 : s.data.toList.length = s.size := by simp
    omega
  go_enter Try.func64, Try.ntmps64
  go_wp2_with fail
  go_loop [3, 4, 5] (fun a b i => ∃ k : Nat, k ≤ s.size ∧ i = .int .i64 k ∧ a = .int .i64 ((s.data.toList.take k).countP ltB : Nat) ∧ b = .int .i64 ((s.data.toList.take k).countP dgB : Nat)) (fun _ _ i => s.size - (intOf i).toNat)
  case atStart => exact ⟨0, Nat.zero_le _, rfl, rfl, rfl⟩
  case round =>
    obtain ⟨k, hk, rfl, rfl, rfl⟩ := hrel
    by_cases hlt : k < s.size
    · have N1 := Lib.hid (HC1.out k hlt)
      have N2 := Lib.hid (HC2.out k hlt)
      have b1 := HL1.out k
      have b2 := HL2.out k
      have M1 := Lib.hid (ltB_int s[k])
      have M2 := Lib.hid (dgB_int s[k])
      have h0 : (0 : Int) ≤ (s[k].toNat : Int) := by omega
      have h255 := byte_lt s[k]
      generalize (s.data.toList.take k).countP ltB = n1 at *
      generalize (s.data.toList.take k).countP dgB = n2 at *
      by_cases h1 : (64 : Int) < (s[k].toNat : Int) <;> by_cases h2 : (s[k].toNat : Int) < 91 <;> by_cases h3 : (96 : Int) < (s[k].toNat : Int) <;> by_cases h4 : (s[k].toNat : Int) < 123 <;> by_cases h5 : (47 : Int) < (s[k].toNat : Int) <;> by_cases h6 : (s[k].toNat : Int) < 58
      all_goals
        first
          | (exfalso; omega)
          | (go_wp2_with fail
             go_round
             case rel =>
               have m1 := M1.out
               have m2 := M2.out
               have e1 : ltB s[k] = (decide (64 < (s[k].toNat : Int) ∧ (s[k].toNat : Int) < 91) || decide (96 < (s[k].toNat : Int) ∧ (s[k].toNat : Int) < 123)) := by rw [m1, Bool.eq_iff_iff]; simp; omega
               have e2 : dgB s[k] = decide (47 < (s[k].toNat : Int) ∧ (s[k].toNat : Int) < 58) := by rw [m2, Bool.eq_iff_iff]; simp; omega
               clear m1 m2
               simp only [h1, h2, h3, h4, h5, h6, and_self, and_true, and_false, decide_true, decide_false, Bool.or_true, Bool.or_false] at e1 e2
               exact ⟨k + 1, by omega, by go_num, by rw [N1.out, e1]; simp, by rw [N2.out, e2]; simp⟩
             case measure => simp [intOf]; omega)
    · obtain rfl : k = s.size := by omega
      have ht : s.data.toList.take s.size = s.data.toList := List.take_of_length_le (by simp)
      have hll : s.data.toList.length = s.size := by simp
      rw [hll] at HK
      rw [ht]
      clear HC1 HC2 HL1 HL2 ht hll
      generalize s.data.toList.countP ltB = n1 at *
      generalize s.data.toList.countP dgB = n2 at *
      by_cases g1 : n1 = s.size
      · have e1 : ((n1 : Int) == (s.size : Int)) = true := by rw [g1]; simp
        rw [if_pos g1] at HK
        clear g1
        go_wp2_with fail
        go_ret
        exact ⟨ret_i64 HK.out.symm, rfl⟩
      · have e1 : ((n1 : Int) == (s.size : Int)) = false := by rw [beq_eq_false_iff_ne]; omega
        rw [if_neg g1] at HK
        clear g1
        by_cases g2 : n2 = s.size
        · have e2 : ((n2 : Int) == (s.size : Int)) = true := by rw [g2]; simp
          rw [if_pos g2] at HK
          clear g2
          go_wp2_with fail
          go_ret
          exact ⟨ret_i64 HK.out.symm, rfl⟩
        · have e2 : ((n2 : Int) == (s.size : Int)) = false := by rw [beq_eq_false_iff_ne]; omega
          rw [if_neg g2] at HK
          clear g2
          go_wp2_with fail
          go_ret
          exact ⟨ret_i64 HK.out.symm, rfl⟩
/-- The first part, the rest, and whether there is one. -/
theorem cut_hit {s : ByteArray} {k : Nat} (hk : k < s.size) (h : ∀ j (h : j < s.size), j < k → s[j] ≠ 45) (he : s[k] = 45) : spl 45 s.data.toList = (s.extract 0 k).data.toList :: spl 45 (s.extract (k + 1) s.size).data.toList := by
  have e1 : (s.extract 0 k).data.toList = s.data.toList.take k := by rw [Lib.extract_data, List.drop_zero, Nat.sub_zero]
  have e2 : (s.extract (k + 1) s.size).data.toList = s.data.toList.drop (k + 1) := by rw [Lib.extract_data, List.take_of_length_le (by simp)]
  have hkl : k < s.data.toList.length := by simpa using hk
  have e : s.data.toList = s.data.toList.take k ++ 45 :: s.data.toList.drop (k + 1) := by
    conv => lhs; rw [← List.take_append_drop k s.data.toList, List.drop_eq_getElem_cons hkl, at_list s k hk, he]
  rw [e1, e2]
  conv => lhs; rw [e]
  refine spl_app _ fun c hc => ?_
  obtain ⟨j, hj, rfl⟩ := List.mem_iff_getElem.1 hc
  rw [List.length_take] at hj
  rw [List.getElem_take, at_list s j (by omega)]
  exact h j (by omega) (by omega)
theorem cut_miss {s : ByteArray} (h : ∀ j (h : j < s.size), s[j] ≠ 45) : spl 45 s.data.toList = [s.data.toList] := by
  refine spl_one fun c hc => ?_
  obtain ⟨j, hj, rfl⟩ := List.mem_iff_getElem.1 hc
  have hj' : j < s.size := by simpa using hj
  rw [at_list s j hj']
  exact h j hj'
def CutPost (s : ByteArray) (w : World) (e : Ending) (w' : World) : Prop :=
  Below w.heap.size w w' ∧ ((∃ p r : ByteArray, e = .returned (.tuple #[.string p, .string r, .bool true]) ∧ spl 45 s.data.toList = p.data.toList :: spl 45 r.data.toList ∧ p.size ≤ s.size ∧ r.size < s.size) ∨ (e = .returned (.tuple #[.string s, .string ⟨#[]⟩, .bool false]) ∧ spl 45 s.data.toList = [s.data.toList]))
theorem u8_45 {c : UInt8} : (c = 45) ↔ ((c.toNat : Int) = 45) := by
  constructor
  · rintro rfl; rfl
  · intro h
    apply UInt8.toNat_inj.1
    show c.toNat = 45
    omega
set_option maxRecDepth 100000 in
set_option maxHeartbeats 1000000 in
theorem cut_any5 (s : ByteArray) (w : World) (hs : s.size ≤ 1000000) :
    Calls Try.prog 63 #[.string s] w fun e w' => CutPost s w e w' := by
  have hbd : Below w.heap.size w w.drew := (Below.refl _ _).drew
  have HBd := Lib.hid hbd
  clear hbd
  have HH : Hid (∀ k (hk : k < s.size), (∀ j (h : j < s.size), j < k → s[j] ≠ 45) → s[k] = 45 → spl 45 s.data.toList = (s.extract 0 k).data.toList :: spl 45 (s.extract (k + 1) s.size).data.toList) := fun k hk h he => cut_hit hk h he
  have HM : Hid ((∀ j (h : j < s.size), s[j] ≠ 45) → spl 45 s.data.toList = [s.data.toList]) := cut_miss
  have hs' : (s.size : Int) ≤ 1000000 := by omega
  go_enter Try.func63, Try.ntmps63
  go_wp2_with fail
  go_loop [5] (fun i => ∃ k : Nat, k ≤ s.size ∧ i = .int .i64 k ∧ Hid (∀ j (h : j < s.size), j < k → s[j] ≠ 45)) (fun i => s.size - (intOf i).toNat)
  case atStart => exact ⟨0, Nat.zero_le _, rfl, fun j h hj => by omega⟩
  case round =>
    obtain ⟨k, hk, rfl, HA⟩ := hrel
    by_cases hlt : k < s.size
    · have hlt' : (k : Int) < s.size := by omega
      have hk0 : (0 : Int) ≤ (k : Int) := by omega
      by_cases he : s[k] = 45
      · have HS := Lib.hid (HH.out k hlt HA.out he)
        have he' : ((s[k].toNat : Int) == 45) = true := by rw [beq_iff_eq]; exact u8_45.1 he
        have hz1 : (k : Int) ≤ s.size := by omega
        have hz2 : (0 : Int) ≤ (k : Int) + 1 := by omega
        have hz3 : (k : Int) + 1 ≤ s.size := by omega
        have hz4 : IntKind.i64.wrap ((k : Int) + 1) = (k : Int) + 1 := IntWalk.i64_in _ (by omega)
        have hz5 : ((k : Int) + 1).toNat = k + 1 := by omega
        clear he
        go_upto_region 5 with fail
        go_quiet (fail)
        go_wp2_with fail
        refine bodyPost_ret (results_tmp3 rfl _ _ _) rfl ?_
        exact ⟨⟨rfl, rfl, rfl, Nat.le_refl _, fun _ _ => rfl⟩, .inl ⟨s.extract 0 k, s.extract (k + 1) s.size, rfl, HS.out, by rw [ByteArray.size_extract]; omega, by rw [ByteArray.size_extract]; omega⟩⟩
      · have he' : ((s[k].toNat : Int) == 45) = false := by rw [beq_eq_false_iff_ne]; exact fun h => he (u8_45.2 h)
        have HA2 : Hid (∀ j (h : j < s.size), j < k + 1 → s[j] ≠ 45) := fun j h hj => by
          rcases Nat.lt_or_ge j k with h1 | h1
          · exact HA.out j h h1
          · obtain rfl : j = k := by omega
            exact he
        clear he
        go_wp2_with fail
        go_round
        case rel => exact ⟨k + 1, by omega, by go_num, HA2.out⟩
        case measure => simp [intOf]; omega
    · obtain rfl : k = s.size := by omega
      have HS := Lib.hid (HM.out fun j h => HA.out j h h)
      go_wp2_with fail
      refine bodyPost_ret (results_tmp3 rfl _ _ _) rfl ?_
      exact ⟨Below.refl _ _, .inr ⟨rfl, HS.out⟩⟩

/-! A row of bytes that a call makes. -/
def enc1 (b : UInt8) : List Value := [.int .u8 (b.toNat : Int)]
theorem enc1_len (b : UInt8) : (enc1 b).length = 1 := rfl
theorem enc1_one (b : UInt8) : ∀ u ∈ enc1 b, u.oneCell' = true := fun u hu => by
  simp only [enc1, List.mem_singleton] at hu; subst hu; rfl
theorem enc1_flat (l : List UInt8) : l.flatMap enc1 = (bC l).toList := by
  induction l with
  | nil => rfl
  | cons b l ih => rw [List.flatMap_cons, ih]; simp [enc1, bC]
theorem infoU8 : (Try.prog.info? 5).map (fun i => (i.zero, i.size, i.bytes)) = some (some (.int .u8 0), 1, 1) := by kernel_rfl
section
variable {ops : Array Oper} {o : Oper} {rest : List Oper} {a : Act} {w : World} {Q : Exit → Act → World → Prop}
theorem app_B (hgd : o.guard = none) (s x : Operand) (ho : o.op = .call { callee := .builtin .append, args := #[s, x], argTypes := #[109, 109] })
    (base : Nat) (v : Value) (xs : List UInt8) (hs : a.eval s = v) (hown : OwnE enc1 5 1 w base v xs) (b c : Nat) (y : UInt8) (hx : a.eval x = .slice (some ⟨b, 0, none⟩) 1 c)
    (hr : w.rangeAt b 0 (enc1 y)) (hlen : xs.length ≤ 1000000) (hbase : base ≤ w.heap.size)
    (h : ∀ v' w', OwnE enc1 5 1 w' base v' (xs ++ [y]) → w.grownBy w' v.ownBlock → wpList Try.prog ops Q rest (a.put o.dst v') w') : wpList Try.prog ops Q (o :: rest) a w :=
  wl_app1 109 5 1 (.int .u8 0) Try.underlying109 infoU8 rfl (by omega) enc1_len enc1_one hgd s x ho base v xs hs hown b c y hx hr (by omega) (by unfold maxLen; omega) hbase h
end
theorem nil_str (w : World) : (convert 109 9 (.slice none 0 0)).run Try.prog w = .ok (.string ⟨#[]⟩) w := by kernel_rfl
theorem own_str {w : World} {base : Nat} {v : Value} {l : List UInt8} (h : OwnE enc1 5 1 w base v l) : (convert 109 9 v).run Try.prog w = .ok (.string ⟨l.toArray⟩) w := by
  obtain ⟨h1, ⟨rfl, h2⟩ | ⟨g, cap, cur, rfl, hg, hh, hc, hm, hs, ht⟩⟩ := h
  · obtain rfl := List.length_eq_zero_iff.1 h2
    exact nil_str w
  · refine conv_any w g 0 _ cap l rfl (fun j u hu => ?_)
    rw [Nat.zero_add, cell_blk hh]
    rw [← enc1_flat] at hu
    have hj := (List.getElem?_eq_some_iff.1 hu).1
    rw [← ht, List.getElem?_take_of_lt (by rw [← ht, List.length_take] at hj; omega)] at hu
    simpa using hu
theorem up_step (c : UInt8) : (upB c = if (96 : Int) < c.toNat ∧ (c.toNat : Int) < 123 then c - 32 else c) ∧ (loB c = if (64 : Int) < c.toNat ∧ (c.toNat : Int) < 91 then c + 32 else c) := by
  exact u8_all (p := fun c => (upB c = if (96 : Int) < c.toNat ∧ (c.toNat : Int) < 123 then c - 32 else c) ∧ (loB c = if (64 : Int) < c.toNat ∧ (c.toNat : Int) < 91 then c + 32 else c)) (by decide +kernel) c
def turnL (g : Bool) (l : List UInt8) : List UInt8 := l.map (if g then upB else loB)
theorem turn_snoc (g : Bool) (l : List UInt8) (k : Nat) (h : k < l.length) : turnL g (l.take (k + 1)) = turnL g (l.take k) ++ [(if g then upB else loB) l[k]] := by
  unfold turnL
  rw [List.take_succ_eq_append_getElem h, List.map_append]; rfl
set_option maxRecDepth 100000 in
set_option maxHeartbeats 4000000 in
theorem turn_any (s : ByteArray) (g : Bool) (w : World) (hs : s.size ≤ 1000000) :
    Calls Try.prog 65 #[.string s, .bool g] w fun e w' => e = .returned (.string ⟨(turnL g s.data.toList).toArray⟩) ∧ Below w.heap.size w w' := by
  have HT : Hid (∀ k (h : k < s.size), turnL g (s.data.toList.take (k + 1)) = turnL g (s.data.toList.take k) ++ [(if g then upB else loB) s[k]]) := fun k h => by
    have := turn_snoc g s.data.toList k (by simpa using h)
    rwa [at_list s k h] at this
  have HL : Hid (∀ k, (turnL g (s.data.toList.take k)).length ≤ 1000000) := fun k => by
    have h2 := List.length_take_le' k s.data.toList
    have h3 : s.data.toList.length = s.size := by simp
    unfold turnL; rw [List.length_map]; omega
  have HE : Hid (turnL g (s.data.toList.take s.size) = turnL g s.data.toList) := by
    show _ = _
    rw [List.take_of_length_le (by simp)]
  go_enter Try.func65, Try.ntmps65
  go_wp2_with fail
  go_loopw [5, 6] (fun v i wr => ∃ k : Nat, k ≤ s.size ∧ i = .int .i64 k ∧ Hid (OwnE enc1 5 1 wr w.heap.size v (turnL g (s.data.toList.take k))) ∧ Hid (Below w.heap.size w wr)) (fun _ i _ => s.size - (intOf i).toNat)
  case atStart => exact ⟨0, Nat.zero_le _, rfl, by rw [List.take_zero]; exact OwnE.nil _ _, Below.refl _ _⟩
  case round =>
    obtain ⟨k, hk, rfl, HO, HW⟩ := hrel
    by_cases hlt : k < s.size
    · have N1 := Lib.hid (HT.out k hlt)
      have hl1 := HL.out k
      have h0 : (0 : Int) ≤ (s[k].toNat : Int) := by omega
      have h255 := byte_lt s[k]
      have HO1 : Hid (∀ y : UInt8, OwnE enc1 5 1 (wr.alloc (.cells (enc1 y).toArray 5)) w.heap.size u5 (turnL g (s.data.toList.take k))) := fun y => HO.out.below (below_alloc1 _ _)
      have HU := Lib.hid (up_step s[k])
      have HZ : Hid (∀ y : UInt8, w.heap.size ≤ (wr.alloc (.cells (enc1 y).toArray 5)).heap.size) := fun y => by have := HW.out.size; simp; omega
      have HB1 : Hid (∀ (y : UInt8) (w' : World), (wr.alloc (.cells (enc1 y).toArray 5)).grownBy w' (Value.ownBlock u5) → Below w.heap.size w w') := fun y w' hg => (HW.out.trans ((below_alloc1 wr _).mono HW.out.size)).trans (grown_below hg (fun g' hg' => (HO.out.lt g' hg').1) (HZ.out y))
      by_cases h1 : (64 : Int) < (s[k].toNat : Int) <;> by_cases h2 : (s[k].toNat : Int) < 91 <;> by_cases h3 : (96 : Int) < (s[k].toNat : Int) <;> by_cases h4 : (s[k].toNat : Int) < 123
      all_goals first
        | (exfalso; omega)
        | skip
      all_goals
        cases g
        case false =>
          simp only [Bool.false_eq_true, if_false] at N1
          first
          | (have hc : loB s[k] = s[k] := (by rw [HU.out.2, if_neg (by omega)])
             rw [hc] at N1
             clear hc
             go_wp2_with (at_builtin; (refine app_B rfl _ _ rfl w.heap.size u5 (turnL false (s.data.toList.take k)) rfl (HO1.out s[k]) wr.heap.size 1 s[k] rfl (range_whole (heap_alloc_new _ _)) hl1 (HZ.out s[k]) ?_); intro v' w3 ho3 hg3)
             have hb3 := HB1.out s[k] w3 hg3
             go_roundw
             case rel => exact ⟨k + 1, by omega, by go_num, by rw [N1.out]; exact ho3, hb3⟩
             case measure => simp [intOf]; omega)
          | (have hy : (s[k].toNat : Int) + 32 = ((loB s[k]).toNat : Int) := (by rw [loB_int, if_pos (by omega)])
             have hy1 : (96 : Int) < ((loB s[k]).toNat : Int) := (by omega)
             have hy2 : ((loB s[k]).toNat : Int) < 123 := (by omega)
             generalize loB s[k] = y at *
             go_wp2_with (at_builtin; (refine app_B rfl _ _ rfl w.heap.size u5 (turnL false (s.data.toList.take k)) rfl (HO1.out y) wr.heap.size 1 y rfl (range_whole (heap_alloc_new _ _)) hl1 (HZ.out y) ?_); intro v' w3 ho3 hg3)
             have hb3 := HB1.out y w3 hg3
             go_roundw
             case rel => exact ⟨k + 1, by omega, by go_num, by rw [N1.out]; exact ho3, hb3⟩
             case measure => simp [intOf]; omega)
        case true =>
          simp only [if_true] at N1
          first
          | (have hc : upB s[k] = s[k] := (by rw [HU.out.1, if_neg (by omega)])
             rw [hc] at N1
             clear hc
             go_wp2_with (at_builtin; (refine app_B rfl _ _ rfl w.heap.size u5 (turnL true (s.data.toList.take k)) rfl (HO1.out s[k]) wr.heap.size 1 s[k] rfl (range_whole (heap_alloc_new _ _)) hl1 (HZ.out s[k]) ?_); intro v' w3 ho3 hg3)
             have hb3 := HB1.out s[k] w3 hg3
             go_roundw
             case rel => exact ⟨k + 1, by omega, by go_num, by rw [N1.out]; exact ho3, hb3⟩
             case measure => simp [intOf]; omega)
          | (have hy : (s[k].toNat : Int) - 32 = ((upB s[k]).toNat : Int) := (by rw [upB_int, if_pos (by omega)])
             generalize upB s[k] = y at *
             go_wp2_with (at_builtin; (refine app_B rfl _ _ rfl w.heap.size u5 (turnL true (s.data.toList.take k)) rfl (HO1.out y) wr.heap.size 1 y rfl (range_whole (heap_alloc_new _ _)) hl1 (HZ.out y) ?_); intro v' w3 ho3 hg3)
             have hb3 := HB1.out y w3 hg3
             go_roundw
             case rel => exact ⟨k + 1, by omega, by go_num, by rw [N1.out]; exact ho3, hb3⟩
             case measure => simp [intOf]; omega)
    · obtain rfl : k = s.size := by omega
      have hcv := own_str HO.out
      rw [HE.out] at hcv
      go_wp2_with fail
      go_ret
      exact ⟨rfl, HW.out⟩
end Go.Proofs.Ytagdedjclbmlkaa.Tg
/- The document's tags: front, Text. -/
namespace Go.Proofs.Ytagdedjclbmlkaa.Tg
open Go.RowKit

theorem front_zero {l : List UInt8} {k : Nat} (h : k < l.length) (hz : l[k] = 0) : frontZ (l.take (k + 1)) = frontZ (l.take k) := by
  rw [List.take_succ_eq_append_getElem h, hz]
  unfold frontZ Lib.trimRightB
  simp
theorem front_stop {l : List UInt8} {k : Nat} (h : k < l.length) (hz : l[k] ≠ 0) : frontZ (l.take (k + 1)) = l.take (k + 1) := by
  rw [List.take_succ_eq_append_getElem h]
  unfold frontZ Lib.trimRightB
  rw [List.reverse_append, List.reverse_singleton, List.singleton_append, List.dropWhile_cons, if_neg (by simpa using hz), List.reverse_cons, List.reverse_reverse]
theorem u8_0 {c : UInt8} : (c = 0) ↔ ((c.toNat : Int) = 0) := by
  constructor
  · rintro rfl; rfl
  · intro h
    apply UInt8.toNat_inj.1
    show c.toNat = 0
    omega
set_option maxRecDepth 100000 in
set_option maxHeartbeats 1000000 in
theorem front_any (g o n cap : Nat) (l : List UInt8) (w : World) (hl : l.length = n) (hn : n ≤ 1000000) (hcap : n ≤ cap) (h : w.rangeAt g o (bC l).toList) :
    Calls Try.prog 51 #[.slice (some ⟨g, o, none⟩) n cap] w fun e w' => e = .returned (.string ⟨(frontZ l).toArray⟩) ∧ w = w' := by
  have HR := Lib.hid h
  have HL := Lib.hid hl
  have HFl : Hid (frontZ (l.take n) = frontZ l) := by show _ = _; rw [← hl, List.take_length]
  have HF0 : Hid (∀ k (h : k < l.length), l[k] = 0 → frontZ (l.take (k + 1)) = frontZ (l.take k)) := fun k h hz => front_zero h hz
  have HF1 : Hid (∀ k (h : k < l.length), l[k] ≠ 0 → frontZ (l.take (k + 1)) = l.take (k + 1)) := fun k h hz => front_stop h hz
  have HCv : Hid (∀ k, k ≤ n → (convert 109 9 (.slice (some ⟨g, o, none⟩) k cap)).run Try.prog w = .ok (.string ⟨(l.take k).toArray⟩) w) := fun k hk => conv_any w g o k cap (l.take k) (by simp; omega) (fun j v hv => h j v (by
    have hj := (List.getElem?_eq_some_iff.1 hv).1
    rw [← hv, bC_take, List.getElem?_take_of_lt (by simp [bC] at hj; omega)]))
  clear h hl
  go_enter Try.func51, Try.ntmps51
  go_wp2_with fail
  go_loop [3] (fun i => ∃ k : Nat, k ≤ n ∧ i = .int .i64 k ∧ Hid (frontZ (l.take k) = frontZ l)) (fun i => (intOf i).toNat)
  case atStart => exact ⟨n, Nat.le_refl _, rfl, HFl.out⟩
  case round =>
    obtain ⟨k, hk, rfl, HF⟩ := hrel
    have hkc : (k : Int) ≤ cap := by omega
    have hcv := HCv.out k hk
    have hk0 : (0 : Int) ≤ (k : Int) := by omega
    rcases Nat.eq_zero_or_pos k with rfl | hp
    · have HE : Hid (frontZ l = l.take 0) := by show _ = _; rw [← HF.out]; rfl
      go_wp2_with fail
      go_ret
      exact ⟨by rw [HE.out]; rfl, rfl⟩
    · obtain ⟨m, rfl⟩ : ∃ m, k = m + 1 := ⟨k - 1, by omega⟩
      have hml : m < l.length := by rw [HL.out]; omega
      have hcell : w.cell? ⟨g, o + m, none⟩ = some (.int .u8 (l[m].toNat : Int)) := HR.out m _ (by simp [bC, hml])
      have hm0 : (0 : Int) ≤ (m : Int) := by omega
      have hm1 : (m : Int) < n := by omega
      have hm2 : (0 : Int) < ((m + 1 : Nat) : Int) := by omega
      have hm3 : (((m + 1 : Nat) : Int) - 1) = (m : Int) := by omega
      have hm4 : (0 : Int) < (m : Int) + 1 := by omega
      have hmc : (m : Int) + 1 ≤ cap := by omega
      clear hp
      by_cases hz : l[m] = 0
      · have hz' : ((l[m].toNat : Int) == 0) = true := by rw [beq_iff_eq]; exact u8_0.1 hz
        have HF2 : Hid (frontZ (l.take m) = frontZ l) := by show _ = _; rw [← HF.out, HF0.out m hml hz]
        clear hz
        go_wp2_with fail
        go_round
        case rel => exact ⟨m, by omega, by go_num, HF2.out⟩
        case measure => simp [intOf]
      · have hz' : ((l[m].toNat : Int) == 0) = false := by rw [beq_eq_false_iff_ne]; exact fun h => hz (u8_0.2 h)
        have HE : Hid (frontZ l = l.take (m + 1)) := by show _ = _; rw [← HF.out, HF1.out m hml hz]
        clear hz
        go_wp2_with fail
        go_ret
        exact ⟨by rw [HE.out]; rfl, rfl⟩

/-! Tags of the document in memory. -/
def tC (t : T3) : Array Value := #[.string ⟨t.lang.toArray⟩, .string ⟨t.script.toArray⟩, .string ⟨t.region.toArray⟩]
def text5 (t : T3) : List UInt8 := if t.lang = [] then rootL else textT t
theorem eqE5 (l : List UInt8) (W : World) : (binOp .eql 9 (.string ⟨l.toArray⟩) (.string ⟨#[]⟩)).run Try.prog W = .ok (.bool l.isEmpty) W := by
  have := emp5 l
  go_simp
set_option maxRecDepth 100000 in
set_option maxHeartbeats 2000000 in
theorem text_any5 (t : T3) (w : World) (h1 : t.lang.length ≤ 32) (h2 : t.script.length ≤ 32) (h3 : t.region.length ≤ 32) :
    Calls Try.prog 53 #[.agg (tC t)] w fun e w' => e = .returned (.string ⟨(text5 t).toArray⟩) ∧ Below w.heap.size w w' := by
  obtain ⟨L, S, R⟩ := t
  simp only at h1 h2 h3
  have HB0 : Hid (Below w.heap.size w (w.alloc (.cells (tC ⟨L, S, R⟩) 102))) := below_alloc1 _ _
  have HT : Hid (text5 ⟨L, S, R⟩ = if L = [] then rootL else L ++ dash S ++ dash R) := rfl
  have hg : (w.alloc (.cells (tC ⟨L, S, R⟩) 102)).heap[w.heap.size]? = some (.cells (tC ⟨L, S, R⟩) 102 (0, 0)) := heap_alloc_new _ _
  have c0 : (w.alloc (.cells (tC ⟨L, S, R⟩) 102)).cell? ⟨w.heap.size, 0, none⟩ = some (.string ⟨L.toArray⟩) := by rw [cell_blk hg]; rfl
  have c1 : (w.alloc (.cells (tC ⟨L, S, R⟩) 102)).cell? ⟨w.heap.size, 1, none⟩ = some (.string ⟨S.toArray⟩) := by rw [cell_blk hg]; rfl
  have c2 : (w.alloc (.cells (tC ⟨L, S, R⟩) 102)).cell? ⟨w.heap.size, 2, none⟩ = some (.string ⟨R.toArray⟩) := by rw [cell_blk hg]; rfl
  have e0 := fun W => eqE5 L W
  have n1 := fun W => neqE5 S W
  have n2 := fun W => neqE5 R W
  have m0 := emp5 L
  have m1 := emp5 S
  have m2 := emp5 R
  have k1 := fun W => catS5 L [45] (by simp; omega) W
  have k2 := fun W => catS5 (L ++ [45]) S (by simp; omega) W
  have k3 := fun W => catS5 (L ++ [45] ++ S) [45] (by simp; omega) W
  have k4 := fun W => catS5 (L ++ [45] ++ S ++ [45]) R (by simp; omega) W
  have k5 := fun W => catS5 (L ++ [45]) R (by simp; omega) W
  have z1 : ¬ 9223372036854775807 < L.length + 1 := by omega
  have z2 : ¬ 9223372036854775807 < L.length + 1 + S.length := by omega
  have z3 : ¬ 9223372036854775807 < L.length + 1 + S.length + 1 := by omega
  have z4 : ¬ 9223372036854775807 < L.length + 1 + S.length + 1 + R.length := by omega
  have z5 : ¬ 9223372036854775807 < L.length + 1 + R.length := by omega
  clear hg
  cases L with
  | nil =>
    simp only [List.isEmpty_nil] at e0 m0
    go_enter Try.func53, Try.ntmps53
    go_wp2_with fail
    go_ret
    exact ⟨rfl, HB0.out⟩
  | cons c L =>
    simp only [List.isEmpty_cons] at e0 m0
    rw [if_neg (by simp)] at HT
    have hLt : ¬ (⟨(c :: L).toArray⟩ : ByteArray).toList = [] := by rw [ByteArray.toList_eq]; simp
    have hLe : (c :: L).isEmpty = false := rfl
    generalize (c :: L) = L at *
    cases S with
    | nil =>
      simp only [List.isEmpty_nil, Bool.not_true] at n1 m1
      cases R with
      | nil =>
        simp only [List.isEmpty_nil, Bool.not_true] at n2 m2
        go_enter Try.func53, Try.ntmps53
        go_wp2_with fail
        go_ret
        exact ⟨by rw [HT.out]; simp [dash], HB0.out⟩
      | cons r R =>
        simp only [List.isEmpty_cons, Bool.not_false] at n2 m2
        go_enter Try.func53, Try.ntmps53
        go_wp2_with fail
        go_ret
        exact ⟨by rw [HT.out]; simp [dash, ba_add], HB0.out⟩
    | cons s S =>
      simp only [List.isEmpty_cons, Bool.not_false] at n1 m1
      cases R with
      | nil =>
        simp only [List.isEmpty_nil, Bool.not_true] at n2 m2
        go_enter Try.func53, Try.ntmps53
        go_wp2_with fail
        go_ret
        exact ⟨by rw [HT.out]; simp [dash, ba_add], HB0.out⟩
      | cons r R =>
        simp only [List.isEmpty_cons, Bool.not_false] at n2 m2
        go_enter Try.func53, Try.ntmps53
        go_wp2_with fail
        go_ret
        exact ⟨by rw [HT.out]; simp [dash, ba_add], HB0.out⟩
end Go.Proofs.Ytagdedjclbmlkaa.Tg
