/- Tags as bytes: parts of a text, what is a tag's. Plain. -/
import Derived.Lib.SplitLaws
import Derived.Lib.TrimByte
import Derived.Lib.IndexBytes
namespace Go.Proofs.YtmbbhnbfgcmkgaaDoor

def ltB (c : UInt8) : Bool := (97 ≤ c && c ≤ 122) || (65 ≤ c && c ≤ 90)
def dgB (c : UInt8) : Bool := 48 ≤ c && c ≤ 57
def loB (c : UInt8) : UInt8 := if 65 ≤ c && c ≤ 90 then c + 32 else c
def upB (c : UInt8) : UInt8 := if 97 ≤ c && c ≤ 122 then c - 32 else c
theorem u8_all {p : UInt8 → Prop} (h : ∀ n : Fin 256, p (UInt8.ofNat n.1)) (c : UInt8) : p c := by
  have := h ⟨c.toNat, c.toNat_lt⟩; simpa using this
theorem up_lo (c : UInt8) : upB (loB c) = upB c := by
  exact u8_all (p := fun c => upB (loB c) = upB c) (by decide +kernel) c
theorem lo_lo (c : UInt8) : loB (loB c) = loB c := by
  exact u8_all (p := fun c => loB (loB c) = loB c) (by decide +kernel) c
theorem up_up (c : UInt8) : upB (upB c) = upB c := by
  exact u8_all (p := fun c => upB (upB c) = upB c) (by decide +kernel) c
theorem lt_lo (c : UInt8) : ltB (loB c) = ltB c := by
  exact u8_all (p := fun c => ltB (loB c) = ltB c) (by decide +kernel) c
theorem lt_up (c : UInt8) : ltB (upB c) = ltB c := by
  exact u8_all (p := fun c => ltB (upB c) = ltB c) (by decide +kernel) c
theorem dg_up (c : UInt8) : dgB (upB c) = dgB c := by
  exact u8_all (p := fun c => dgB (upB c) = dgB c) (by decide +kernel) c
theorem lt_dg (c : UInt8) : ltB c = true → dgB c = false := by
  exact u8_all (p := fun c => ltB c = true → dgB c = false) (by decide +kernel) c
theorem lt_ne (c : UInt8) : ltB c = true → c ≠ 45 ∧ c ≠ 0 := by
  exact u8_all (p := fun c => ltB c = true → c ≠ 45 ∧ c ≠ 0) (by decide +kernel) c
theorem dg_ne (c : UInt8) : dgB c = true → c ≠ 45 ∧ c ≠ 0 := by
  exact u8_all (p := fun c => dgB c = true → c ≠ 45 ∧ c ≠ 0) (by decide +kernel) c

/-- The parts of a text. -/
def spl (d : UInt8) : List UInt8 → List (List UInt8)
  | [] => [[]]
  | c :: l => if c = d then [] :: spl d l else match spl d l with
    | p :: ps => (c :: p) :: ps
    | [] => [[c]]
theorem spl_ne (d : UInt8) (l : List UInt8) : spl d l ≠ [] := by
  cases l with
  | nil => simp [spl]
  | cons c l =>
    unfold spl
    split
    · simp
    · split <;> simp
theorem splitK_spl (d : UInt8) : ∀ s : List UInt8, Lib.splitK [d] 0 (s.count d) s = spl d s
  | [] => rfl
  | b :: l => by
    have ih := splitK_spl d l
    by_cases h : b = d
    · subst h
      have e : (b :: l).count b = l.count b + 1 := by simp
      have hi : Lib.index (b :: l) [b] = 0 := by rw [Lib.index]; simp [List.isPrefixOf]
      rw [e, Lib.splitK, hi, if_neg (by decide)]
      simp only [Int.toNat_zero, Nat.zero_add, List.take_zero, List.length_singleton, List.drop_succ_cons, List.drop_zero]
      rw [ih, spl, if_pos rfl]
    · have e : (b :: l).count d = l.count d := by rw [List.count_cons_of_ne (by simpa using h)]
      rw [e, spl, if_neg h, ← ih]
      cases hk : l.count d with
      | zero => rfl
      | succ m =>
        have hne : Lib.index l [d] ≠ -1 := by
          intro hx
          have h1 : Lib.count l [d] = 0 := by rw [Lib.count_miss hx]
          rw [Lib.count_one, hk] at h1; omega
        have hge := Lib.index_ge l [d]
        obtain ⟨i, hi⟩ : ∃ i : Nat, Lib.index l [d] = i := ⟨(Lib.index l [d]).toNat, by omega⟩
        have hb : Lib.index (b :: l) [d] = ((i + 1 : Nat) : Int) := by
          rw [Lib.index, if_neg (by simp [List.isPrefixOf]; exact fun e => h e.symm), if_neg (by rw [beq_iff_eq]; exact hne), hi]
          omega
        have t1 : ¬ (Lib.index (b :: l) [d] == -1) = true := by rw [beq_iff_eq, hb]; omega
        have t2 : ¬ (Lib.index l [d] == -1) = true := by rw [beq_iff_eq]; exact hne
        rw [Lib.splitK, if_neg t1, Lib.splitK, if_neg t2, hb, hi]
        simp
theorem splitB_spl (d : UInt8) (s : ByteArray) : (Lib.splitB ⟨#[d]⟩ 0 (Lib.countB s ⟨#[d]⟩) s).map (·.data.toList) = spl d s.data.toList := by
  rw [Lib.splitB_data]
  have : Lib.countB s ⟨#[d]⟩ = s.data.toList.count d := by
    show Lib.count s.data.toList [d] = _
    rw [Lib.count_one]
  rw [this]
  exact splitK_spl d _
theorem spl_noD (d : UInt8) : ∀ (l : List UInt8), ∀ p ∈ spl d l, ∀ c ∈ p, c ≠ d
  | [], p, hp, c, hc => by simp [spl] at hp; subst hp; simp at hc
  | b :: l, p, hp, c, hc => by
    have ih := spl_noD d l
    unfold spl at hp
    split at hp
    · rcases List.mem_cons.1 hp with rfl | hp
      · simp at hc
      · exact ih p hp c hc
    · rename_i hne
      split at hp
      · rename_i q qs hq
        rcases List.mem_cons.1 hp with rfl | hp
        · rcases List.mem_cons.1 hc with rfl | hc
          · exact hne
          · exact ih q (by rw [hq]; simp) c hc
        · exact ih p (by rw [hq]; simp [hp]) c hc
      · simp at hp; subst hp; simp at hc; subst hc; exact hne
theorem spl_app {d : UInt8} : ∀ {p : List UInt8} (r : List UInt8), (∀ c ∈ p, c ≠ d) → spl d (p ++ d :: r) = p :: spl d r
  | [], r, _ => by simp [spl]
  | b :: p, r, h => by
    have ih := spl_app (p := p) r fun c hc => h c (by simp [hc])
    show spl d (b :: (p ++ d :: r)) = _
    rw [spl, if_neg (h b (by simp)), ih]
theorem spl_one {d : UInt8} : ∀ {p : List UInt8}, (∀ c ∈ p, c ≠ d) → spl d p = [p]
  | [], _ => rfl
  | b :: p, h => by
    rw [spl, if_neg (h b (by simp)), spl_one fun c hc => h c (by simp [hc])]
theorem spl_size (d : UInt8) : ∀ (l : List UInt8), ∀ p ∈ spl d l, p.length ≤ l.length
  | [], p, hp => by simp [spl] at hp; subst hp; simp
  | b :: l, p, hp => by
    have ih := spl_size d l
    unfold spl at hp
    split at hp
    · rcases List.mem_cons.1 hp with rfl | hp
      · simp
      · have := ih p hp; simp; omega
    · split at hp
      · rename_i q qs hq
        rcases List.mem_cons.1 hp with rfl | hp
        · have := ih q (by rw [hq]; simp); simp; omega
        · have := ih p (by rw [hq]; simp [hp]); simp; omega
      · simp at hp; subst hp; simp
theorem spl_len (d : UInt8) : ∀ (l : List UInt8), (spl d l).length ≤ l.length + 1
  | [] => by simp [spl]
  | b :: l => by
    have ih := spl_len d l
    unfold spl
    split
    · simp; omega
    · split
      · rename_i q qs hq; rw [hq] at ih; simp at ih ⊢; omega
      · simp

/-- Three parts, canonical. -/
structure T3 where
  lang : List UInt8
  script : List UInt8
  region : List UInt8
deriving DecidableEq
def rootL : List UInt8 := [114, 111, 111, 116]
def isLang (p : List UInt8) : Bool := decide (2 ≤ p.length ∧ p.length ≤ 3) && p.all ltB
def isScript (p : List UInt8) : Bool := decide (p.length = 4) && p.all ltB
def isRegion (p : List UInt8) : Bool := (decide (p.length = 2) && p.all ltB) || (decide (p.length = 3) && p.all dgB)
def titleL : List UInt8 → List UInt8
  | [] => []
  | c :: l => upB c :: l.map loB
/-- A script, if there is one, and what is left; then a region. -/
def scr : List (List UInt8) → List UInt8 × List (List UInt8)
  | [] => ([], [])
  | a :: r => if isScript a then (titleL a, r) else ([], a :: r)
def reg : List (List UInt8) → List UInt8 × List (List UInt8)
  | [] => ([], [])
  | a :: r => if isRegion a then (a.map upB, r) else ([], a :: r)
def parseR (r : List (List UInt8)) : Option T3 :=
  match r with
  | [] => none
  | p :: r => if isLang p then (if (reg (scr r).2).2 = [] then some ⟨p.map loB, (scr r).1, (reg (scr r).2).1⟩ else none) else none
def parseT (s : List UInt8) : Option T3 := if s = rootL then some ⟨[], [], []⟩ else parseR (spl 45 s)
def padTo (n : Nat) (l : List UInt8) : List UInt8 := l ++ List.replicate (n - l.length) 0
def bytT (t : T3) : List UInt8 := padTo 3 t.lang ++ padTo 4 t.script ++ padTo 3 t.region
def frontZ (l : List UInt8) : List UInt8 := Lib.trimRightB l 0
def tag0 : List UInt8 := List.replicate 10 0
def fT (b : List UInt8) : T3 := ⟨frontZ (b.take 3), frontZ ((b.drop 3).take 4), frontZ (b.drop 7)⟩
def dash (l : List UInt8) : List UInt8 := if l = [] then [] else 45 :: l
def textT (t : T3) : List UInt8 := t.lang ++ dash t.script ++ dash t.region
def plainL (b : List UInt8) : List UInt8 := if b = tag0 then rootL else textT (fT b)
def rightT (b : List UInt8) : Bool := match parseT (plainL b) with | some t => decide (bytT t = b) | none => false
end Go.Proofs.YtmbbhnbfgcmkgaaDoor
