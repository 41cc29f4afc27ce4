/- Texts joined: TX5. -/
import Derived.Lib.SplitLaws
import Derived.Lib.TrimByte
import Derived.Lib.IndexBytes
import Derived.Test.YtbfefdedjcppaaaGreatDoorGX
import Derived.Test.YtbfefdedjcppaaaGreatDoorSh
import Derived.Deep.DeepCutAuto
import Derived.Laws.StructEq
import Derived.Deep.RegionHeld3
import Derived.Deep.QuietTactic
import Derived.IntWalk
import Derived.WalkMore
/- Tags as bytes: parts of a text, what is a tag's. Plain. -/
namespace Go.Proofs.YtbfefdedjcppaaaGreatDoor
def ltB (c : UInt8) : Bool := (97 ≤ c && c ≤ 122) || (65 ≤ c && c ≤ 90)
def dgB (c : UInt8) : Bool := 48 ≤ c && c ≤ 57
def loB (c : UInt8) : UInt8 := if 65 ≤ c && c ≤ 90 then c + 32 else c
def upB (c : UInt8) : UInt8 := if 97 ≤ c && c ≤ 122 then c - 32 else c
theorem u8_all {p : UInt8 → Prop} (h : ∀ n : Fin 256, p (UInt8.ofNat n.1)) (c : UInt8) : p c := by
 have := h ⟨c.toNat, c.toNat_lt⟩; simpa using this
theorem up_lo (c : UInt8) : upB (loB c) = upB c := by
 exact u8_all (p := fun c => upB (loB c) = upB c) (by decide +kernel) c
theorem lt_lo (c : UInt8) : ltB (loB c) = ltB c := by
 exact u8_all (p := fun c => ltB (loB c) = ltB c) (by decide +kernel) c
theorem lt_up (c : UInt8) : ltB (upB c) = ltB c := by
 exact u8_all (p := fun c => ltB (upB c) = ltB c) (by decide +kernel) c
theorem dg_up (c : UInt8) : dgB (upB c) = dgB c := by
 exact u8_all (p := fun c => dgB (upB c) = dgB c) (by decide +kernel) c
theorem lt_dg (c : UInt8) : ltB c = true → dgB c = false := by
 exact u8_all (p := fun c => ltB c = true → dgB c = false) (by decide +kernel) c
theorem lt_ne (c : UInt8) : ltB c = true → c ≠ 45 ∧ c ≠ 0 := by
 exact u8_all (p := fun c => ltB c = true → c ≠ 45 ∧ c ≠ 0) (by decide +kernel) c
theorem dg_ne (c : UInt8) : dgB c = true → c ≠ 45 ∧ c ≠ 0 := by
 exact u8_all (p := fun c => dgB c = true → c ≠ 45 ∧ c ≠ 0) (by decide +kernel) c
def spl (d : UInt8) : List UInt8 → List (List UInt8)
 | [] => [[]]
 | c :: l => if c = d then [] :: spl d l else match spl d l with
   | p :: ps => (c :: p) :: ps
   | [] => [[c]]
theorem spl_ne (d : UInt8) (l : List UInt8) : spl d l ≠ [] := by
 cases l with
 | nil => simp [spl]
 | cons c l =>
   unfold spl
   split
   · simp
   · split <;> simp
theorem splitK_spl (d : UInt8) : ∀ s : List UInt8, Lib.splitK [d] 0 (s.count d) s = spl d s
 | [] => rfl
 | b :: l => by
   have ih := splitK_spl d l
   by_cases h : b = d
   · subst h
     have e : (b :: l).count b = l.count b + 1 := by simp
     have hi : Lib.index (b :: l) [b] = 0 := by rw [Lib.index]; simp [List.isPrefixOf]
     rw [e, Lib.splitK, hi, if_neg (by decide)]
     simp only [Int.toNat_zero, Nat.zero_add, List.take_zero, List.length_singleton, List.drop_succ_cons, List.drop_zero]
     rw [ih, spl, if_pos rfl]
   · have e : (b :: l).count d = l.count d := by rw [List.count_cons_of_ne (by simpa using h)]
     rw [e, spl, if_neg h, ← ih]
     cases hk : l.count d with
     | zero => rfl
     | succ m =>
       have hne : Lib.index l [d] ≠ -1 := by
         intro hx
         have h1 : Lib.count l [d] = 0 := by rw [Lib.count_miss hx]
         rw [Lib.count_one, hk] at h1; omega
       have hge := Lib.index_ge l [d]
       obtain ⟨i, hi⟩ : ∃ i : Nat, Lib.index l [d] = i := ⟨(Lib.index l [d]).toNat, by omega⟩
       have hb : Lib.index (b :: l) [d] = ((i + 1 : Nat) : Int) := by
         rw [Lib.index, if_neg (by simp [List.isPrefixOf]; exact fun e => h e.symm), if_neg (by rw [beq_iff_eq]; exact hne), hi]
         omega
       have t1 : ¬ (Lib.index (b :: l) [d] == -1) = true := by rw [beq_iff_eq, hb]; omega
       have t2 : ¬ (Lib.index l [d] == -1) = true := by rw [beq_iff_eq]; exact hne
       rw [Lib.splitK, if_neg t1, Lib.splitK, if_neg t2, hb, hi]
       simp
theorem splitB_spl (d : UInt8) (s : ByteArray) : (Lib.splitB ⟨#[d]⟩ 0 (Lib.countB s ⟨#[d]⟩) s).map (·.data.toList) = spl d s.data.toList := by
 rw [Lib.splitB_data]
 have : Lib.countB s ⟨#[d]⟩ = s.data.toList.count d := by
   show Lib.count s.data.toList [d] = _
   rw [Lib.count_one]
 rw [this]
 exact splitK_spl d _
theorem spl_app {d : UInt8} : ∀ {p : List UInt8} (r : List UInt8), (∀ c ∈ p, c ≠ d) → spl d (p ++ d :: r) = p :: spl d r
 | [], r, _ => by simp [spl]
 | b :: p, r, h => by
   have ih := spl_app (p := p) r fun c hc => h c (by simp [hc])
   show spl d (b :: (p ++ d :: r)) = _
   rw [spl, if_neg (h b (by simp)), ih]
theorem spl_one {d : UInt8} : ∀ {p : List UInt8}, (∀ c ∈ p, c ≠ d) → spl d p = [p]
 | [], _ => rfl
 | b :: p, h => by
   rw [spl, if_neg (h b (by simp)), spl_one fun c hc => h c (by simp [hc])]
theorem spl_size (d : UInt8) : ∀ (l : List UInt8), ∀ p ∈ spl d l, p.length ≤ l.length
 | [], p, hp => by simp [spl] at hp; subst hp; simp
 | b :: l, p, hp => by
   have ih := spl_size d l
   unfold spl at hp
   split at hp
   · rcases List.mem_cons.1 hp with rfl | hp
     · simp
     · have := ih p hp; simp; omega
   · split at hp
     · rename_i q qs hq
       rcases List.mem_cons.1 hp with rfl | hp
       · have := ih q (by rw [hq]; simp); simp; omega
       · have := ih p (by rw [hq]; simp [hp]); simp; omega
     · simp at hp; subst hp; simp
structure T3 where
 lang : List UInt8
 script : List UInt8
 region : List UInt8
deriving DecidableEq
def rootL : List UInt8 := [114, 111, 111, 116]
def isLang (p : List UInt8) : Bool := decide (2 ≤ p.length ∧ p.length ≤ 3) && p.all ltB
def isScript (p : List UInt8) : Bool := decide (p.length = 4) && p.all ltB
def isRegion (p : List UInt8) : Bool := (decide (p.length = 2) && p.all ltB) || (decide (p.length = 3) && p.all dgB)
def titleL : List UInt8 → List UInt8
 | [] => []
 | c :: l => upB c :: l.map loB
def scr : List (List UInt8) → List UInt8 × List (List UInt8)
 | [] => ([], [])
 | a :: r => if isScript a then (titleL a, r) else ([], a :: r)
def reg : List (List UInt8) → List UInt8 × List (List UInt8)
 | [] => ([], [])
 | a :: r => if isRegion a then (a.map upB, r) else ([], a :: r)
def parseR (r : List (List UInt8)) : Option T3 :=
 match r with
 | [] => none
 | p :: r => if isLang p then (if (reg (scr r).2).2 = [] then some ⟨p.map loB, (scr r).1, (reg (scr r).2).1⟩ else none) else none
def parseT (s : List UInt8) : Option T3 := if s = rootL then some ⟨[], [], []⟩ else parseR (spl 45 s)
def padTo (n : Nat) (l : List UInt8) : List UInt8 := l ++ List.replicate (n - l.length) 0
def bytT (t : T3) : List UInt8 := padTo 3 t.lang ++ padTo 4 t.script ++ padTo 3 t.region
def frontZ (l : List UInt8) : List UInt8 := Lib.trimRightB l 0
def tag0 : List UInt8 := List.replicate 10 0
def fT (b : List UInt8) : T3 := ⟨frontZ (b.take 3), frontZ ((b.drop 3).take 4), frontZ (b.drop 7)⟩
def dash (l : List UInt8) : List UInt8 := if l = [] then [] else 45 :: l
def textT (t : T3) : List UInt8 := t.lang ++ dash t.script ++ dash t.region
def plainL (b : List UInt8) : List UInt8 := if b = tag0 then rootL else textT (fT b)
def rightT (b : List UInt8) : Bool := match parseT (plainL b) with | some t => decide (bytT t = b) | none => false
end Go.Proofs.YtbfefdedjcppaaaGreatDoor

/- Tags: the document's way comes to the same. Plain. -/
namespace Go.Proofs.YtbfefdedjcppaaaGreatDoor
def stepT (t : T3) (a : List UInt8) : Option T3 :=
 if isScript a = true ∧ t.script = [] ∧ t.region = [] then some { t with script := titleL a }
 else if isRegion a = true ∧ t.region = [] then some { t with region := a.map upB } else none
def foldT (t : T3) : List (List UInt8) → Option T3
 | [] => some t
 | a :: r => match stepT t a with
   | some t' => foldT t' r
   | none => none
theorem isScript_len {a : List UInt8} (h : isScript a = true) : a.length = 4 := by
 simp only [isScript, Bool.and_eq_true, decide_eq_true_eq] at h; exact h.1
theorem isRegion_len {a : List UInt8} (h : isRegion a = true) : a.length = 2 ∨ a.length = 3 := by
 simp only [isRegion, Bool.or_eq_true, Bool.and_eq_true, decide_eq_true_eq] at h
 rcases h with h | h
 · exact .inl h.1
 · exact .inr h.1
theorem titleL_len (a : List UInt8) : (titleL a).length = a.length := by cases a <;> simp [titleL]
theorem title_ne {a : List UInt8} (h : isScript a = true) : titleL a ≠ [] := by
 intro e
 have h1 := titleL_len a
 rw [e, isScript_len h] at h1; simp at h1
theorem region_ne {a : List UInt8} (h : isRegion a = true) : a.map upB ≠ [] := by
 intro e
 have : a.length = 0 := by have := congrArg List.length e; simpa using this
 rcases isRegion_len h with h | h <;> omega
theorem scr_not_reg {a : List UInt8} (h : isScript a = true) : isRegion a = false := by
 cases hr : isRegion a
 · rfl
 · have := isScript_len h
   rcases isRegion_len hr with h | h <;> omega
theorem foldT_full {t : T3} (h : t.region ≠ []) : ∀ r, foldT t r = if r = [] then some t else none
 | [] => rfl
 | a :: r => by
   rw [foldT, stepT, if_neg (fun e => h e.2.2), if_neg (fun e => h e.2)]
   simp
theorem foldT_reg {l s : List UInt8} (hs : s ≠ []) : ∀ r, foldT ⟨l, s, []⟩ r = if (reg r).2 = [] then some ⟨l, s, (reg r).1⟩ else none
 | [] => rfl
 | a :: r => by
   rw [foldT, stepT, if_neg (fun e => hs e.2.1)]
   by_cases h : isRegion a = true
   · rw [if_pos ⟨h, rfl⟩]
     simp only [reg, h, if_true]
     rw [foldT_full (region_ne h)]
   · rw [if_neg (fun e => h e.1)]
     simp [reg, h]
theorem parseR_fold (p : List UInt8) (r : List (List UInt8)) : parseR (p :: r) = if isLang p then foldT ⟨p.map loB, [], []⟩ r else none := by
 unfold parseR
 simp only
 split
 · cases r with
   | nil => rfl
   | cons a r =>
     by_cases h : isScript a = true
     · have e : stepT ⟨p.map loB, [], []⟩ a = some ⟨p.map loB, titleL a, []⟩ := by unfold stepT; rw [if_pos ⟨h, rfl, rfl⟩]
       simp only [scr, h, if_true, foldT, e]
       exact (foldT_reg (title_ne h) r).symm
     · by_cases hr : isRegion a = true
       · have e : stepT ⟨p.map loB, [], []⟩ a = some ⟨p.map loB, [], a.map upB⟩ := by unfold stepT; rw [if_neg (fun e => h e.1), if_pos ⟨hr, rfl⟩]
         simp only [scr, h, Bool.false_eq_true, if_false, reg, hr, if_true, foldT, e]
         rw [foldT_full (region_ne hr)]
       · have e : stepT ⟨p.map loB, [], []⟩ a = none := by unfold stepT; rw [if_neg (fun e => h e.1), if_neg (fun e => hr e.1)]
         simp only [scr, h, Bool.false_eq_true, if_false, reg, hr, foldT, e]
         rfl
 · rfl
/-! Zeros at the end. -/
theorem frontZ_pad (l : List UInt8) (k : Nat) (h : ∀ c ∈ l, c ≠ 0) : frontZ (l ++ List.replicate k 0) = l := by
 unfold frontZ Lib.trimRightB
 rw [List.reverse_append, List.reverse_replicate]
 have h1 : ∀ k (r : List UInt8), (∀ c ∈ r, c ≠ 0) → (List.replicate k 0 ++ r).dropWhile (· == 0) = r := by
   intro k r hr
   induction k with
   | zero =>
     cases r with
     | nil => rfl
     | cons c r => simp [hr c (by simp)]
   | succ k ih => simp only [List.replicate_succ, List.cons_append, List.dropWhile_cons]; simpa using ih
 rw [h1 k l.reverse (by simpa using h), List.reverse_reverse]
theorem frontZ_padTo (n : Nat) (l : List UInt8) (h : ∀ c ∈ l, c ≠ 0) : frontZ (padTo n l) = l := frontZ_pad l _ h
theorem frontZ_split : ∀ l : List UInt8, l = frontZ l ++ List.replicate (l.length - (frontZ l).length) 0 := by
 intro l
 unfold frontZ Lib.trimRightB
 have h1 : ∀ r : List UInt8, r = List.replicate (r.length - (r.dropWhile (· == 0)).length) 0 ++ r.dropWhile (· == 0) := by
   intro r
   induction r with
   | nil => rfl
   | cons c r ih =>
     by_cases hc : c = 0
     · subst hc
       have hle : (r.dropWhile (· == 0)).length ≤ r.length := (List.dropWhile_sublist _).length_le
       have e : (((0 : UInt8) :: r).dropWhile (· == 0)) = r.dropWhile (· == 0) := by simp
       rw [e, List.length_cons, Nat.succ_sub hle, List.replicate_succ, List.cons_append, ← ih]
     · have e : ((c :: r).dropWhile (· == 0)) = c :: r := by simp [hc]
       rw [e, Nat.sub_self]; rfl
 have := h1 l.reverse
 have h2 := congrArg List.reverse this
 rw [List.reverse_reverse, List.reverse_append, List.reverse_replicate] at h2
 rw [List.length_reverse] at h2
 rw [List.length_reverse]
 exact h2
theorem frontZ_le (l : List UInt8) : (frontZ l).length ≤ l.length := by
 unfold frontZ Lib.trimRightB
 rw [List.length_reverse]
 have := (List.dropWhile_sublist (l := l.reverse) (p := (· == (0 : UInt8)))).length_le
 rwa [List.length_reverse] at this
theorem padTo_front {n : Nat} {l : List UInt8} (h : l.length = n) : padTo n (frontZ l) = l := by
 subst h
 exact (frontZ_split l).symm
theorem padTo_len {n : Nat} {l : List UInt8} (h : l.length ≤ n) : (padTo n l).length = n := by unfold padTo; simp; omega
theorem bytT_fT {b : List UInt8} (h : b.length = 10) : bytT (fT b) = b := by
 unfold bytT fT
 rw [padTo_front (by simp; omega), padTo_front (by simp; omega), padTo_front (by simp; omega)]
 have e : List.drop 3 b = (List.drop 3 b).take 4 ++ List.drop 7 b := by
   have := (List.take_append_drop 4 (List.drop 3 b)).symm
   rwa [List.drop_drop] at this
 have e2 := (List.take_append_drop 3 b).symm
 rw [List.append_assoc, ← e, ← e2]
structure T3.ok (t : T3) : Prop where
 l3 : t.lang.length ≤ 3
 s4 : t.script.length ≤ 4
 r3 : t.region.length ≤ 3
 lz : ∀ c ∈ t.lang, c ≠ 45 ∧ c ≠ 0
 sz : ∀ c ∈ t.script, c ≠ 45 ∧ c ≠ 0
 rz : ∀ c ∈ t.region, c ≠ 45 ∧ c ≠ 0
theorem T3.ok.empty : T3.ok ⟨[], [], []⟩ := ⟨by simp, by simp, by simp, by simp, by simp, by simp⟩
theorem fT_bytT {t : T3} (h : t.ok) : fT (bytT t) = t := by
 unfold fT bytT
 have h1 := padTo_len (l := t.lang) h.l3
 have h2 := padTo_len (l := t.script) h.s4
 have e1 : (padTo 3 t.lang ++ padTo 4 t.script ++ padTo 3 t.region).take 3 = padTo 3 t.lang := by
   rw [List.append_assoc, List.take_left' h1]
 have e2 : ((padTo 3 t.lang ++ padTo 4 t.script ++ padTo 3 t.region).drop 3).take 4 = padTo 4 t.script := by
   rw [List.append_assoc, List.drop_left' h1, List.take_left' h2]
 have e3 : (padTo 3 t.lang ++ padTo 4 t.script ++ padTo 3 t.region).drop 7 = padTo 3 t.region := by
   rw [List.drop_left' (by rw [List.length_append, h1, h2])]
 rw [e1, e2, e3, frontZ_padTo _ _ fun c hc => (h.lz c hc).2, frontZ_padTo _ _ fun c hc => (h.sz c hc).2, frontZ_padTo _ _ fun c hc => (h.rz c hc).2]
theorem title_mem {a : List UInt8} (h : a.all ltB = true) : ∀ c ∈ titleL a, ltB c = true := by
 cases a with
 | nil => simp [titleL]
 | cons b a =>
   simp only [List.all_cons, Bool.and_eq_true, List.all_eq_true] at h
   intro c hc
   rcases List.mem_cons.1 hc with rfl | hc
   · rw [lt_up]; exact h.1
   · obtain ⟨d, hd, rfl⟩ := List.mem_map.1 hc
     rw [lt_lo]; exact h.2 d hd
theorem parseR_ok {r : List (List UInt8)} {t : T3} (h : parseR r = some t) : t.ok ∧ 2 ≤ t.lang.length := by
 unfold parseR at h
 cases r with
 | nil => cases h
 | cons p r =>
   simp only at h
   split at h
   · rename_i hp
     split at h
     · simp only [Option.some.injEq] at h
       subst h
       simp only [isLang, Bool.and_eq_true, decide_eq_true_eq, List.all_eq_true] at hp
       obtain ⟨⟨h2, h3⟩, hall⟩ := hp
       have hs : (scr r).1.length ≤ 4 ∧ ∀ c ∈ (scr r).1, c ≠ 45 ∧ c ≠ 0 := by
         cases r with
         | nil => simp [scr]
         | cons a r =>
           by_cases ha : isScript a = true
           · have e : scr (a :: r) = (titleL a, r) := by simp [scr, ha]
             rw [e]
             refine ⟨by rw [titleL_len, isScript_len ha]; exact Nat.le_refl _, fun c hc => lt_ne c (title_mem (a := a) ?_ c hc)⟩
             simp only [isScript, Bool.and_eq_true] at ha; exact ha.2
           · have e : scr (a :: r) = ([], a :: r) := by simp [scr, ha]
             rw [e]; simp
       have hr : ∀ r, (reg r).1.length ≤ 3 ∧ ∀ c ∈ (reg r).1, c ≠ 45 ∧ c ≠ 0 := by
         intro r
         cases r with
         | nil => simp [reg]
         | cons a r =>
           by_cases ha : isRegion a = true
           · have e : reg (a :: r) = (a.map upB, r) := by simp [reg, ha]
             rw [e]
             refine ⟨by rw [List.length_map]; rcases isRegion_len ha with h | h <;> omega, fun c hc => ?_⟩
             obtain ⟨d, hd, rfl⟩ := List.mem_map.1 hc
             simp only [isRegion, Bool.or_eq_true, Bool.and_eq_true, List.all_eq_true] at ha
             rcases ha with ha | ha
             · exact lt_ne _ (by rw [lt_up]; exact ha.2 d hd)
             · exact dg_ne _ (by rw [dg_up]; exact ha.2 d hd)
           · have e : reg (a :: r) = ([], a :: r) := by simp [reg, ha]
             rw [e]; simp
       refine ⟨⟨by rw [List.length_map]; exact h3, hs.1, (hr _).1, fun c hc => ?_, hs.2, (hr _).2⟩, by rw [List.length_map]; exact h2⟩
       obtain ⟨d, hd, rfl⟩ := List.mem_map.1 hc
       exact lt_ne _ (by rw [lt_lo]; exact hall d hd)
     · cases h
   · cases h
theorem parseT_ok {s : List UInt8} {t : T3} (h : parseT s = some t) : t.ok := by
 unfold parseT at h
 split at h
 · cases h; exact T3.ok.empty
 · exact (parseR_ok h).1
def ofT (b : List UInt8) : Option T3 :=
 if (fT b).lang = [] then (if (fT b) = ⟨[], [], []⟩ then some ⟨[], [], []⟩ else none) else match parseT (textT (fT b)) with
   | some x => if x = fT b then some (fT b) else none
   | none => none
theorem fT_zero : fT tag0 = ⟨[], [], []⟩ := by decide +kernel
theorem bytT_zero : bytT ⟨[], [], []⟩ = tag0 := by decide +kernel
theorem fT_empty {b : List UInt8} (h : b.length = 10) (he : fT b = ⟨[], [], []⟩) : b = tag0 := by
 rw [← bytT_fT h, he, bytT_zero]
theorem parse_noLang (s r : List UInt8) : parseT (textT ⟨[], s, r⟩) = none := by
 have h1 : textT ⟨[], s, r⟩ = dash s ++ dash r := by simp [textT]
 have h2 : dash s ++ dash r = [] ∨ ∃ l, dash s ++ dash r = 45 :: l := by
   unfold dash
   by_cases hs : s = []
   · by_cases hr : r = []
     · left; simp [hs, hr]
     · right; exact ⟨r, by simp [hs, hr]⟩
   · right; rw [if_neg hs]; exact ⟨_, rfl⟩
 rw [h1]
 rcases h2 with h2 | ⟨l, h2⟩
 · rw [h2]; decide +kernel
 · rw [h2, parseT, if_neg (by intro e; cases e), spl, if_pos rfl]
   rfl
theorem right_of {b : List UInt8} (h : b.length = 10) : rightT b = (ofT b).isSome := by
 unfold rightT plainL ofT
 by_cases h0 : b = tag0
 · subst h0
   rw [if_pos rfl, fT_zero]
   decide +kernel
 · rw [if_neg h0]
   by_cases hl : (fT b).lang = []
   · have hne : ¬ fT b = ⟨[], [], []⟩ := fun e => h0 (fT_empty h e)
     rw [if_pos hl, if_neg hne]
     have e : fT b = ⟨[], (fT b).script, (fT b).region⟩ := by rw [← hl]
     rw [e, parse_noLang]; rfl
   · rw [if_neg hl]
     cases hp : parseT (textT (fT b)) with
     | none => rfl
     | some x =>
       have hx := parseT_ok hp
       simp only
       by_cases he : x = fT b
       · rw [if_pos he, he, bytT_fT h]; simp
       · rw [if_neg he]
         have : bytT x ≠ b := fun e => he (by rw [← e, fT_bytT hx])
         simp [this]
theorem of_some {b : List UInt8} {t : T3} (_ : b.length = 10) (ho : ofT b = some t) : t = fT b := by
 unfold ofT at ho
 split at ho
 · split at ho
   · rename_i he; cases ho; exact he.symm
   · cases ho
 · split at ho
   · split at ho
     · cases ho; rfl
     · cases ho
   · cases ho
end Go.Proofs.YtbfefdedjcppaaaGreatDoor

/- tag's letters and digits. -/
namespace Go.Proofs.YtbfefdedjcppaaaGreatDoor
set_option maxRecDepth 100000
set_option maxHeartbeats 1000000
open Go.RowKit
theorem ltB_int (c : UInt8) : ltB c = ((decide (97 ≤ (c.toNat : Int)) && decide ((c.toNat : Int) ≤ 122)) || (decide (65 ≤ (c.toNat : Int)) && decide ((c.toNat : Int) ≤ 90))) := by
 exact u8_all (p := fun c => ltB c = ((decide (97 ≤ (c.toNat : Int)) && decide ((c.toNat : Int) ≤ 122)) || (decide (65 ≤ (c.toNat : Int)) && decide ((c.toNat : Int) ≤ 90)))) (by decide +kernel) c
theorem dgB_int (c : UInt8) : dgB c = (decide (48 ≤ (c.toNat : Int)) && decide ((c.toNat : Int) ≤ 57)) := by
 exact u8_all (p := fun c => dgB c = (decide (48 ≤ (c.toNat : Int)) && decide ((c.toNat : Int) ≤ 57))) (by decide +kernel) c
theorem loB_int (c : UInt8) : ((loB c).toNat : Int) = if 65 ≤ (c.toNat : Int) ∧ (c.toNat : Int) ≤ 90 then (c.toNat : Int) + 32 else c.toNat := by
 exact u8_all (p := fun c => ((loB c).toNat : Int) = if 65 ≤ (c.toNat : Int) ∧ (c.toNat : Int) ≤ 90 then (c.toNat : Int) + 32 else c.toNat) (by decide +kernel) c
theorem upB_int (c : UInt8) : ((upB c).toNat : Int) = if 97 ≤ (c.toNat : Int) ∧ (c.toNat : Int) ≤ 122 then (c.toNat : Int) - 32 else c.toNat := by
 exact u8_all (p := fun c => ((upB c).toNat : Int) = if 97 ≤ (c.toNat : Int) ∧ (c.toNat : Int) ≤ 122 then (c.toNat : Int) - 32 else c.toNat) (by decide +kernel) c
theorem letter_any5 (x : UInt8) (w : World) : Calls Tryz.prog 126 #[.int .u8 (x.toNat : Int)] w fun e w' => e = .returned (.bool (ltB x)) ∧ w = w' := by
 rw [ltB_int]
 have h0 : (0 : Int) ≤ (x.toNat : Int) := by omega
 have h5 := byte_lt x
 generalize (x.toNat : Int) = c at *
 by_cases h1 : 97 ≤ c <;> by_cases h2 : c ≤ 122 <;> by_cases h3 : 65 ≤ c <;> by_cases h4 : c ≤ 90
 all_goals
   first
     | (exfalso; omega)
     | (go_enter Tryz.func126, Tryz.ntmps126
        go_wp2
        go_ret
        exact ⟨by simp [*], rfl⟩)
theorem digit_any5 (x : UInt8) (w : World) : Calls Tryz.prog 129 #[.int .u8 (x.toNat : Int)] w fun e w' => e = .returned (.bool (dgB x)) ∧ w = w' := by
 rw [dgB_int]
 have h0 : (0 : Int) ≤ (x.toNat : Int) := by omega
 have h5 := byte_lt x
 generalize (x.toNat : Int) = c at *
 by_cases h1 : 48 ≤ c <;> by_cases h2 : c ≤ 57
 all_goals
   first
     | (exfalso; omega)
     | (go_enter Tryz.func129, Tryz.ntmps129
        go_wp2
        go_ret
        exact ⟨by simp [*], rfl⟩)
theorem lower_any5 (x : UInt8) (w : World) : Calls Tryz.prog 127 #[.int .u8 (x.toNat : Int)] w fun e w' => e = .returned (.int .u8 ((loB x).toNat : Int)) ∧ w = w' := by
 rw [loB_int]
 have h0 : (0 : Int) ≤ (x.toNat : Int) := by omega
 have h5 := byte_lt x
 generalize (x.toNat : Int) = c at *
 by_cases h1 : 65 ≤ c <;> by_cases h2 : c ≤ 90
 all_goals
   first
     | (exfalso; omega)
     | (go_enter Tryz.func127, Tryz.ntmps127
        go_wp2
        go_ret
        exact ⟨by simp [*], rfl⟩)
theorem upper_any5 (x : UInt8) (w : World) : Calls Tryz.prog 128 #[.int .u8 (x.toNat : Int)] w fun e w' => e = .returned (.int .u8 ((upB x).toNat : Int)) ∧ w = w' := by
 rw [upB_int]
 have h0 : (0 : Int) ≤ (x.toNat : Int) := by omega
 have h5 := byte_lt x
 generalize (x.toNat : Int) = c at *
 by_cases h1 : 97 ≤ c <;> by_cases h2 : c ≤ 122
 all_goals
   first
     | (exfalso; omega)
     | (go_enter Tryz.func128, Tryz.ntmps128
        go_wp2
        go_ret
        exact ⟨by simp [*], rfl⟩)
theorem all_yes {p : UInt8 → Bool} {s : ByteArray} (h : ∀ i (h : i < s.size), p s[i] = true) : s.data.toList.all p = true := by
 rw [List.all_eq_true]
 intro x hx
 obtain ⟨i, hi, rfl⟩ := List.mem_iff_getElem.1 hx
 have hi' : i < s.size := by simpa using hi
 rw [at_list s i hi']
 exact h i hi'
theorem all_no {p : UInt8 → Bool} {s : ByteArray} {i : Nat} (h : i < s.size) (hp : p s[i] = false) : s.data.toList.all p = false := by
 rw [List.all_eq_false]
 exact ⟨s.data.toList[i]'(by simpa using h), List.getElem_mem _, by rw [at_list s i h, hp]; simp⟩
theorem all_any5 (fv : Value) (p : UInt8 → Bool) (s : ByteArray) (w : World) (hs : s.size ≤ maxLen) (hf : fv = .func (.func 126) #[] #[] ∧ p = ltB ∨ fv = .func (.func 129) #[] #[] ∧ p = dgB) :
   Calls Tryz.prog 125 #[.string s, fv] w fun e w' => e = .returned (.bool (s.data.toList.all p)) ∧ w = w' := by
 unfold maxLen at hs
 have HY : Hid ((∀ i (h : i < s.size), p s[i] = true) → s.data.toList.all p = true) := all_yes
 have HN : Hid (∀ i (h : i < s.size), p s[i] = false → s.data.toList.all p = false) := fun i h => all_no h
 have HL := Lib.hid letter_any5
 have HD := Lib.hid digit_any5
 rcases hf with ⟨rfl, rfl⟩ | ⟨rfl, rfl⟩
 · generalize s.data.toList.all ltB = bb at *
   go_enter Tryz.func125, Tryz.ntmps125
   go_wp2_with fail
   go_loop [8] (fun i => ∃ k : Nat, k ≤ s.size ∧ i = .int .i64 k ∧ Hid (∀ j (h : j < s.size), j < k → ltB s[j] = true)) (fun i => s.size - (intOf i).toNat)
   case atStart => exact ⟨0, Nat.zero_le _, rfl, fun j h hj => by omega⟩
   case round =>
     obtain ⟨k, hk, rfl, HA⟩ := hrel
     by_cases hlt : k < s.size
     · cases hp : ltB s[k]
       · have HE := Lib.hid (HN.out k hlt hp)
         go_wp2_with (first
           | (go_at_call 126; refine (HL.out _ _).mono ?_; rintro e w' ⟨rfl, rfl⟩)
           | (go_at_call 129; refine (HD.out _ _).mono ?_; rintro e w' ⟨rfl, rfl⟩))
         go_ret
         exact ⟨ret_bool HE.out.symm, rfl⟩
       · have HA2 : Hid (∀ j (h : j < s.size), j < k + 1 → ltB s[j] = true) := fun j h hj => by
           rcases Nat.lt_or_ge j k with h1 | h1
           · exact HA.out j h h1
           · obtain rfl : j = k := by omega
             exact hp
         go_wp2_with (first
           | (go_at_call 126; refine (HL.out _ _).mono ?_; rintro e w' ⟨rfl, rfl⟩)
           | (go_at_call 129; refine (HD.out _ _).mono ?_; rintro e w' ⟨rfl, rfl⟩))
         go_round
         case rel => exact ⟨k + 1, by omega, by go_num, HA2.out⟩
         case measure => simp [intOf]; omega
     · obtain rfl : k = s.size := by omega
       have HE := Lib.hid (HY.out fun i h => HA.out i h h)
       go_wp2_with fail
       go_ret
       exact ⟨ret_bool HE.out.symm, rfl⟩
 · generalize s.data.toList.all dgB = bb at *
   go_enter Tryz.func125, Tryz.ntmps125
   go_wp2_with fail
   go_loop [8] (fun i => ∃ k : Nat, k ≤ s.size ∧ i = .int .i64 k ∧ Hid (∀ j (h : j < s.size), j < k → dgB s[j] = true)) (fun i => s.size - (intOf i).toNat)
   case atStart => exact ⟨0, Nat.zero_le _, rfl, fun j h hj => by omega⟩
   case round =>
     obtain ⟨k, hk, rfl, HA⟩ := hrel
     by_cases hlt : k < s.size
     · cases hp : dgB s[k]
       · have HE := Lib.hid (HN.out k hlt hp)
         go_wp2_with (first
           | (go_at_call 126; refine (HL.out _ _).mono ?_; rintro e w' ⟨rfl, rfl⟩)
           | (go_at_call 129; refine (HD.out _ _).mono ?_; rintro e w' ⟨rfl, rfl⟩))
         go_ret
         exact ⟨ret_bool HE.out.symm, rfl⟩
       · have HA2 : Hid (∀ j (h : j < s.size), j < k + 1 → dgB s[j] = true) := fun j h hj => by
           rcases Nat.lt_or_ge j k with h1 | h1
           · exact HA.out j h h1
           · obtain rfl : j = k := by omega
             exact hp
         go_wp2_with (first
           | (go_at_call 126; refine (HL.out _ _).mono ?_; rintro e w' ⟨rfl, rfl⟩)
           | (go_at_call 129; refine (HD.out _ _).mono ?_; rintro e w' ⟨rfl, rfl⟩))
         go_round
         case rel => exact ⟨k + 1, by omega, by go_num, HA2.out⟩
         case measure => simp [intOf]; omega
     · obtain rfl : k = s.size := by omega
       have HE := Lib.hid (HY.out fun i h => HA.out i h h)
       go_wp2_with fail
       go_ret
       exact ⟨ret_bool HE.out.symm, rfl⟩
end Go.Proofs.YtbfefdedjcppaaaGreatDoor

/- tag.Parse. -/
namespace Go.Proofs.YtbfefdedjcppaaaGreatDoor
set_option maxRecDepth 100000
set_option maxHeartbeats 4000000
open Go.RowKit
def MX (w : World) : Prop := ∃ m : Int, w.cell? ⟨0, 0, none⟩ = some (.int .i64 m)
theorem MX.below {w w' : World} (h : MX w) (hb : Below w.heap.size w w') : MX w' := by
 obtain ⟨m, hm⟩ := h
 exact ⟨m, (hb.cell (p := ⟨0, 0, none⟩) (World.block_lt_of_cell? _ _ hm)).trans hm⟩
def ovl (c : List UInt8) (o : Nat) (l : List UInt8) : List UInt8 := c.take o ++ l ++ c.drop (o + l.length)
theorem ovl_len {c : List UInt8} {o : Nat} {l : List UInt8} (h : o + l.length ≤ c.length) : (ovl c o l).length = c.length := by
 unfold ovl; simp; omega
theorem ovl_nil (c : List UInt8) (o : Nat) : ovl c o [] = c := by unfold ovl; simp
theorem ovl_snoc {c : List UInt8} {o : Nat} {l : List UInt8} (h : o + l.length ≤ c.length) {k : Nat} (hk : k < l.length) : (ovl c o (l.take k)).set (o + k) l[k] = ovl c o (l.take (k + 1)) := by
 have l1 : (l.take k).length = k := by simp; omega
 have l2 : (l.take (k + 1)).length = k + 1 := by simp; omega
 have l0 : (c.take o).length = o := by simp; omega
 apply List.ext_getElem?
 intro j
 rw [List.getElem?_set]
 simp only [ovl, l1, l2]
 by_cases e : o + k = j
 · subst e
   rw [if_pos rfl, if_pos (by simp; omega), List.getElem?_append_left (by simp; omega), List.getElem?_append_right (by omega), l0, Nat.add_sub_cancel_left, List.getElem?_take_of_lt (by omega), List.getElem?_eq_getElem hk]
 · rw [if_neg e]
   by_cases h1 : j < o
   · rw [List.getElem?_append_left (by simp; omega), List.getElem?_append_left (by omega), List.getElem?_append_left (by simp; omega), List.getElem?_append_left (by omega)]
   · by_cases h2 : j < o + k
     · rw [List.getElem?_append_left (by simp; omega), List.getElem?_append_right (by omega), List.getElem?_append_left (by simp; omega), List.getElem?_append_right (by omega), List.getElem?_take_of_lt (by omega), List.getElem?_take_of_lt (by omega)]
     · have h3 : o + k + 1 ≤ j := by omega
       rw [List.getElem?_append_right (by simp; omega), List.getElem?_append_right (by simp; omega)]
       simp only [List.length_append, l0, l1, l2, List.getElem?_drop]
       congr 1; omega
theorem ovl_title {c : List UInt8} {a : List UInt8} (h : 3 + a.length ≤ c.length) (ha : a ≠ []) : (ovl c 3 (a.map loB)).set 3 (upB (loB (a.headD 0))) = ovl c 3 (titleL a) := by
 cases a with
 | nil => exact absurd rfl ha
 | cons b a =>
   have l0 : (c.take 3).length = 3 := by simp at h ⊢; omega
   simp only [ovl, titleL, List.headD_cons, List.map_cons, List.length_cons, List.length_map]
   rw [List.append_assoc, List.append_assoc, List.set_append_right _ _ (by omega), l0, up_lo]
   rfl
theorem tag0_len : tag0.length = 10 := rfl
theorem ovl_bytT {L S R : List UInt8} (h1 : L.length ≤ 3) (h2 : S.length ≤ 4) (_ : R.length ≤ 3) : ovl (ovl (ovl tag0 0 L) 3 S) 7 R = bytT ⟨L, S, R⟩ := by
 have e1 : ovl tag0 0 L = padTo 3 L ++ List.replicate 7 0 := by
   simp only [ovl, padTo, tag0, List.take_zero, List.nil_append, Nat.zero_add, List.drop_replicate, List.append_assoc, List.replicate_append_replicate]
   congr 2; omega
 have p1 := padTo_len (l := L) h1
 have p2 := padTo_len (l := S) h2
 have e2 : ovl (padTo 3 L ++ List.replicate 7 0) 3 S = padTo 3 L ++ padTo 4 S ++ List.replicate 3 0 := by
   simp only [ovl]
   rw [List.take_left' p1, ← List.drop_drop, List.drop_left' p1]
   simp only [padTo, List.drop_replicate, List.append_assoc, List.replicate_append_replicate]
   congr 4; omega
 rw [e1, e2]
 simp only [ovl]
 rw [List.take_left' (by rw [List.length_append, p1, p2]), ← List.drop_drop, List.drop_left' (by rw [List.length_append, p1, p2])]
 simp only [bytT, padTo, List.drop_replicate, List.append_assoc]
structure PSt (w : World) (ps : List ByteArray) (c : List UInt8) (wr : World) : Prop where
 bel : Below w.heap.size w wr
 r : wr.heap[w.heap.size]? = some (.cells (bC tag0) 28 (0, 0))
 t : wr.heap[w.heap.size + 1]? = some (.cells (bC c) 28 (0, 0))
 p : wr.heap[w.heap.size + 1 + 1]? = some (.cells (ps.map Value.string).toArray 9 (0, 0))
theorem PSt.set {w wr : World} {ps : List ByteArray} {c : List UInt8} (h : PSt w ps c wr) (j : Nat) (x : UInt8) : PSt w ps (c.set j x) (wr.setCell ⟨w.heap.size + 1, j, none⟩ (.int .u8 (x.toNat : Int))) :=
 ⟨h.bel.setCell (p := ⟨w.heap.size + 1, j, none⟩) (by simp) _, by rw [heap_setCell_other _ (by omega)]; exact h.r, by rw [heap_setCell_self _ h.t, bC_set], by rw [heap_setCell_other _ (by omega)]; exact h.p⟩
theorem PSt.cell {w wr : World} {ps : List ByteArray} {c : List UInt8} (h : PSt w ps c wr) (j : Nat) (hj : j < c.length) : ∃ b : UInt8, wr.cell? ⟨w.heap.size + 1, j, none⟩ = some (.int .u8 (b.toNat : Int)) ∧ wr.frozen? ⟨w.heap.size + 1, j, none⟩ = false := by
 refine ⟨c[j], by rw [cell_blk h.t, bC_get c j hj], ?_⟩
 simp [World.frozen?, h.t]
theorem PSt.piece {w wr : World} {ps : List ByteArray} {c : List UInt8} (h : PSt w ps c wr) (j : Nat) (hj : j < ps.length) : wr.cell? ⟨w.heap.size + 1 + 1, j, none⟩ = some (.string ps[j]) := by
 rw [cell_blk h.p]; simp [hj]
theorem PSt.pieceE {w wr : World} {ps : List ByteArray} {c : List UInt8} (h : PSt w ps c wr) {j : Nat} {y : ByteArray} (hj : ps[j]? = some y) : wr.cell? ⟨w.heap.size + 1 + 1, j, none⟩ = some (.string y) := by
 rw [cell_blk h.p]; simp [hj]
theorem PSt.cellE {w wr : World} {ps : List ByteArray} {c : List UInt8} (h : PSt w ps c wr) {j : Nat} {b : UInt8} (hj : c[j]? = some b) : wr.cell? ⟨w.heap.size + 1, j, none⟩ = some (.int .u8 (b.toNat : Int)) ∧ wr.frozen? ⟨w.heap.size + 1, j, none⟩ = false := by
 refine ⟨?_, by simp [World.frozen?, h.t]⟩
 obtain ⟨h1, h2⟩ := List.getElem?_eq_some_iff.1 hj
 rw [cell_blk h.t, bC_get c j h1, h2]
theorem ovl_at {c l : List UInt8} {o : Nat} {b : UInt8} (h : o ≤ c.length) (hb : l[0]? = some b) : (ovl c o l)[o]? = some b := by
 have l0 : (c.take o).length = o := by simp; omega
 have hl := (List.getElem?_eq_some_iff.1 hb).1
 unfold ovl
 rw [List.append_assoc, List.getElem?_append_right (by omega), l0, Nat.sub_self, List.getElem?_append_left hl, hb]
theorem split_any (s : ByteArray) (w : World) (hs : s.size ≤ 1000000) (hm : MX w) :
   Calls Tryz.prog 124 #[.string s, .string ⟨#[45]⟩] w fun e w' => ∃ ps : List ByteArray, ps.map (·.data.toList) = spl 45 s.data.toList ∧ e = .returned (.slice (some ⟨w.heap.size, 0, none⟩) ps.length ps.length) ∧ w' = w.alloc (.cells (ps.map Value.string).toArray 9) := by
 obtain ⟨m, hm⟩ := hm
 refine (Tryz.strings_Split s ⟨#[45]⟩ m w (by omega) hm (by decide)).mono fun e w' ⟨h1, h2⟩ => ⟨_, splitB_spl 45 s, ?_, h2⟩
 rw [h1, Lib.splitB_all ⟨#[45]⟩ (by decide) 0 _ s rfl]
theorem eqlS (x y : ByteArray) (W : World) : (binOp .eql 9 (.string x) (.string y)).run Tryz.prog W = .ok (.bool (decide (x.data.toList = y.data.toList))) W := by
 have h : (x.toList == y.toList) = decide (x.data.toList = y.data.toList) := by
   rw [ByteArray.toList_eq, ByteArray.toList_eq, Bool.eq_iff_iff]; simp
 go_simp
theorem root_beq (s : ByteArray) : (s.toList == [114, 111, 111, 116]) = decide (s.data.toList = rootL) := by
 rw [ByteArray.toList_eq, Bool.eq_iff_iff, decide_eq_true_eq]; simp [rootL]
def tagR (l : List UInt8) : List UInt8 := match parseT l with | some t => bytT t | none => tag0
def tagE (l : List UInt8) : Int := if (parseT l).isSome then 0 else 14
theorem tag_root {l : List UInt8} (h : l = rootL) : tagR l = tag0 ∧ tagE l = 0 := by
 subst h; decide +kernel
theorem tag_no {l : List UInt8} (h : parseT l = none) : tagR l = tag0 ∧ tagE l = 14 := by
 rw [tagR, tagE, h]; exact ⟨rfl, rfl⟩
theorem sizTag : (Tryz.prog.info? 28).map (·.size) = some 10 := by kernel_rfl
theorem tag0_bC : (bC tag0) = #[.int .u8 0, .int .u8 0, .int .u8 0, .int .u8 0, .int .u8 0, .int .u8 0, .int .u8 0, .int .u8 0, .int .u8 0, .int .u8 0] := rfl
theorem sizStr : (Tryz.prog.info? 9).map (·.size) = some 1 := by kernel_rfl
theorem tail_next {b : Nat} {ps : List ByteArray} {o : Nat} {m : Nat} (hm : m = ps.length - o) (ho : o < ps.length) : ∃ q, (∀ W, (Instr.sliceAt 199 (.slice (some ⟨b, o, none⟩) m m) (some (.int .i64 1)) none none).run Tryz.prog W = .ok (.slice q (m - 1) (m - 1)) W) ∧ (o + 1 < ps.length → q = some ⟨b, o + 1, none⟩) := by
 refine ⟨cutQ 1 (some ⟨b, o, none⟩) 1 m, fun W => run_sl_lo (P := Tryz.prog) (k := 1) Tryz.underlying199 sizStr (some ⟨b, o, none⟩) m m 1 (by omega) W, fun h => ?_⟩
 unfold cutQ
 rw [if_neg (by omega)]
 show some (Addr.add _ _) = _
 rw [Addr.add_mid]
theorem run_build0 (w : World) : (Instr.build 28 #[]).run Tryz.prog w = .ok (.agg (bC tag0)) w := run_build w _ _ _ (by kernel_rfl)
section
variable {ops : Array Oper} {rest : List Oper} {o : Oper} {a : Act} {w : World} {Q : Exit → Act → World → Prop}
theorem st_T (hgd : o.guard = none) (x y : Operand) (ho : o.op = .store 28 x y) (g : Nat) (e old : List UInt8) (he : e.length = 10) (hold : old.length = 10) (T' : TypeId)
   (hx : a.eval x = .pointer (some ⟨g, 0, none⟩)) (hy : a.eval y = .agg (bC e)) (hg : w.heap[g]? = some (.cells (bC old) T'))
   (h : wpList Tryz.prog ops Q rest (a.put o.dst undef) (w.setRow g (bC e))) : wpList Tryz.prog ops Q (o :: rest) a w :=
 wl_str hgd _ x y ho g _ (bC old) T' (by rw [sizTag, bC_size, he]) (by rw [bC_size, bC_size, he, hold]) (bC_one e) hx hy hg h
theorem ld_T (hw : Region.wanted o (yielded ops a.tmps) = true) (x : Operand) (ho : o.op = .load 28 x) (g : Nat) (l : List UInt8) (hl : l.length = 10) (hx : a.eval x = .pointer (some ⟨g, 0, none⟩)) (hg : w.heap[g]? = some (.cells (bC l) 28 (0, 0)))
   (h : wpList Tryz.prog ops Q rest (a.put o.dst (.agg (bC l))) w) : wpList Tryz.prog ops Q (o :: rest) a w :=
 wl_ldr hw _ x ho g 0 (bC l).toList _ Tryz.underlying28 rfl (by rw [sizTag]; simp [bC, hl]) hx (range_whole (by simpa using hg)) (by simpa using h)
end
theorem PSt.bad {w wr : World} {ps : List ByteArray} {c : List UInt8} (h : PSt w ps c wr) : Below w.heap.size w (wr.setRow w.heap.size (bC tag0)) ∧ (wr.setRow w.heap.size (bC tag0)).heap[w.heap.size]? = some (.cells (bC tag0) 28 (0, 0)) :=
 ⟨setRow_below h.bel (Nat.le_refl _) _, setRow_at h.r⟩
theorem isLang_no {l : List UInt8} (h : l.length < 2 ∨ 3 < l.length ∨ l.all ltB = false) : isLang l = false := by
 unfold isLang
 rcases h with h | h | h
 · rw [decide_eq_false (by omega)]; rfl
 · rw [decide_eq_false (by omega)]; rfl
 · rw [h, Bool.and_false]
theorem tagParse_any (s : ByteArray) (w : World) (hs : s.size ≤ 1000000) (hmx : MX w) :
    Calls Tryz.prog 97 #[.string s] w fun e w' => e = .returned (.tuple #[.agg (bC (tagR s.data.toList)), .int .i64 (tagE s.data.toList)]) ∧ Below w.heap.size w w' := by
  have he : ∀ W, (binOp .eql 9 (.string s) (.string ⟨#[114, 111, 111, 116]⟩)).run Tryz.prog W = .ok (.bool (decide (s.data.toList = rootL))) W := fun W => eqlS s ⟨#[114, 111, 111, 116]⟩ W
  have hbq := root_beq s
  have HB2 : Hid (Below w.heap.size w ((w.alloc (.cells (bC tag0) 28)).alloc (.cells (bC tag0) 28))) := below_alloc2 _ _ _
  by_cases hroot : s.data.toList = rootL
  · obtain ⟨hr1, hr2⟩ := tag_root hroot
    have H1 := Lib.hid hr1
    have H2 := Lib.hid hr2
    rw [decide_eq_true hroot] at he hbq
    clear hr1 hr2 hroot
    go_enter Tryz.func97, Tryz.ntmps97
    go_wp2_with fail
    rw [← tag0_bC]
    refine bodyPost_ret (res_rowc_tmp (P := Tryz.prog) (T := 28) (T' := 28) (t := 3) rfl _ _ w.heap.size (bC tag0) (0, 0) rfl (heap_alloc2_old _ _ _) Tryz.underlying28 rfl (by rw [sizTag, bC_size]; rfl)) rfl ⟨?_, HB2.out⟩
    rw [H1.out, H2.out]; rfl
  · have HPT : Hid (parseT s.data.toList = parseR (spl 45 s.data.toList)) := by show parseT _ = _; rw [parseT, if_neg hroot]
    rw [decide_eq_false hroot] at he hbq
    clear hroot
    have HSp : Hid (∀ W, Below w.heap.size w W → Calls Tryz.prog 124 #[.string s, .string ⟨#[45]⟩] W fun e w' => ∃ ps : List ByteArray, ps.map (·.data.toList) = spl 45 s.data.toList ∧ e = .returned (.slice (some ⟨W.heap.size, 0, none⟩) ps.length ps.length) ∧ w' = W.alloc (.cells (ps.map Value.string).toArray 9)) := fun W hW => split_any s W hs (hmx.below hW)
    go_enter Tryz.func97, Tryz.ntmps97
    go_upto_region 5 with (go_at_call 124; (refine (HSp.out _ HB2.out).mono ?_); rintro e w' ⟨ps, hps, rfl, rfl⟩)
    have HS : Hid (PSt w ps tag0 (((w.alloc (.cells (bC tag0) 28)).alloc (.cells (bC tag0) 28)).alloc (.cells (ps.map Value.string).toArray 9))) := by
      refine ⟨(HB2.out).alloc (by simp; omega) _, ?_, ?_, ?_⟩
      · rw [heap_alloc_old _ _ (by simp; omega)]; exact heap_alloc2_old _ _ _
      · rw [heap_alloc_old _ _ (by simp)]; exact heap_alloc2_new _ _ _
      · have := heap_alloc_new ((w.alloc (.cells (bC tag0) 28)).alloc (.cells (bC tag0) 28)) (.cells (ps.map Value.string).toArray 9)
        simpa using this
    generalize (((w.alloc (.cells (bC tag0) 28)).alloc (.cells (bC tag0) 28)).alloc (.cells (ps.map Value.string).toArray 9)) = W3 at *
    have hpss : ∀ x ∈ ps, x.size ≤ s.size := fun x hx => by
      have h1 : x.data.toList ∈ spl 45 s.data.toList := by rw [← hps]; exact List.mem_map_of_mem hx
      have := spl_size 45 _ _ h1
      simpa using this
    cases hp : ps with
    | nil => rw [hp] at hps; exact absurd hps.symm (spl_ne 45 _)
    | cons x r =>
    have HPP : Hid (parseT s.data.toList = parseR (x.data.toList :: r.map (·.data.toList))) := by
      show parseT _ = _
      rw [HPT.out, ← hps, hp]; rfl
    have hx1 : x.size ≤ 1000000 := Nat.le_trans (hpss x (by rw [hp]; simp)) hs
    have HRS : Hid (∀ y ∈ r, y.size ≤ 1000000) := fun y hy => Nat.le_trans (hpss y (by rw [hp]; simp [hy])) hs
    have HLE : Hid (ps = x :: r) := hp
    have hlen : ps.length = r.length + 1 := by rw [hp]; simp
    have hc0 : W3.cell? ⟨w.heap.size + 1 + 1, 0, none⟩ = some (.string x) := by have := HS.out.piece 0 (by omega); simpa [hp] using this
    have HBad : Hid (parseT s.data.toList = none → tagR s.data.toList = tag0 ∧ tagE s.data.toList = 14) := tag_no
    have HAl : Hid (∀ W : World, Calls Tryz.prog 125 #[.string x, .func (.func 126) #[] #[]] W fun e w' => e = .returned (.bool (x.data.toList.all ltB)) ∧ W = w') := fun W => all_any5 _ _ x W (by unfold maxLen; omega) (.inl ⟨rfl, rfl⟩)
    have HNo : Hid (x.data.toList.length < 2 ∨ 3 < x.data.toList.length ∨ x.data.toList.all ltB = false → parseT s.data.toList = none) := fun h => by
      rw [HPP.out, parseR, if_neg (by rw [isLang_no h]; simp)]
    have hsl : x.data.toList.length = x.size := by simp
    rw [hsl] at HNo
    have hn0 : (0 : Int) < ps.length := by omega
    have hrun0 := run_build0
    clear hps hpss HPT HSp he hbq hp hs hmx HB2
    rw [← hlen] at *
    by_cases hok : (2 ≤ x.size ∧ x.size ≤ 3) ∧ x.data.toList.all ltB = true
    case neg =>
      have HT : Hid (tagR s.data.toList = tag0 ∧ tagE s.data.toList = 14) := HBad.out (HNo.out (by
        by_cases h2 : x.size < 2
        · exact .inl h2
        · by_cases h3 : 3 < x.size
          · exact .inr (.inl h3)
          · refine .inr (.inr ?_)
            cases h : x.data.toList.all ltB
            · rfl
            · exact absurd ⟨⟨by omega, by omega⟩, h⟩ hok))
      clear HNo HBad
      by_cases h2 : (x.size : Int) < 2
      · clear hok
        go_wp2_with (first
          | (go_at_call 125; (refine (HAl.out _).mono ?_); rintro e w' ⟨rfl, rfl⟩)
          | ((with_reducible refine gate_st 28 _ _ rfl ?_); refine st_T rfl _ _ rfl w.heap.size tag0 tag0 rfl rfl _ rfl rfl HS.out.r ?_))
        refine bodyPost_ret (res_rowc_tmp (P := Tryz.prog) (T := 28) (T' := 28) (t := 3) rfl _ _ w.heap.size (bC tag0) (0, 0) rfl (PSt.bad HS.out).2 Tryz.underlying28 rfl (by rw [sizTag, bC_size]; rfl)) rfl ⟨?_, (PSt.bad HS.out).1⟩
        rw [HT.out.1, HT.out.2]; rfl
      · by_cases h3 : (3 : Int) < x.size
        · clear hok
          go_wp2_with (first
            | (go_at_call 125; (refine (HAl.out _).mono ?_); rintro e w' ⟨rfl, rfl⟩)
            | ((with_reducible refine gate_st 28 _ _ rfl ?_); refine st_T rfl _ _ rfl w.heap.size tag0 tag0 rfl rfl _ rfl rfl HS.out.r ?_))
          refine bodyPost_ret (res_rowc_tmp (P := Tryz.prog) (T := 28) (T' := 28) (t := 3) rfl _ _ w.heap.size (bC tag0) (0, 0) rfl (PSt.bad HS.out).2 Tryz.underlying28 rfl (by rw [sizTag, bC_size]; rfl)) rfl ⟨?_, (PSt.bad HS.out).1⟩
          rw [HT.out.1, HT.out.2]; rfl
        · have hall : x.data.toList.all ltB = false := by
            cases h : x.data.toList.all ltB
            · rfl
            · exact absurd ⟨⟨by omega, by omega⟩, h⟩ hok
          rw [hall] at HAl
          clear hok hall
          go_wp2_with (first
            | (go_at_call 125; (refine (HAl.out _).mono ?_); rintro e w' ⟨rfl, rfl⟩)
            | ((with_reducible refine gate_st 28 _ _ rfl ?_); refine st_T rfl _ _ rfl w.heap.size tag0 tag0 rfl rfl _ rfl rfl HS.out.r ?_))
          refine bodyPost_ret (res_rowc_tmp (P := Tryz.prog) (T := 28) (T' := 28) (t := 3) rfl _ _ w.heap.size (bC tag0) (0, 0) rfl (PSt.bad HS.out).2 Tryz.underlying28 rfl (by rw [sizTag, bC_size]; rfl)) rfl ⟨?_, (PSt.bad HS.out).1⟩
          rw [HT.out.1, HT.out.2]; rfl
    obtain ⟨⟨h2, h3⟩, hall⟩ := hok
    rw [hall] at HAl
    have HP2 : Hid (parseT s.data.toList = if (reg (scr (r.map (·.data.toList))).2).2 = [] then some ⟨x.data.toList.map loB, (scr (r.map (·.data.toList))).1, (reg (scr (r.map (·.data.toList))).2).1⟩ else none) := by
      show parseT _ = _
      rw [HPP.out, parseR, if_pos (by rw [isLang, hall, hsl, decide_eq_true ⟨h2, h3⟩]; rfl)]
    have h2' : (2 : Int) ≤ x.size := by omega
    have h3' : (x.size : Int) ≤ 3 := by omega
    clear hall HNo HPP hsl
    go_wp2_with (go_at_call 125; (refine (HAl.out _).mono ?_); rintro e w' ⟨rfl, rfl⟩)
    have hml : (x.data.toList.map loB).length = x.size := by simp
    go_loopw [37] (fun i wr => ∃ k : Nat, k ≤ x.size ∧ i = .int .i64 k ∧ Hid (PSt w ps (ovl tag0 0 ((x.data.toList.map loB).take k)) wr)) (fun i _ => x.size - (intOf i).toNat)
    case atStart => exact ⟨0, Nat.zero_le _, rfl, by rw [List.take_zero, ovl_nil]; exact HS.out⟩
    case round =>
      obtain ⟨k, hk, rfl, HK⟩ := hrel
      by_cases hlt : k < x.size
      · have hlt' : (k : Int) < x.size := by omega
        have hk0 : (0 : Int) ≤ (k : Int) := by omega
        have hk3 : (k : Int) < 3 := by omega
        have hkl : k < (ovl tag0 0 ((x.data.toList.map loB).take k)).length := by rw [ovl_len (by simp [tag0_len]; omega), tag0_len]; omega
        obtain ⟨ob, hcc, hcf⟩ := HK.out.cell k hkl
        have hc1 : wr.cell? ⟨w.heap.size + 1 + 1, 0, none⟩ = some (.string x) := by have := HK.out.piece 0 (by omega); simpa [HLE.out] using this
        have HLo := Lib.hid lower_any5
        have HK2 : Hid (PSt w ps (ovl tag0 0 ((x.data.toList.map loB).take (k + 1))) (wr.setCell ⟨w.heap.size + 1, k, none⟩ (.int .u8 ((loB x[k]).toNat : Int)))) := by
          have h1 := HK.out.set k (loB x[k])
          have h2 := ovl_snoc (c := tag0) (o := 0) (l := x.data.toList.map loB) (by simp [tag0_len]; omega) (k := k) (by simp; exact hlt)
          rw [Nat.zero_add, List.getElem_map, at_list x k hlt] at h2
          show PSt _ _ _ _
          rw [← h2]; exact h1
        clear hkl
        go_wp2_with (go_at_call 127; (refine (HLo.out _ _).mono ?_); rintro e w' ⟨rfl, rfl⟩)
        go_roundw
        case rel => exact ⟨k + 1, by omega, by go_num, HK2.out⟩
        case measure => simp [intOf]; omega
      · obtain rfl : k = x.size := by omega
        rw [List.take_of_length_le (by rw [hml]; exact Nat.le_refl _)] at HK
        have HCL1 : Hid ((ovl tag0 0 (x.data.toList.map loB)).length = 10) := by show (ovl _ _ _).length = 10; rw [ovl_len (by simp [tag0_len]; omega), tag0_len]
        obtain ⟨q1, hsl1, hq1⟩ := tail_next (b := w.heap.size + 1 + 1) (ps := ps) (o := 0) (m := ps.length) rfl (by omega)
        have hl1 : ps.length - 1 = r.length := by rw [HLE.out]; simp
        rw [hl1] at hsl1
        have hq1' : r ≠ [] → q1 = some ⟨w.heap.size + 1 + 1, 1, none⟩ := fun h => hq1 (by rw [HLE.out]; cases r with | nil => exact absurd rfl h | cons a r => simp)
        clear hq1 hl1 hn0 HAl hc0 HS
        cases r with
        | nil =>
          have HTT : Hid (parseT s.data.toList = some ⟨x.data.toList.map loB, [], []⟩) := by show parseT _ = _; rw [HP2.out]; rfl
          clear hq1'
          have HOV : Hid (ovl (ovl (ovl tag0 0 (x.data.toList.map loB)) 3 []) 7 [] = bytT ⟨x.data.toList.map loB, [], []⟩) := ovl_bytT (by simp; omega) (show ([] : List UInt8).length ≤ 4 from Nat.zero_le 4) (show ([] : List UInt8).length ≤ 3 from Nat.zero_le 3)
          have HBL : Hid ((bytT ⟨x.data.toList.map loB, [], []⟩).length = 10) := by show (bytT _).length = 10; rw [← HOV.out, ovl_len (by rw [ovl_len (by rw [ovl_len (by simp [tag0_len]; omega), tag0_len]; have := (show ([] : List UInt8).length ≤ 4 from Nat.zero_le 4); omega), ovl_len (by simp [tag0_len]; omega), tag0_len]; have := (show ([] : List UInt8).length ≤ 3 from Nat.zero_le 3); omega), ovl_len (by rw [ovl_len (by simp [tag0_len]; omega), tag0_len]; have := (show ([] : List UInt8).length ≤ 4 from Nat.zero_le 4); omega), ovl_len (by simp [tag0_len]; omega), tag0_len]
          rw [ovl_nil, ovl_nil] at HOV
          have HTR : Hid (tagR s.data.toList = ovl tag0 0 (x.data.toList.map loB) ∧ tagE s.data.toList = 0) := by
            refine ⟨?_, ?_⟩
            · rw [tagR, HTT.out]; exact HOV.out.symm
            · rw [tagE, HTT.out]; rfl
          have hcl : (ovl tag0 0 (x.data.toList.map loB)).length = 10 := by rw [HOV.out]; exact HBL.out
          generalize ovl tag0 0 (x.data.toList.map loB) = cz at *
          go_wp2_with (first
            | (with_reducible refine ld_T rfl _ rfl (w.heap.size + 1) cz hcl rfl HK.out.t ?_)
            | ((with_reducible refine gate_st 28 _ _ rfl ?_); refine st_T rfl _ _ rfl w.heap.size cz tag0 hcl rfl _ rfl rfl HK.out.r ?_))
          refine bodyPost_ret (res_rowc_tmp (P := Tryz.prog) (T := 28) (T' := 28) (t := 3) rfl _ _ w.heap.size (bC cz) (0, 0) rfl (setRow_at HK.out.r) Tryz.underlying28 rfl (by rw [sizTag, bC_size, hcl])) rfl ⟨?_, setRow_below HK.out.bel (Nat.le_refl _) _⟩
          rw [HTR.out.1, HTR.out.2]; rfl
        | cons a r =>
          obtain rfl := hq1' (by simp)
          clear hq1'
          have hca := HK.out.pieceE (j := 1) (y := a) (by rw [HLE.out]; rfl)
          have ha1 : a.size ≤ 1000000 := HRS.out a (by simp)
          have HALa : Hid (∀ W : World, Calls Tryz.prog 125 #[.string a, .func (.func 126) #[] #[]] W fun e w' => e = .returned (.bool (a.data.toList.all ltB)) ∧ W = w') := fun W => all_any5 _ _ a W (by unfold maxLen; omega) (.inl ⟨rfl, rfl⟩)
          have hla : a.data.toList.length = a.size := by simp
          have HSD : Hid (isScript a.data.toList = (decide (a.size = 4) && a.data.toList.all ltB)) := by show isScript _ = _; rw [isScript, hla]
          have hn3 : (0 : Int) < ((r.length + 1 : Nat) : Int) := by omega
          have hn4 : (0 : Int) < (r.length : Int) + 1 := by omega
          simp only [List.length_cons] at hsl1
          clear hla
          go_upto_region 14 with fail
          go_cut [67] (fun t wx => t = .bool (isScript a.data.toList) ∧ Hid (PSt w ps (ovl tag0 0 (x.data.toList.map loB)) wx))
          case first =>
            by_cases hy4 : a.size = 4
            case pos =>
              have e4 : ((a.size : Int) == 4) = true := by rw [hy4]; rfl
              rw [hy4] at HSD
              clear hy4
              cases hal : a.data.toList.all ltB
              all_goals
                rw [hal] at HALa HSD; clear hal
                go_wp2_with (go_at_call 125; (refine (HALa.out _).mono ?_); rintro e w' ⟨rfl, rfl⟩)
                go_meet
                exact ⟨by rw [HSD.out]; rfl, HK.out⟩
            case neg =>
              have e4 : ((a.size : Int) == 4) = false := by rw [beq_eq_false_iff_ne]; omega
              rw [decide_eq_false hy4] at HSD
              clear hy4
              go_wp2_with fail
              go_meet
              exact ⟨by rw [HSD.out]; rfl, HK.out⟩
          case rest =>
            clear hca HK
            obtain ⟨rfl, HK⟩ := hcut
            clear HSD HALa
            cases hscr : isScript a.data.toList
            case false =>
              have HNS := Lib.hid hscr; clear hscr
              have HSC : Hid (scr ((a :: r).map (·.data.toList)) = ([], a.data.toList :: r.map (·.data.toList))) := by show scr _ = _; simp only [List.map_cons, scr, HNS.out, Bool.false_eq_true, if_false]
              have HCL := HCL1
              have hcy := HK.out.pieceE (j := 1) (y := a) (by rw [HLE.out]; rfl)
              have HALy : Hid (∀ W : World, Calls Tryz.prog 125 #[.string a, .func (.func 126) #[] #[]] W fun e w' => e = .returned (.bool (a.data.toList.all ltB)) ∧ W = w') := fun W => all_any5 _ _ a W (by unfold maxLen; omega) (.inl ⟨rfl, rfl⟩)
              have HADy : Hid (∀ W : World, Calls Tryz.prog 125 #[.string a, .func (.func 129) #[] #[]] W fun e w' => e = .returned (.bool (a.data.toList.all dgB)) ∧ W = w') := fun W => all_any5 _ _ a W (by unfold maxLen; omega) (.inr ⟨rfl, rfl⟩)
              have hly : a.data.toList.length = a.size := by simp
              have HRD : Hid (isRegion a.data.toList = ((decide (a.size = 2) && a.data.toList.all ltB) || (decide (a.size = 3) && a.data.toList.all dgB))) := by show isRegion _ = _; rw [isRegion, hly]
              have hn1 : (0 : Int) < (r.length : Int) + 1 := by omega
              have hn2 : (0 : Int) < ((r.length + 1 : Nat) : Int) := by omega
              clear hly
              go_upto_region 22 with fail
              go_cut [117] (fun t wx => t = .bool (isRegion a.data.toList) ∧ Hid (PSt w ps (ovl tag0 0 (x.data.toList.map loB)) wx))
              case first =>
                by_cases hy2 : a.size = 2
                case pos =>
                  have e2 : ((a.size : Int) == 2) = true := by rw [hy2]; rfl
                  have e3 : ((a.size : Int) == 3) = false := by rw [hy2]; rfl
                  rw [hy2] at HRD
                  clear hy2
                  generalize a.data.toList.all dgB = bd at *
                  cases hal : a.data.toList.all ltB
                  all_goals
                    rw [hal] at HALy HRD; clear hal
                    go_wp2_with (go_at_call 125; (refine (HALy.out _).mono ?_); rintro e w' ⟨rfl, rfl⟩)
                    go_meet
                    exact ⟨by rw [HRD.out]; rfl, HK.out⟩
                case neg =>
                  have e2 : ((a.size : Int) == 2) = false := by rw [beq_eq_false_iff_ne]; omega
                  rw [decide_eq_false hy2] at HRD
                  clear hy2
                  by_cases hy3 : a.size = 3
                  case pos =>
                    have e3 : ((a.size : Int) == 3) = true := by rw [hy3]; rfl
                    rw [hy3] at HRD
                    clear hy3
                    generalize a.data.toList.all ltB = bl at *
                    cases had : a.data.toList.all dgB
                    all_goals
                      rw [had] at HADy HRD; clear had
                      go_wp2_with (go_at_call 125; (refine (HADy.out _).mono ?_); rintro e w' ⟨rfl, rfl⟩)
                      go_meet
                      exact ⟨by rw [HRD.out]; rfl, HK.out⟩
                  case neg =>
                    have e3 : ((a.size : Int) == 3) = false := by rw [beq_eq_false_iff_ne]; omega
                    rw [decide_eq_false hy3] at HRD
                    clear hy3
                    go_wp2_with fail
                    go_meet
                    exact ⟨by rw [HRD.out]; rfl, HK.out⟩
              case rest =>
                clear hcy HK
                obtain ⟨rfl, HK⟩ := hcut
                clear HRD HALy HADy
                cases hreg : isRegion a.data.toList
                case false =>
                  have HNR := Lib.hid hreg; clear hreg
                  have HTT : Hid (tagR s.data.toList = tag0 ∧ tagE s.data.toList = 14) := HBad.out (by rw [HP2.out, HSC.out]; simp only [reg, HNR.out, Bool.false_eq_true, if_false]; rfl)
                  go_wp2_with ((with_reducible refine gate_st 28 _ _ rfl ?_); refine st_T rfl _ _ rfl w.heap.size tag0 tag0 rfl rfl _ rfl rfl HK.out.r ?_)
                  refine bodyPost_ret (res_rowc_tmp (P := Tryz.prog) (T := 28) (T' := 28) (t := 3) rfl _ _ w.heap.size (bC tag0) (0, 0) rfl (PSt.bad HK.out).2 Tryz.underlying28 rfl (by rw [sizTag, bC_size]; rfl)) rfl ⟨?_, (PSt.bad HK.out).1⟩
                  rw [HTT.out.1, HTT.out.2]; rfl
                case true =>
                  have HYR := Lib.hid hreg; clear hreg
                  have hys : a.size ≤ 3 ∧ 2 ≤ a.size := by have h1 := isRegion_len HYR.out; rw [show a.data.toList.length = a.size by simp] at h1; omega
                  have HPR : Hid (parseT s.data.toList = if r.map (·.data.toList) = [] then some ⟨x.data.toList.map loB, [], a.data.toList.map upB⟩ else none) := by show parseT _ = _; rw [HP2.out, HSC.out]; simp only [reg, HYR.out, if_true]
                  obtain ⟨q9, hsl9, _⟩ := tail_next (b := w.heap.size + 1 + 1) (ps := ps) (o := 1) (m := r.length + 1) (by rw [HLE.out]; simp) (by rw [HLE.out]; simp)
                  simp only [Nat.add_sub_cancel] at hsl9
                  have hyl : (a.data.toList.map upB).length = a.size := by simp
                  have hcl0 : (ovl tag0 0 (x.data.toList.map loB)).length = 10 := HCL.out
                  have hcy := HK.out.pieceE (j := 1) (y := a) (by rw [HLE.out]; rfl)
                  go_wp2_with fail
                  go_loopw [122] (fun i wr => ∃ k : Nat, k ≤ a.size ∧ i = .int .i64 k ∧ Hid (PSt w ps (ovl (ovl tag0 0 (x.data.toList.map loB)) 7 ((a.data.toList.map upB).take k)) wr)) (fun i _ => a.size - (intOf i).toNat)
                  case atStart => exact ⟨0, Nat.zero_le _, rfl, by rw [List.take_zero, ovl_nil]; exact HK.out⟩
                  case round =>
                    obtain ⟨k, hk, rfl, HK⟩ := hrel
                    by_cases hlt : k < a.size
                    case pos =>
                      have hlt' : (k : Int) < a.size := by omega
                      have hk0 : (0 : Int) ≤ (k : Int) := by omega
                      have hk3 : (k : Int) < 3 := by omega
                      have hkl : 7 + k < (ovl (ovl tag0 0 (x.data.toList.map loB)) 7 ((a.data.toList.map upB).take k)).length := by rw [ovl_len (by rw [hcl0]; simp; omega), hcl0]; omega
                      obtain ⟨ob, hcc, hcf⟩ := HK.out.cell (7 + k) hkl
                      have hc1 := HK.out.pieceE (j := 1) (y := a) (by rw [HLE.out]; rfl)
                      have HUp := Lib.hid upper_any5
                      have HK2 : Hid (PSt w ps (ovl (ovl tag0 0 (x.data.toList.map loB)) 7 ((a.data.toList.map upB).take (k + 1))) (wr.setCell ⟨w.heap.size + 1, 7 + k, none⟩ (.int .u8 ((upB a[k]).toNat : Int)))) := by
                        have h1 := HK.out.set (7 + k) (upB a[k])
                        have h2 := ovl_snoc (c := ovl tag0 0 (x.data.toList.map loB)) (o := 7) (l := a.data.toList.map upB) (by rw [hcl0]; simp; omega) (k := k) (by simp; exact hlt)
                        rw [List.getElem_map, at_list a k hlt] at h2
                        show PSt _ _ _ _
                        rw [← h2]; exact h1
                      clear hkl
                      go_wp2_with (go_at_call 128; (refine (HUp.out _ _).mono ?_); rintro e w' ⟨rfl, rfl⟩)
                      go_roundw
                      case rel => exact ⟨k + 1, by omega, by go_num, HK2.out⟩
                      case measure => simp [intOf]; omega
                    case neg =>
                      obtain rfl : k = a.size := by omega
                      rw [List.take_of_length_le (by rw [hyl]; exact Nat.le_refl _)] at HK
                      cases r with
                      | nil =>
                        simp only [List.length_nil, Nat.zero_add] at hsl9 ⊢
                        have HOV : Hid (ovl (ovl (ovl tag0 0 (x.data.toList.map loB)) 3 []) 7 (a.data.toList.map upB) = bytT ⟨x.data.toList.map loB, [], (a.data.toList.map upB)⟩) := ovl_bytT (by simp; omega) (show ([] : List UInt8).length ≤ 4 from Nat.zero_le 4) (show (a.data.toList.map upB).length ≤ 3 by rw [hyl]; exact hys.1)
                        have HBL : Hid ((bytT ⟨x.data.toList.map loB, [], (a.data.toList.map upB)⟩).length = 10) := by show (bytT _).length = 10; rw [← HOV.out, ovl_len (by rw [ovl_len (by rw [ovl_len (by simp [tag0_len]; omega), tag0_len]; have := (show ([] : List UInt8).length ≤ 4 from Nat.zero_le 4); omega), ovl_len (by simp [tag0_len]; omega), tag0_len]; have := (show (a.data.toList.map upB).length ≤ 3 by rw [hyl]; exact hys.1); omega), ovl_len (by rw [ovl_len (by simp [tag0_len]; omega), tag0_len]; have := (show ([] : List UInt8).length ≤ 4 from Nat.zero_le 4); omega), ovl_len (by simp [tag0_len]; omega), tag0_len]
                        rw [ovl_nil _ 3] at HOV
                        have HTT : Hid (parseT s.data.toList = some ⟨x.data.toList.map loB, [], (a.data.toList.map upB)⟩) := by show parseT _ = _; rw [HPR.out]; rfl
                        have HTR : Hid (tagR s.data.toList = ovl (ovl tag0 0 (x.data.toList.map loB)) 7 (a.data.toList.map upB) ∧ tagE s.data.toList = 0) := by
                          refine ⟨?_, ?_⟩
                          · rw [tagR, HTT.out]; exact HOV.out.symm
                          · rw [tagE, HTT.out]; rfl
                        have hcl : (ovl (ovl tag0 0 (x.data.toList.map loB)) 7 (a.data.toList.map upB)).length = 10 := by rw [HOV.out]; exact HBL.out
                        generalize ovl (ovl tag0 0 (x.data.toList.map loB)) 7 (a.data.toList.map upB) = cz at *
                        go_wp2_with (first
                          | (with_reducible refine ld_T rfl _ rfl (w.heap.size + 1) cz hcl rfl HK.out.t ?_)
                          | ((with_reducible refine gate_st 28 _ _ rfl ?_); refine st_T rfl _ _ rfl w.heap.size cz tag0 hcl rfl _ rfl rfl HK.out.r ?_))
                        refine bodyPost_ret (res_rowc_tmp (P := Tryz.prog) (T := 28) (T' := 28) (t := 3) rfl _ _ w.heap.size (bC cz) (0, 0) rfl (setRow_at HK.out.r) Tryz.underlying28 rfl (by rw [sizTag, bC_size, hcl])) rfl ⟨?_, setRow_below HK.out.bel (Nat.le_refl _) _⟩
                        rw [HTR.out.1, HTR.out.2]; rfl
                      | cons z t =>
                        have hn5 : (0 : Int) < ((t.length + 1 : Nat) : Int) := by omega
                        have hn6 : (0 : Int) < (t.length : Int) + 1 := by omega
                        simp only [List.length_cons] at hsl9 ⊢
                        have HTT : Hid (tagR s.data.toList = tag0 ∧ tagE s.data.toList = 14) := HBad.out (by rw [HPR.out]; rfl)
                        go_wp2_with ((with_reducible refine gate_st 28 _ _ rfl ?_); refine st_T rfl _ _ rfl w.heap.size tag0 tag0 rfl rfl _ rfl rfl HK.out.r ?_)
                        refine bodyPost_ret (res_rowc_tmp (P := Tryz.prog) (T := 28) (T' := 28) (t := 3) rfl _ _ w.heap.size (bC tag0) (0, 0) rfl (PSt.bad HK.out).2 Tryz.underlying28 rfl (by rw [sizTag, bC_size]; rfl)) rfl ⟨?_, (PSt.bad HK.out).1⟩
                        rw [HTT.out.1, HTT.out.2]; rfl
            case true =>
              have HYS := Lib.hid hscr; clear hscr
              have HSC : Hid (scr ((a :: r).map (·.data.toList)) = (titleL a.data.toList, r.map (·.data.toList))) := by show scr _ = _; simp only [List.map_cons, scr, HYS.out, if_true]
              have has4 : a.size = 4 := by have h1 := isScript_len HYS.out; simpa using h1
              have has4' : (a.size : Int) = 4 := by omega
              have htl : (titleL a.data.toList).length ≤ 4 := by rw [titleL_len]; simp; omega
              have H4 := Lib.hid has4
              have H4' := Lib.hid has4'
              clear has4 has4'
              have hcl0 : (ovl tag0 0 (x.data.toList.map loB)).length = 10 := HCL1.out
              have hal2 : (a.data.toList.map loB).length = 4 := by have := H4.out; simpa using this
              have hca := HK.out.pieceE (j := 1) (y := a) (by rw [HLE.out]; rfl)
              obtain ⟨q2, hsl2, hq2⟩ := tail_next (b := w.heap.size + 1 + 1) (ps := ps) (o := 1) (m := r.length + 1) (by rw [HLE.out]; simp) (by rw [HLE.out]; simp)
              simp only [Nat.add_sub_cancel] at hsl2
              have hq2' : r ≠ [] → q2 = some ⟨w.heap.size + 1 + 1, 2, none⟩ := fun h => hq2 (by rw [HLE.out]; cases r with | nil => exact absurd rfl h | cons a r => simp)
              clear hq2
              go_wp2_with fail
              go_loopw [68] (fun i wr => ∃ k : Nat, k ≤ 4 ∧ i = .int .i64 k ∧ Hid (PSt w ps (ovl (ovl tag0 0 (x.data.toList.map loB)) 3 ((a.data.toList.map loB).take k)) wr)) (fun i _ => 4 - (intOf i).toNat)
              case atStart => exact ⟨0, Nat.zero_le _, rfl, by rw [List.take_zero, ovl_nil]; exact HK.out⟩
              case round =>
                obtain ⟨k, hk, rfl, HK⟩ := hrel
                by_cases hlt4 : k < 4
                case pos =>
                  have hlt : k < a.size := by have := H4.out; omega
                  have hk4 : (k : Int) < 4 := by omega
                  have ha4 : a.size ≤ 4 := by have := H4.out; omega
                  have hlt' : (k : Int) < a.size := by omega
                  have hk0 : (0 : Int) ≤ (k : Int) := by omega
                  have hk3 : (k : Int) < 4 := by omega
                  have hkl : 3 + k < (ovl (ovl tag0 0 (x.data.toList.map loB)) 3 ((a.data.toList.map loB).take k)).length := by rw [ovl_len (by rw [hcl0]; simp; omega), hcl0]; omega
                  obtain ⟨ob, hcc, hcf⟩ := HK.out.cell (3 + k) hkl
                  have hc1 := HK.out.pieceE (j := 1) (y := a) (by rw [HLE.out]; rfl)
                  have HLo := Lib.hid lower_any5
                  have HK2 : Hid (PSt w ps (ovl (ovl tag0 0 (x.data.toList.map loB)) 3 ((a.data.toList.map loB).take (k + 1))) (wr.setCell ⟨w.heap.size + 1, 3 + k, none⟩ (.int .u8 ((loB a[k]).toNat : Int)))) := by
                    have h1 := HK.out.set (3 + k) (loB a[k])
                    have h2 := ovl_snoc (c := ovl tag0 0 (x.data.toList.map loB)) (o := 3) (l := a.data.toList.map loB) (by rw [hcl0]; simp; omega) (k := k) (by simp; exact hlt)
                    rw [List.getElem_map, at_list a k hlt] at h2
                    show PSt _ _ _ _
                    rw [← h2]; exact h1
                  clear hkl
                  go_wp2_with (go_at_call 127; (refine (HLo.out _ _).mono ?_); rintro e w' ⟨rfl, rfl⟩)
                  go_roundw
                  case rel => exact ⟨k + 1, by omega, by go_num, HK2.out⟩
                  case measure => simp [intOf]; omega
                case neg =>
                  obtain rfl : k = 4 := by omega
                  rw [List.take_of_length_le (by rw [hal2]; exact Nat.le_refl _)] at HK
                  have hane : a.data.toList ≠ [] := fun e => by rw [e] at hal2; simp at hal2
                  obtain ⟨c0, hc0⟩ : ∃ c0 : UInt8, a.data.toList.headD 0 = c0 := ⟨_, rfl⟩
                  have HC0 := Lib.hid hc0; clear hc0
                  obtain ⟨hcc, hcf⟩ := HK.out.cellE (j := 3) (b := loB c0) (ovl_at (by rw [hcl0]; omega) (by rw [← HC0.out]; cases hd : a.data.toList with | nil => exact absurd hd hane | cons b l => rfl))
                  have HUp := Lib.hid upper_any5
                  have hla4 : a.data.toList.length = 4 := by rw [List.length_map] at hal2; exact hal2
                  have HK2 : Hid (PSt w ps (ovl (ovl tag0 0 (x.data.toList.map loB)) 3 (titleL a.data.toList)) (wr.setCell ⟨w.heap.size + 1, 3, none⟩ (.int .u8 ((upB (loB c0)).toNat : Int)))) := by
                    have h1 := HK.out.set 3 (upB (loB c0))
                    have h3 := ovl_title (c := ovl tag0 0 (x.data.toList.map loB)) (by rw [hcl0, hla4]; omega) hane
                    rw [HC0.out] at h3
                    rw [h3] at h1
                    exact h1
                  have HCL : Hid ((ovl (ovl tag0 0 (x.data.toList.map loB)) 3 (titleL a.data.toList)).length = 10) := by show (ovl _ _ _).length = 10; rw [ovl_len (by rw [hcl0]; omega), hcl0]
                  clear hcl0 hal2 hane hla4
                  go_upto_region 21 with (go_at_call 128; (refine (HUp.out _ _).mono ?_); rintro e w' ⟨rfl, rfl⟩)
                  have HK := HK2
                  generalize wr.setCell ⟨w.heap.size + 1, 3, none⟩ (.int .u8 ((upB (loB c0)).toNat : Int)) = wr' at *
                  clear HK2 hcc hcf hca
                  go_upto_region 22 with fail
                  cases r with
                  | nil =>
                    have HTT : Hid (parseT s.data.toList = some ⟨x.data.toList.map loB, titleL a.data.toList, []⟩) := by show parseT _ = _; rw [HP2.out, HSC.out]; rfl
                    clear hq2'
                    have HOV : Hid (ovl (ovl (ovl tag0 0 (x.data.toList.map loB)) 3 (titleL a.data.toList)) 7 [] = bytT ⟨x.data.toList.map loB, (titleL a.data.toList), []⟩) := ovl_bytT (by simp; omega) htl (show ([] : List UInt8).length ≤ 3 from Nat.zero_le 3)
                    have HBL : Hid ((bytT ⟨x.data.toList.map loB, (titleL a.data.toList), []⟩).length = 10) := by show (bytT _).length = 10; rw [← HOV.out, ovl_len (by rw [ovl_len (by rw [ovl_len (by simp [tag0_len]; omega), tag0_len]; have := htl; omega), ovl_len (by simp [tag0_len]; omega), tag0_len]; have := (show ([] : List UInt8).length ≤ 3 from Nat.zero_le 3); omega), ovl_len (by rw [ovl_len (by simp [tag0_len]; omega), tag0_len]; have := htl; omega), ovl_len (by simp [tag0_len]; omega), tag0_len]
                    rw [ovl_nil _ 7] at HOV
                    have HTR : Hid (tagR s.data.toList = ovl (ovl tag0 0 (x.data.toList.map loB)) 3 (titleL a.data.toList) ∧ tagE s.data.toList = 0) := by
                      refine ⟨?_, ?_⟩
                      · rw [tagR, HTT.out]; exact HOV.out.symm
                      · rw [tagE, HTT.out]; rfl
                    have hcl : (ovl (ovl tag0 0 (x.data.toList.map loB)) 3 (titleL a.data.toList)).length = 10 := by rw [HOV.out]; exact HBL.out
                    generalize ovl (ovl tag0 0 (x.data.toList.map loB)) 3 (titleL a.data.toList) = cz at *
                    go_wp2_with (first
                      | (with_reducible refine ld_T rfl _ rfl (w.heap.size + 1) cz hcl rfl HK.out.t ?_)
                      | ((with_reducible refine gate_st 28 _ _ rfl ?_); refine st_T rfl _ _ rfl w.heap.size cz tag0 hcl rfl _ rfl rfl HK.out.r ?_))
                    refine bodyPost_ret (res_rowc_tmp (P := Tryz.prog) (T := 28) (T' := 28) (t := 3) rfl _ _ w.heap.size (bC cz) (0, 0) rfl (setRow_at HK.out.r) Tryz.underlying28 rfl (by rw [sizTag, bC_size, hcl])) rfl ⟨?_, setRow_below HK.out.bel (Nat.le_refl _) _⟩
                    rw [HTR.out.1, HTR.out.2]; rfl
                  | cons y t =>
                    obtain rfl := hq2' (by simp)
                    clear hq2'
                    have hy1 : y.size ≤ 1000000 := HRS.out y (by simp)
                    simp only [List.length_cons] at hsl2 ⊢
                    have hcy := HK.out.pieceE (j := 2) (y := y) (by rw [HLE.out]; rfl)
                    have HALy : Hid (∀ W : World, Calls Tryz.prog 125 #[.string y, .func (.func 126) #[] #[]] W fun e w' => e = .returned (.bool (y.data.toList.all ltB)) ∧ W = w') := fun W => all_any5 _ _ y W (by unfold maxLen; omega) (.inl ⟨rfl, rfl⟩)
                    have HADy : Hid (∀ W : World, Calls Tryz.prog 125 #[.string y, .func (.func 129) #[] #[]] W fun e w' => e = .returned (.bool (y.data.toList.all dgB)) ∧ W = w') := fun W => all_any5 _ _ y W (by unfold maxLen; omega) (.inr ⟨rfl, rfl⟩)
                    have hly : y.data.toList.length = y.size := by simp
                    have HRD : Hid (isRegion y.data.toList = ((decide (y.size = 2) && y.data.toList.all ltB) || (decide (y.size = 3) && y.data.toList.all dgB))) := by show isRegion _ = _; rw [isRegion, hly]
                    have hn1 : (0 : Int) < (t.length : Int) + 1 := by omega
                    have hn2 : (0 : Int) < ((t.length + 1 : Nat) : Int) := by omega
                    clear hly
                    go_upto_region 22 with fail
                    go_cut [117] (fun t wx => t = .bool (isRegion y.data.toList) ∧ Hid (PSt w ps (ovl (ovl tag0 0 (x.data.toList.map loB)) 3 (titleL a.data.toList)) wx))
                    case first =>
                      by_cases hy2 : y.size = 2
                      case pos =>
                        have e2 : ((y.size : Int) == 2) = true := by rw [hy2]; rfl
                        have e3 : ((y.size : Int) == 3) = false := by rw [hy2]; rfl
                        rw [hy2] at HRD
                        clear hy2
                        generalize y.data.toList.all dgB = bd at *
                        cases hal : y.data.toList.all ltB
                        all_goals
                          rw [hal] at HALy HRD; clear hal
                          go_wp2_with (go_at_call 125; (refine (HALy.out _).mono ?_); rintro e w' ⟨rfl, rfl⟩)
                          go_meet
                          exact ⟨by rw [HRD.out]; rfl, HK.out⟩
                      case neg =>
                        have e2 : ((y.size : Int) == 2) = false := by rw [beq_eq_false_iff_ne]; omega
                        rw [decide_eq_false hy2] at HRD
                        clear hy2
                        by_cases hy3 : y.size = 3
                        case pos =>
                          have e3 : ((y.size : Int) == 3) = true := by rw [hy3]; rfl
                          rw [hy3] at HRD
                          clear hy3
                          generalize y.data.toList.all ltB = bl at *
                          cases had : y.data.toList.all dgB
                          all_goals
                            rw [had] at HADy HRD; clear had
                            go_wp2_with (go_at_call 125; (refine (HADy.out _).mono ?_); rintro e w' ⟨rfl, rfl⟩)
                            go_meet
                            exact ⟨by rw [HRD.out]; rfl, HK.out⟩
                        case neg =>
                          have e3 : ((y.size : Int) == 3) = false := by rw [beq_eq_false_iff_ne]; omega
                          rw [decide_eq_false hy3] at HRD
                          clear hy3
                          go_wp2_with fail
                          go_meet
                          exact ⟨by rw [HRD.out]; rfl, HK.out⟩
                    case rest =>
                      clear hcy HK
                      obtain ⟨rfl, HK⟩ := hcut
                      clear HRD HALy HADy
                      cases hreg : isRegion y.data.toList
                      case false =>
                        have HNR := Lib.hid hreg; clear hreg
                        have HTT : Hid (tagR s.data.toList = tag0 ∧ tagE s.data.toList = 14) := HBad.out (by rw [HP2.out, HSC.out]; simp only [List.map_cons, reg, HNR.out, Bool.false_eq_true, if_false]; rfl)
                        go_wp2_with ((with_reducible refine gate_st 28 _ _ rfl ?_); refine st_T rfl _ _ rfl w.heap.size tag0 tag0 rfl rfl _ rfl rfl HK.out.r ?_)
                        refine bodyPost_ret (res_rowc_tmp (P := Tryz.prog) (T := 28) (T' := 28) (t := 3) rfl _ _ w.heap.size (bC tag0) (0, 0) rfl (PSt.bad HK.out).2 Tryz.underlying28 rfl (by rw [sizTag, bC_size]; rfl)) rfl ⟨?_, (PSt.bad HK.out).1⟩
                        rw [HTT.out.1, HTT.out.2]; rfl
                      case true =>
                        have HYR := Lib.hid hreg; clear hreg
                        have hys : y.size ≤ 3 ∧ 2 ≤ y.size := by have h1 := isRegion_len HYR.out; rw [show y.data.toList.length = y.size by simp] at h1; omega
                        have HPR : Hid (parseT s.data.toList = if t.map (·.data.toList) = [] then some ⟨x.data.toList.map loB, (titleL a.data.toList), y.data.toList.map upB⟩ else none) := by show parseT _ = _; rw [HP2.out, HSC.out]; simp only [List.map_cons, reg, HYR.out, if_true]
                        obtain ⟨q9, hsl9, _⟩ := tail_next (b := w.heap.size + 1 + 1) (ps := ps) (o := 2) (m := t.length + 1) (by rw [HLE.out]; simp) (by rw [HLE.out]; simp)
                        simp only [Nat.add_sub_cancel] at hsl9
                        have hyl : (y.data.toList.map upB).length = y.size := by simp
                        have hcl0 : (ovl (ovl tag0 0 (x.data.toList.map loB)) 3 (titleL a.data.toList)).length = 10 := HCL.out
                        have hcy := HK.out.pieceE (j := 2) (y := y) (by rw [HLE.out]; rfl)
                        go_wp2_with fail
                        go_loopw [122] (fun i wr => ∃ k : Nat, k ≤ y.size ∧ i = .int .i64 k ∧ Hid (PSt w ps (ovl (ovl (ovl tag0 0 (x.data.toList.map loB)) 3 (titleL a.data.toList)) 7 ((y.data.toList.map upB).take k)) wr)) (fun i _ => y.size - (intOf i).toNat)
                        case atStart => exact ⟨0, Nat.zero_le _, rfl, by rw [List.take_zero, ovl_nil]; exact HK.out⟩
                        case round =>
                          obtain ⟨k, hk, rfl, HK⟩ := hrel
                          by_cases hlt : k < y.size
                          case pos =>
                            have hlt' : (k : Int) < y.size := by omega
                            have hk0 : (0 : Int) ≤ (k : Int) := by omega
                            have hk3 : (k : Int) < 3 := by omega
                            have hkl : 7 + k < (ovl (ovl (ovl tag0 0 (x.data.toList.map loB)) 3 (titleL a.data.toList)) 7 ((y.data.toList.map upB).take k)).length := by rw [ovl_len (by rw [hcl0]; simp; omega), hcl0]; omega
                            obtain ⟨ob, hcc, hcf⟩ := HK.out.cell (7 + k) hkl
                            have hc1 := HK.out.pieceE (j := 2) (y := y) (by rw [HLE.out]; rfl)
                            have HUp := Lib.hid upper_any5
                            have HK2 : Hid (PSt w ps (ovl (ovl (ovl tag0 0 (x.data.toList.map loB)) 3 (titleL a.data.toList)) 7 ((y.data.toList.map upB).take (k + 1))) (wr.setCell ⟨w.heap.size + 1, 7 + k, none⟩ (.int .u8 ((upB y[k]).toNat : Int)))) := by
                              have h1 := HK.out.set (7 + k) (upB y[k])
                              have h2 := ovl_snoc (c := ovl (ovl tag0 0 (x.data.toList.map loB)) 3 (titleL a.data.toList)) (o := 7) (l := y.data.toList.map upB) (by rw [hcl0]; simp; omega) (k := k) (by simp; exact hlt)
                              rw [List.getElem_map, at_list y k hlt] at h2
                              show PSt _ _ _ _
                              rw [← h2]; exact h1
                            clear hkl
                            go_wp2_with (go_at_call 128; (refine (HUp.out _ _).mono ?_); rintro e w' ⟨rfl, rfl⟩)
                            go_roundw
                            case rel => exact ⟨k + 1, by omega, by go_num, HK2.out⟩
                            case measure => simp [intOf]; omega
                          case neg =>
                            obtain rfl : k = y.size := by omega
                            rw [List.take_of_length_le (by rw [hyl]; exact Nat.le_refl _)] at HK
                            cases t with
                            | nil =>
                              simp only [List.length_nil, Nat.zero_add] at hsl9 ⊢
                              have HOV : Hid (ovl (ovl (ovl tag0 0 (x.data.toList.map loB)) 3 (titleL a.data.toList)) 7 (y.data.toList.map upB) = bytT ⟨x.data.toList.map loB, (titleL a.data.toList), (y.data.toList.map upB)⟩) := ovl_bytT (by simp; omega) htl (show (y.data.toList.map upB).length ≤ 3 by rw [hyl]; exact hys.1)
                              have HBL : Hid ((bytT ⟨x.data.toList.map loB, (titleL a.data.toList), (y.data.toList.map upB)⟩).length = 10) := by show (bytT _).length = 10; rw [← HOV.out, ovl_len (by rw [ovl_len (by rw [ovl_len (by simp [tag0_len]; omega), tag0_len]; have := htl; omega), ovl_len (by simp [tag0_len]; omega), tag0_len]; have := (show (y.data.toList.map upB).length ≤ 3 by rw [hyl]; exact hys.1); omega), ovl_len (by rw [ovl_len (by simp [tag0_len]; omega), tag0_len]; have := htl; omega), ovl_len (by simp [tag0_len]; omega), tag0_len]
                              have HTT : Hid (parseT s.data.toList = some ⟨x.data.toList.map loB, (titleL a.data.toList), (y.data.toList.map upB)⟩) := by show parseT _ = _; rw [HPR.out]; rfl
                              have HTR : Hid (tagR s.data.toList = ovl (ovl (ovl tag0 0 (x.data.toList.map loB)) 3 (titleL a.data.toList)) 7 (y.data.toList.map upB) ∧ tagE s.data.toList = 0) := by
                                refine ⟨?_, ?_⟩
                                · rw [tagR, HTT.out]; exact HOV.out.symm
                                · rw [tagE, HTT.out]; rfl
                              have hcl : (ovl (ovl (ovl tag0 0 (x.data.toList.map loB)) 3 (titleL a.data.toList)) 7 (y.data.toList.map upB)).length = 10 := by rw [HOV.out]; exact HBL.out
                              generalize ovl (ovl (ovl tag0 0 (x.data.toList.map loB)) 3 (titleL a.data.toList)) 7 (y.data.toList.map upB) = cz at *
                              go_wp2_with (first
                                | (with_reducible refine ld_T rfl _ rfl (w.heap.size + 1) cz hcl rfl HK.out.t ?_)
                                | ((with_reducible refine gate_st 28 _ _ rfl ?_); refine st_T rfl _ _ rfl w.heap.size cz tag0 hcl rfl _ rfl rfl HK.out.r ?_))
                              refine bodyPost_ret (res_rowc_tmp (P := Tryz.prog) (T := 28) (T' := 28) (t := 3) rfl _ _ w.heap.size (bC cz) (0, 0) rfl (setRow_at HK.out.r) Tryz.underlying28 rfl (by rw [sizTag, bC_size, hcl])) rfl ⟨?_, setRow_below HK.out.bel (Nat.le_refl _) _⟩
                              rw [HTR.out.1, HTR.out.2]; rfl
                            | cons z t =>
                              have hn5 : (0 : Int) < ((t.length + 1 : Nat) : Int) := by omega
                              have hn6 : (0 : Int) < (t.length : Int) + 1 := by omega
                              simp only [List.length_cons] at hsl9 ⊢
                              have HTT : Hid (tagR s.data.toList = tag0 ∧ tagE s.data.toList = 14) := HBad.out (by rw [HPR.out]; rfl)
                              go_wp2_with ((with_reducible refine gate_st 28 _ _ rfl ?_); refine st_T rfl _ _ rfl w.heap.size tag0 tag0 rfl rfl _ rfl rfl HK.out.r ?_)
                              refine bodyPost_ret (res_rowc_tmp (P := Tryz.prog) (T := 28) (T' := 28) (t := 3) rfl _ _ w.heap.size (bC tag0) (0, 0) rfl (PSt.bad HK.out).2 Tryz.underlying28 rfl (by rw [sizTag, bC_size]; rfl)) rfl ⟨?_, (PSt.bad HK.out).1⟩
                              rw [HTT.out.1, HTT.out.2]; rfl
end Go.Proofs.YtbfefdedjcppaaaGreatDoor

/- Tags compared; part. -/
namespace Go.Proofs.YtbfefdedjcppaaaGreatDoor
set_option maxRecDepth 100000
open Go.RowKit
theorem list10 (l : List UInt8) (h : l.length = 10) : ∃ a b c d e f g i j k, l = [a, b, c, d, e, f, g, i, j, k] := by
 match l, h with
 | [a, b, c, d, e, f, g, i, j, k], _ => exact ⟨a, b, c, d, e, f, g, i, j, k, rfl⟩
theorem run_eqIn (w : World) (t : TypeId) (n d : Nat) (ht : Tryz.prog.underlying t = some (.array n 5)) (xs ys : List UInt8) (hx : xs.length = n) (hy : ys.length = n) : (Op.equalIn (d + 2) t (.agg (bC xs)) (.agg (bC ys))).run Tryz.prog w = .ok (xs == ys) w :=
 run_equalIn_bytes w d t 5 n ht Tryz.underlying5 (fun _ => by kernel_rfl) xs ys hx hy
theorem eqIn10 (w : World) (xs ys : List UInt8) (hx : xs.length = 10) (hy : ys.length = 10) : (Op.equalIn 10000 28 (.agg (bC xs)) (.agg (bC ys))).run Tryz.prog w = .ok (xs == ys) w := by
 obtain ⟨a, b, c, d, e, f, g, i, j, k, rfl⟩ := list10 xs hx
 obtain ⟨a', b', c', d', e', f', g', i', j', k', rfl⟩ := list10 ys hy
 rw [show (10000 : Nat) = 9999 + 1 from rfl, run_equalIn_struct w 9999 28 _ _ (by kernel_rfl) (by kernel_rfl)]
 have p0 : ∀ (a b c d e f g i j k : UInt8) (w : World), (part 25 (bC [a, b, c, d, e, f, g, i, j, k]) 0).run Tryz.prog w = .ok (.agg (bC [a, b, c])) w := fun _ _ _ _ _ _ _ _ _ _ _ => by kernel_rfl
 have p1 : ∀ (a b c d e f g i j k : UInt8) (w : World), (part 26 (bC [a, b, c, d, e, f, g, i, j, k]) 3).run Tryz.prog w = .ok (.agg (bC [d, e, f, g])) w := fun _ _ _ _ _ _ _ _ _ _ _ => by kernel_rfl
 have p2 : ∀ (a b c d e f g i j k : UInt8) (w : World), (part 25 (bC [a, b, c, d, e, f, g, i, j, k]) 7).run Tryz.prog w = .ok (.agg (bC [i, j, k])) w := fun _ _ _ _ _ _ _ _ _ _ _ => by kernel_rfl
 have q0 := run_eqIn w 25 3 9997 Tryz.underlying25 [a, b, c] [a', b', c'] rfl rfl
 have q1 := run_eqIn w 26 4 9997 Tryz.underlying26 [d, e, f, g] [d', e', f', g'] rfl rfl
 have q2 := run_eqIn w 25 3 9997 Tryz.underlying25 [i, j, k] [i', j', k'] rfl rfl
 have hb : ([a, b, c, d, e, f, g, i, j, k] == [a', b', c', d', e', f', g', i', j', k']) = (([a, b, c] == [a', b', c']) && (([d, e, f, g] == [d', e', f', g']) && ([i, j, k] == [i', j', k']))) := by
   rw [Bool.eq_iff_iff]; simp; constructor
   · rintro ⟨h1, h2, h3, h4, h5, h6, h7, h8, h9, h10⟩; exact ⟨⟨h1, h2, h3⟩, ⟨h4, h5, h6, h7⟩, h8, h9, h10⟩
   · rintro ⟨⟨h1, h2, h3⟩, ⟨h4, h5, h6, h7⟩, h8, h9, h10⟩; exact ⟨h1, h2, h3, h4, h5, h6, h7, h8, h9, h10⟩
 rw [hb]
 generalize ([a, b, c] == [a', b', c']) = r0 at *
 generalize ([d, e, f, g] == [d', e', f', g']) = r1 at *
 generalize ([i, j, k] == [i', j', k']) = r2 at *
 simp only [Program.fieldsOf, Tryz.underlying28, Op.eqFields]
 simp [p0, p1, p2, q0, q1, q2]
 cases r0 <;> cases r1 <;> cases r2 <;> simp
theorem eql10 (w : World) (xs ys : List UInt8) (hx : xs.length = 10) (hy : ys.length = 10) : (binOp .eql 28 (.agg (bC xs)) (.agg (bC ys))).run Tryz.prog w = .ok (.bool (xs == ys)) w := by
 rw [run_eql_struct, eqIn10 w xs ys hx hy]; rfl
theorem conv_any (w : World) (b o n cap : Nat) (l : List UInt8) (hl : l.length = n) (h : w.rangeAt b o (bC l).toList) :
   (convert 22 9 (.slice (some ⟨b, o, none⟩) n cap)).run Tryz.prog w = .ok (.string ⟨l.toArray⟩) w := by
 have hb : ∀ i (hi : i < l.length), w.cell? ⟨b, o + i, none⟩ = some (.int .u8 (l[i].toNat : Int)) := fun i hi => h i _ (by simp [bC, hi])
 have := run_convert_bytes_arg (P := Tryz.prog) w 22 5 Tryz.underlying22 Tryz.underlying5 b o n cap (l.map fun x => (x.toNat : Int)) (by simp; omega) (fun i hi => by
   rw [hb i (by omega)]
   simp [hl ▸ hi]) 9 Tryz.underlying9
 rw [this]
 refine congrArg (fun s => Result.ok (Value.string s) w) (ByteArray.ext (Array.toList_inj.1 ?_))
 rw [strOfNums_data, List.map_map]
 show _ = l
 conv => rhs; rw [← List.map_id l]
 apply List.map_congr_left
 intro x _
 simp
theorem part_any (b o n cap : Nat) (l : List UInt8) (w : World) (hl : l.length = n) (hn : n ≤ 1000000) (h : w.rangeAt b o (bC l).toList) :
   Calls Tryz.prog 137 #[.slice (some ⟨b, o, none⟩) n cap] w fun e w' => e = .returned (.string ⟨(frontZ l).toArray⟩) ∧ w = w' := by
 have hcv := conv_any w b o n cap l hl h
 have HT : Hid (∀ W, Calls Tryz.prog 146 #[.string ⟨l.toArray⟩, .string ⟨#[0]⟩] W fun e w' => e = .returned (.string ⟨(frontZ l).toArray⟩) ∧ w' = W) := fun W => Tryz.strings_TrimRight_one ⟨l.toArray⟩ 0 (by decide) W (by show l.toArray.size ≤ _; simp; omega)
 clear h
 go_enter Tryz.func137, Tryz.ntmps137
 go_wp2_with (go_at_call 146; (refine (HT.out _).mono ?_); rintro e w' ⟨rfl, rfl⟩)
 go_ret
 exact ⟨rfl, rfl⟩
end Go.Proofs.YtbfefdedjcppaaaGreatDoor

/- plain, Right. -/
namespace Go.Proofs.YtbfefdedjcppaaaGreatDoor
set_option maxRecDepth 100000
set_option maxHeartbeats 2000000
open Go.RowKit
theorem ba_add (a b : List UInt8) : (⟨a.toArray⟩ : ByteArray) ++ ⟨b.toArray⟩ = ⟨(a ++ b).toArray⟩ := ByteArray.ext (by simp)
theorem ba_size (a : List UInt8) : (⟨a.toArray⟩ : ByteArray).size = a.length := List.size_toArray
theorem bC_take (b : List UInt8) (k : Nat) : (bC (b.take k)).toList = (bC b).toList.take k := by simp [bC]
theorem range_sub {w : World} {g o : Nat} {b : List UInt8} (h : w.rangeAt g o (bC b).toList) (s n : Nat) : w.rangeAt g (o + s) (bC ((b.drop s).take n)).toList := fun j v hv => by
 have hj : j < ((b.drop s).take n).length := by have := (List.getElem?_eq_some_iff.1 hv).1; simpa [bC] using this
 rw [Nat.add_assoc]
 refine h (s + j) v ?_
 rw [← hv]
 simp only [bC, List.getElem?_map]
 congr 1
 rw [List.length_take, List.length_drop] at hj
 rw [List.getElem?_take_of_lt (by omega), List.getElem?_drop]
theorem catS5 (a b : List UInt8) (h : a.length + b.length ≤ 1000000) (w : World) : (binOp .add 9 (.string ⟨a.toArray⟩) (.string ⟨b.toArray⟩)).run Tryz.prog w = .ok (.string ⟨(a ++ b).toArray⟩) w := by
 have := run_string_add_sum (P := Tryz.prog) (w := w) ⟨a.toArray⟩ ⟨b.toArray⟩ (by rw [ba_size, ba_size]; omega)
 rw [ba_add] at this
 simp [binOp, this]
theorem emp5 (l : List UInt8) : (⟨l.toArray⟩ : ByteArray).toList.isEmpty = l.isEmpty := by rw [ByteArray.toList_eq]
theorem neqE5 (l : List UInt8) (W : World) : (binOp .neq 9 (.string ⟨l.toArray⟩) (.string ⟨#[]⟩)).run Tryz.prog W = .ok (.bool (!l.isEmpty)) W := by
 have := emp5 l
 go_simp
def accL (L S R : List UInt8) (k : Nat) : List UInt8 := L ++ (if 1 ≤ k then dash S else []) ++ (if 2 ≤ k then dash R else [])
theorem acc_next (L S R : List UInt8) (k : Nat) (hk : k < 2) : accL L S R (k + 1) = accL L S R k ++ dash (if k = 0 then S else R) := by
 rcases (show k = 0 ∨ k = 1 by omega) with rfl | rfl <;> simp [accL]
theorem plain_any (b : List UInt8) (w : World) (hb : b.length = 10) :
   Calls Tryz.prog 108 #[.agg (bC b)] w fun e w' => e = .returned (.string ⟨(plainL b).toArray⟩) ∧ Below w.heap.size w w' := by
 have HG0 : Hid ((w.alloc (.cells (bC b) 28)).heap[w.heap.size]? = some (.cells (bC b) 28 (0, 0))) := heap_alloc_new _ _
 have HB0 : Hid (Below w.heap.size w (w.alloc (.cells (bC b) 28))) := below_alloc1 _ _
 have he : ∀ W, (binOp .eql 28 (.agg (bC b)) (.agg #[.int .u8 0, .int .u8 0, .int .u8 0, .int .u8 0, .int .u8 0, .int .u8 0, .int .u8 0, .int .u8 0, .int .u8 0, .int .u8 0])).run Tryz.prog W = .ok (.bool (b == tag0)) W := fun W => eql10 W b tag0 hb rfl
 have H10 := Lib.hid hb
 clear hb
 by_cases h0 : b = tag0
 · have HP : Hid (plainL b = rootL) := by show plainL b = _; rw [plainL, if_pos h0]
   rw [beq_iff_eq.2 h0] at he
   clear h0
   go_enter Tryz.func108, Tryz.ntmps108
   go_wp2_with (with_reducible refine ld_T rfl _ rfl w.heap.size b H10.out rfl HG0.out ?_)
   go_ret
   exact ⟨by rw [HP.out]; rfl, HB0.out⟩
 · have HP : Hid (plainL b = frontZ (b.take 3) ++ dash (frontZ ((b.drop 3).take 4)) ++ dash (frontZ (b.drop 7))) := by show plainL b = _; rw [plainL, if_neg h0]; rfl
   rw [beq_eq_false_iff_ne.2 h0] at he
   clear h0
   have HR0 : Hid ((w.alloc (.cells (bC b) 28)).rangeAt w.heap.size 0 (bC b).toList) := range_whole (by simpa using HG0.out)
   have hlt : w.heap.size < (w.alloc (.cells (bC b) 28)).heap.size := by simp
   have H10' := H10.out
   have HPa : Hid (∀ (s n : Nat) (W : World), s + n ≤ 10 → Below (w.alloc (.cells (bC b) 28)).heap.size (w.alloc (.cells (bC b) 28)) W → Calls Tryz.prog 137 #[.slice (some ⟨w.heap.size, s, none⟩) n n] W fun e w' => e = .returned (.string ⟨(frontZ ((b.drop s).take n)).toArray⟩) ∧ W = w') := fun s n W hs hW => by
     have hr := range_sub (range_of_block HR0.out (hW.block _ hlt)) s n
     rw [Nat.zero_add] at hr
     exact part_any w.heap.size s n n _ W (by simp; omega) (by omega) hr
   clear H10'
   go_enter Tryz.func108, Tryz.ntmps108
   go_upto_region 4 with (first
     | (with_reducible refine ld_T rfl _ rfl w.heap.size b H10.out rfl HG0.out ?_)
     | (go_at_call 137; (refine (HPa.out 0 3 _ (by omega) (Below.refl _ _)).mono ?_); rintro e w' ⟨rfl, rfl⟩))
   have HPa1 := Lib.hid (HPa.out 3 4 (w.alloc (.cells (bC b) 28)).drew (by omega) (Below.refl _ _).drew)
   have HPa2 := Lib.hid (HPa.out 7 3 (w.alloc (.cells (bC b) 28)).drew (by omega) (Below.refl _ _).drew)
   go_region_held3 (fun w' => Below (w.alloc (.cells (bC b) 28)).heap.size (w.alloc (.cells (bC b) 28)) w') (first | exact (Below.refl _ _).drew | exact ((Below.refl _ _).alloc (Nat.le_refl _) _).drew) ((first
     | (go_at_call_of 137 (Value.slice (some ⟨w.heap.size, 3, none⟩) 4 4); (refine HPa1.out.mono ?_); rintro e w' ⟨rfl, rfl⟩)
     | (go_at_call_of 137 (Value.slice (some ⟨w.heap.size, 7, none⟩) 3 3); (refine HPa2.out.mono ?_); rintro e w' ⟨rfl, rfl⟩)))
   have e7 : (b.drop 7).take 3 = b.drop 7 := List.take_of_length_le (by rw [List.length_drop, H10.out]; omega)
   rw [e7]
   have HB2 : Hid (Below w.heap.size w ((w.alloc (.cells (bC b) 28)).alloc (.cells #[.string ⟨(frontZ ((b.drop 3).take 4)).toArray⟩, .string ⟨(frontZ (b.drop 7)).toArray⟩] 9)).drew) := (below_alloc2 _ _ _).drew
   have hc0 : ((w.alloc (.cells (bC b) 28)).alloc (.cells #[.string ⟨(frontZ ((b.drop 3).take 4)).toArray⟩, .string ⟨(frontZ (b.drop 7)).toArray⟩] 9)).drew.cell? ⟨w.heap.size + 1, 0, none⟩ = some (.string ⟨(frontZ ((b.drop 3).take 4)).toArray⟩) := by
     simp
   have hc1 : ((w.alloc (.cells (bC b) 28)).alloc (.cells #[.string ⟨(frontZ ((b.drop 3).take 4)).toArray⟩, .string ⟨(frontZ (b.drop 7)).toArray⟩] 9)).drew.cell? ⟨w.heap.size + 1, 1, none⟩ = some (.string ⟨(frontZ (b.drop 7)).toArray⟩) := by
     simp
   generalize ((w.alloc (.cells (bC b) 28)).alloc (.cells #[.string ⟨(frontZ ((b.drop 3).take 4)).toArray⟩, .string ⟨(frontZ (b.drop 7)).toArray⟩] 9)).drew = W2 at *
   have l1 : (frontZ (b.take 3)).length ≤ 10 := by have := frontZ_le (b.take 3); have := H10.out; simp at *; omega
   have l2 : (frontZ ((b.drop 3).take 4)).length ≤ 10 := by have := frontZ_le ((b.drop 3).take 4); have := H10.out; simp at *; omega
   have l3 : (frontZ (b.drop 7)).length ≤ 10 := by have := frontZ_le (b.drop 7); have := H10.out; simp at *; omega
   clear HPa1 HPa2 HPa HR0 hlt HG0 he e7
   generalize frontZ (b.take 3) = L at *
   generalize frontZ ((b.drop 3).take 4) = S at *
   generalize frontZ (b.drop 7) = R at *
   have HN := Lib.hid (acc_next L S R)
   have HAL : Hid (∀ k, (accL L S R k).length ≤ 32) := fun k => by
     unfold accL dash
     repeat' split
     all_goals simp
     all_goals omega
   go_wp2_with fail
   go_loop [3, 20] (fun t i => ∃ k : Nat, k ≤ 2 ∧ i = .int .i64 k ∧ t = .string ⟨(accL L S R k).toArray⟩) (fun _ i => 2 - (intOf i).toNat)
   case atStart => exact ⟨0, by omega, rfl, by simp [accL]⟩
   case round =>
     obtain ⟨k, hk, rfl, rfl⟩ := hrel
     by_cases hlt : k < 2
     · have hlt' : (k : Int) < 2 := by omega
       have hk0 : (0 : Int) ≤ (k : Int) := by omega
       obtain ⟨p, hp⟩ : ∃ p, (if k = 0 then S else R) = p := ⟨_, rfl⟩
       have hcp : W2.cell? ⟨w.heap.size + 1, k, none⟩ = some (.string ⟨p.toArray⟩) := by
         rcases (show k = 0 ∨ k = 1 by omega) with rfl | rfl
         · rw [← hp]; simpa using hc0
         · rw [← hp]; simpa using hc1
       have hpl : p.length ≤ 10 := by rw [← hp]; split <;> assumption
       have HNk := Lib.hid (HN.out k hlt)
       rw [hp] at HNk
       have hal := HAL.out k
       have hne := fun W => neqE5 p W
       have hem := emp5 p
       have hcat1 := fun W => catS5 [45] p (by simp; omega) W
       have hcat2 := fun W => catS5 (accL L S R k) (45 :: p) (by simp; omega) W
       clear hp hc0 hc1
       generalize accL L S R k = A at *
       cases p with
       | nil =>
         simp only [List.isEmpty_nil, Bool.not_true] at hne hem
         go_wp2_with fail
         go_round
         case rel => exact ⟨k + 1, by omega, by go_num, by rw [HNk.out, dash, if_pos rfl, List.append_nil]⟩
         case measure => simp [intOf]; omega
       | cons c p =>
         simp only [List.isEmpty_cons, Bool.not_false] at hne hem
         have hz1 : ¬ 9223372036854775807 < 1 + (p.length + 1) := by simp at hpl; omega
         have hz2 : ¬ 9223372036854775807 < A.length + (p.length + 1 + 1) := by simp at hpl; omega
         have hz3 : ¬ 9223372036854775807 < A.length + (1 + (p.length + 1)) := by simp at hpl; omega
         go_wp2_with fail
         go_round
         case rel => exact ⟨k + 1, by omega, by go_num, by rw [HNk.out, dash, if_neg (by simp)]; rfl⟩
         case measure => simp [intOf]; omega
     · obtain rfl : k = 2 := by omega
       go_wp2_with fail
       go_ret
       exact ⟨by rw [HP.out]; simp [accL], HB2.out⟩
theorem right_spec (b : List UInt8) : rightT b = (decide (tagE (plainL b) = 0) && (tagR (plainL b) == b)) := by
 unfold rightT tagE tagR
 cases parseT (plainL b) with
 | none => rfl
 | some t => rw [Bool.eq_iff_iff]; simp
theorem tagR_len (l : List UInt8) : (tagR l).length = 10 := by
 unfold tagR
 cases h : parseT l with
 | none => rfl
 | some t =>
   have ht := parseT_ok h
   simp only [bytT, List.length_append, padTo_len ht.l3, padTo_len ht.s4, padTo_len ht.r3]
theorem plainL_len (b : List UInt8) (hb : b.length = 10) : (plainL b).length ≤ 32 := by
 unfold plainL textT fT dash
 have h1 := frontZ_le (b.take 3)
 have h2 := frontZ_le ((b.drop 3).take 4)
 have h3 := frontZ_le (b.drop 7)
 simp only [List.length_take, List.length_drop] at h1 h2 h3
 split
 · decide
 · split <;> split <;> simp <;> omega
theorem tagE_cases (l : List UInt8) : tagE l = 0 ∨ tagE l = 14 := by unfold tagE; split <;> simp
theorem right_any5 (b : List UInt8) (w : World) (hb : b.length = 10) (hmx : MX w) :
   Calls Tryz.prog 57 #[.agg (bC b)] w fun e w' => e = .returned (.bool (rightT b)) ∧ Below w.heap.size w w' := by
 have HG0 : Hid ((w.alloc (.cells (bC b) 28)).heap[w.heap.size]? = some (.cells (bC b) 28 (0, 0))) := heap_alloc_new _ _
 have HB0 : Hid (Below w.heap.size w (w.alloc (.cells (bC b) 28))) := below_alloc1 _ _
 have HPl : Hid (∀ W, Calls Tryz.prog 108 #[.agg (bC b)] W fun e w' => e = .returned (.string ⟨(plainL b).toArray⟩) ∧ Below W.heap.size W w') := fun W => plain_any b W hb
 have HPa : Hid (∀ W, Below w.heap.size w W → Calls Tryz.prog 97 #[.string ⟨(plainL b).toArray⟩] W fun e w' => e = .returned (.tuple #[.agg (bC (tagR (plainL b))), .int .i64 (tagE (plainL b))]) ∧ Below W.heap.size W w') := fun W hW => by
   have := tagParse_any ⟨(plainL b).toArray⟩ W (by rw [ba_size]; have := plainL_len b hb; omega) (hmx.below hW)
   simpa using this
 have he : ∀ W, (binOp .eql 28 (.agg (bC (tagR (plainL b)))) (.agg (bC b))).run Tryz.prog W = .ok (.bool (tagR (plainL b) == b)) W := fun W => eql10 W _ b (tagR_len _) hb
 have HR := Lib.hid (right_spec b)
 have HL := Lib.hid (tagR_len (plainL b))
 have H10 := Lib.hid hb
 have hcs := tagE_cases (plainL b)
 clear hb hmx
 generalize tagR (plainL b) = tr at *
 generalize tagE (plainL b) = te at *
 generalize (⟨(plainL b).toArray⟩ : ByteArray) = pl at *
 have key : ∀ bb : Bool, rightT b = bb → (Calls Tryz.prog 57 #[.agg (bC b)] w fun e w' => e = .returned (.bool bb) ∧ Below w.heap.size w w') := by
   intro bb hbb
   rw [HR.out] at hbb
   have hte : te = 0 ∨ te = 14 := hcs
   clear hcs
   rcases hte with rfl | rfl
   all_goals
     cases hq : (tr == b)
     all_goals
       rw [hq] at he hbb
       have HQ := Lib.hid hbb
       clear hbb hq
       go_enter Tryz.func57, Tryz.ntmps57
       go_wp2_with (first
         | (with_reducible refine ld_T rfl _ rfl w.heap.size b H10.out rfl HG0.out ?_)
         | (go_at_call 108; (refine (HPl.out _).mono ?_); rintro e w1 ⟨rfl, hb1⟩; have HB1 := Lib.hid (HB0.out.trans (hb1.mono HB0.out.size)); have HG1 : Hid (w1.heap[w.heap.size]? = some (.cells (bC b) 28 (0, 0))) := (by (show _ = _; rw [hb1.block _ (lt_heap HG0.out)]; exact HG0.out)); clear hb1)
         | (go_at_call 97; (refine (HPa.out _ HB1.out).mono ?_); rintro e w2 ⟨rfl, hb2⟩; have HB2 := Lib.hid (HB1.out.trans (hb2.mono HB1.out.size)); have HG2 : Hid (w2.heap[w.heap.size]? = some (.cells (bC b) 28 (0, 0))) := (by (show _ = _; rw [hb2.block _ (lt_heap HG1.out)]; exact HG1.out)); clear hb2)
         | (with_reducible refine ld_T rfl _ rfl w2.heap.size tr HL.out rfl (heap_alloc_new _ _) ?_)
         | (with_reducible refine ld_T rfl _ rfl w.heap.size b H10.out rfl ((heap_alloc_old _ _ (lt_heap HG2.out)).trans HG2.out) ?_)
         | ((with_reducible refine gate_st 28 _ _ rfl ?_); refine wl_strn rfl 28 _ _ rfl (bC tr) _ _ (by rw [sizTag, bC_size, HL.out]) (by rw [bC_size, HL.out]; rfl) (bC_one tr) rfl rfl ?_))
       go_ret
       exact ⟨ret_bool (by rw [← HQ.out]; rfl), HB2.out.alloc HB2.out.size _⟩
 exact key _ rfl
end Go.Proofs.YtbfefdedjcppaaaGreatDoor

/- The document's tags: kind, turn, cut. -/
namespace Go.Proofs.YtbfefdedjcppaaaGreatDoor
set_option maxRecDepth 100000
set_option maxHeartbeats 4000000
open Go.RowKit
def kindL (l : List UInt8) : Int := if l.all ltB then 1 else if l.all dgB then 2 else 0
theorem ret_i64 {a b : Int} (h : a = b) : Ending.returned (.int .i64 a) = .returned (.int .i64 b) := by rw [h]
theorem countP_snoc {α : Type} (p : α → Bool) (l : List α) (k : Nat) (h : k < l.length) : (l.take (k + 1)).countP p = (l.take k).countP p + if p l[k] then 1 else 0 := by
 rw [List.take_succ_eq_append_getElem h, List.countP_append, List.countP_singleton]
theorem count_all {α : Type} (p : α → Bool) (l : List α) : (l.countP p = l.length) ↔ l.all p = true := by
 rw [List.countP_eq_length, List.all_eq_true]
theorem kind_eq (l : List UInt8) : kindL l = if l.countP ltB = l.length then 1 else if l.countP dgB = l.length then 2 else 0 := by
 unfold kindL
 by_cases h : l.all ltB = true
 · rw [if_pos h, if_pos ((count_all _ _).2 h)]
 · rw [if_neg h, if_neg (fun e => h ((count_all _ _).1 e))]
   by_cases h2 : l.all dgB = true
   · rw [if_pos h2, if_pos ((count_all _ _).2 h2)]
   · rw [if_neg h2, if_neg (fun e => h2 ((count_all _ _).1 e))]
theorem kind_any (s : ByteArray) (w : World) (hs : s.size ≤ 1000000) :
   Calls Tryz.prog 132 #[.string s] w fun e w' => e = .returned (.int .i64 (kindL s.data.toList)) ∧ w = w' := by
 have HK := Lib.hid (kind_eq s.data.toList)
 have HC1 : Hid (∀ k (h : k < s.size), (s.data.toList.take (k + 1)).countP ltB = (s.data.toList.take k).countP ltB + if ltB s[k] then 1 else 0) := fun k h => by
   have := countP_snoc ltB s.data.toList k (by simpa using h)
   rwa [at_list s k h] at this
 have HC2 : Hid (∀ k (h : k < s.size), (s.data.toList.take (k + 1)).countP dgB = (s.data.toList.take k).countP dgB + if dgB s[k] then 1 else 0) := fun k h => by
   have := countP_snoc dgB s.data.toList k (by simpa using h)
   rwa [at_list s k h] at this
 have HL1 : Hid (∀ k, (s.data.toList.take k).countP ltB ≤ s.size) := fun k => by
   have h1 := List.countP_le_length (p := ltB) (l := s.data.toList.take k)
   have h2 := List.length_take_le' k s.data.toList
   have h3 : s.data.toList.length = s.size := by simp
   omega
 have HL2 : Hid (∀ k, (s.data.toList.take k).countP dgB ≤ s.size) := fun k => by
   have h1 := List.countP_le_length (p := dgB) (l := s.data.toList.take k)
   have h2 := List.length_take_le' k s.data.toList
   have h3 : s.data.toList.length = s.size := by simp
   omega
 go_enter Tryz.func132, Tryz.ntmps132
 go_wp2_with fail
 go_loop [3, 4, 5] (fun a b i => ∃ k : Nat, k ≤ s.size ∧ i = .int .i64 k ∧ a = .int .i64 ((s.data.toList.take k).countP ltB : Nat) ∧ b = .int .i64 ((s.data.toList.take k).countP dgB : Nat)) (fun _ _ i => s.size - (intOf i).toNat)
 case atStart => exact ⟨0, Nat.zero_le _, rfl, rfl, rfl⟩
 case round =>
   obtain ⟨k, hk, rfl, rfl, rfl⟩ := hrel
   by_cases hlt : k < s.size
   · have N1 := Lib.hid (HC1.out k hlt)
     have N2 := Lib.hid (HC2.out k hlt)
     have b1 := HL1.out k
     have b2 := HL2.out k
     have M1 := Lib.hid (ltB_int s[k])
     have M2 := Lib.hid (dgB_int s[k])
     have h0 : (0 : Int) ≤ (s[k].toNat : Int) := by omega
     have h255 := byte_lt s[k]
     generalize (s.data.toList.take k).countP ltB = n1 at *
     generalize (s.data.toList.take k).countP dgB = n2 at *
     by_cases h1 : (64 : Int) < (s[k].toNat : Int) <;> by_cases h2 : (s[k].toNat : Int) < 91 <;> by_cases h3 : (96 : Int) < (s[k].toNat : Int) <;> by_cases h4 : (s[k].toNat : Int) < 123 <;> by_cases h5 : (47 : Int) < (s[k].toNat : Int) <;> by_cases h6 : (s[k].toNat : Int) < 58
     all_goals
       first
         | (exfalso; omega)
         | (go_wp2_with fail
            go_round
            case rel =>
              have m1 := M1.out
              have m2 := M2.out
              have e1 : ltB s[k] = (decide (64 < (s[k].toNat : Int) ∧ (s[k].toNat : Int) < 91) || decide (96 < (s[k].toNat : Int) ∧ (s[k].toNat : Int) < 123)) := by rw [m1, Bool.eq_iff_iff]; simp; omega
              have e2 : dgB s[k] = decide (47 < (s[k].toNat : Int) ∧ (s[k].toNat : Int) < 58) := by rw [m2, Bool.eq_iff_iff]; simp; omega
              clear m1 m2
              simp only [h1, h2, h3, h4, h5, h6, and_self, and_true, and_false, decide_true, decide_false, Bool.or_true, Bool.or_false] at e1 e2
              exact ⟨k + 1, by omega, by go_num, by rw [N1.out, e1]; simp, by rw [N2.out, e2]; simp⟩
            case measure => simp [intOf]; omega)
   · obtain rfl : k = s.size := by omega
     have ht : s.data.toList.take s.size = s.data.toList := List.take_of_length_le (by simp)
     have hll : s.data.toList.length = s.size := by simp
     rw [hll] at HK
     rw [ht]
     clear HC1 HC2 HL1 HL2 ht hll
     generalize s.data.toList.countP ltB = n1 at *
     generalize s.data.toList.countP dgB = n2 at *
     by_cases g1 : n1 = s.size
     · have e1 : ((n1 : Int) == (s.size : Int)) = true := by rw [g1]; simp
       rw [if_pos g1] at HK
       clear g1
       go_wp2_with fail
       go_ret
       exact ⟨ret_i64 HK.out.symm, rfl⟩
     · have e1 : ((n1 : Int) == (s.size : Int)) = false := by rw [beq_eq_false_iff_ne]; omega
       rw [if_neg g1] at HK
       clear g1
       by_cases g2 : n2 = s.size
       · have e2 : ((n2 : Int) == (s.size : Int)) = true := by rw [g2]; simp
         rw [if_pos g2] at HK
         clear g2
         go_wp2_with fail
         go_ret
         exact ⟨ret_i64 HK.out.symm, rfl⟩
       · have e2 : ((n2 : Int) == (s.size : Int)) = false := by rw [beq_eq_false_iff_ne]; omega
         rw [if_neg g2] at HK
         clear g2
         go_wp2_with fail
         go_ret
         exact ⟨ret_i64 HK.out.symm, rfl⟩
theorem cut_hit {s : ByteArray} {k : Nat} (hk : k < s.size) (h : ∀ j (h : j < s.size), j < k → s[j] ≠ 45) (he : s[k] = 45) : spl 45 s.data.toList = (s.extract 0 k).data.toList :: spl 45 (s.extract (k + 1) s.size).data.toList := by
 have e1 : (s.extract 0 k).data.toList = s.data.toList.take k := by rw [Lib.extract_data, List.drop_zero, Nat.sub_zero]
 have e2 : (s.extract (k + 1) s.size).data.toList = s.data.toList.drop (k + 1) := by rw [Lib.extract_data, List.take_of_length_le (by simp)]
 have hkl : k < s.data.toList.length := by simpa using hk
 have e : s.data.toList = s.data.toList.take k ++ 45 :: s.data.toList.drop (k + 1) := by
   conv => lhs; rw [← List.take_append_drop k s.data.toList, List.drop_eq_getElem_cons hkl, at_list s k hk, he]
 rw [e1, e2]
 conv => lhs; rw [e]
 refine spl_app _ fun c hc => ?_
 obtain ⟨j, hj, rfl⟩ := List.mem_iff_getElem.1 hc
 rw [List.length_take] at hj
 rw [List.getElem_take, at_list s j (by omega)]
 exact h j (by omega) (by omega)
theorem cut_miss {s : ByteArray} (h : ∀ j (h : j < s.size), s[j] ≠ 45) : spl 45 s.data.toList = [s.data.toList] := by
 refine spl_one fun c hc => ?_
 obtain ⟨j, hj, rfl⟩ := List.mem_iff_getElem.1 hc
 have hj' : j < s.size := by simpa using hj
 rw [at_list s j hj']
 exact h j hj'
def CutPost (s : ByteArray) (w : World) (e : Ending) (w' : World) : Prop :=
 Below w.heap.size w w' ∧ ((∃ p r : ByteArray, e = .returned (.tuple #[.string p, .string r, .bool true]) ∧ spl 45 s.data.toList = p.data.toList :: spl 45 r.data.toList ∧ p.size ≤ s.size ∧ r.size < s.size) ∨ (e = .returned (.tuple #[.string s, .string ⟨#[]⟩, .bool false]) ∧ spl 45 s.data.toList = [s.data.toList]))
theorem u8_45 {c : UInt8} : (c = 45) ↔ ((c.toNat : Int) = 45) := by
 constructor
 · rintro rfl; rfl
 · intro h
   apply UInt8.toNat_inj.1
   show c.toNat = 45
   omega
theorem cut_any5 (s : ByteArray) (w : World) (hs : s.size ≤ 1000000) :
   Calls Tryz.prog 131 #[.string s] w fun e w' => CutPost s w e w' := by
 have hbd : Below w.heap.size w w.drew := (Below.refl _ _).drew
 have HBd := Lib.hid hbd
 clear hbd
 have HH : Hid (∀ k (hk : k < s.size), (∀ j (h : j < s.size), j < k → s[j] ≠ 45) → s[k] = 45 → spl 45 s.data.toList = (s.extract 0 k).data.toList :: spl 45 (s.extract (k + 1) s.size).data.toList) := fun k hk h he => cut_hit hk h he
 have HM : Hid ((∀ j (h : j < s.size), s[j] ≠ 45) → spl 45 s.data.toList = [s.data.toList]) := cut_miss
 have hs' : (s.size : Int) ≤ 1000000 := by omega
 go_enter Tryz.func131, Tryz.ntmps131
 go_wp2_with fail
 go_loop [5] (fun i => ∃ k : Nat, k ≤ s.size ∧ i = .int .i64 k ∧ Hid (∀ j (h : j < s.size), j < k → s[j] ≠ 45)) (fun i => s.size - (intOf i).toNat)
 case atStart => exact ⟨0, Nat.zero_le _, rfl, fun j h hj => by omega⟩
 case round =>
   obtain ⟨k, hk, rfl, HA⟩ := hrel
   by_cases hlt : k < s.size
   · have hlt' : (k : Int) < s.size := by omega
     have hk0 : (0 : Int) ≤ (k : Int) := by omega
     by_cases he : s[k] = 45
     · have HS := Lib.hid (HH.out k hlt HA.out he)
       have he' : ((s[k].toNat : Int) == 45) = true := by rw [beq_iff_eq]; exact u8_45.1 he
       have hz1 : (k : Int) ≤ s.size := by omega
       have hz2 : (0 : Int) ≤ (k : Int) + 1 := by omega
       have hz3 : (k : Int) + 1 ≤ s.size := by omega
       have hz4 : IntKind.i64.wrap ((k : Int) + 1) = (k : Int) + 1 := IntWalk.i64_in _ (by omega)
       have hz5 : ((k : Int) + 1).toNat = k + 1 := by omega
       clear he
       go_upto_region 5 with fail
       go_quiet (fail)
       go_wp2_with fail
       refine bodyPost_ret (results_tmp3 rfl _ _ _) rfl ?_
       exact ⟨⟨rfl, rfl, rfl, Nat.le_refl _, fun _ _ => rfl⟩, .inl ⟨s.extract 0 k, s.extract (k + 1) s.size, rfl, HS.out, by rw [ByteArray.size_extract]; omega, by rw [ByteArray.size_extract]; omega⟩⟩
     · have he' : ((s[k].toNat : Int) == 45) = false := by rw [beq_eq_false_iff_ne]; exact fun h => he (u8_45.2 h)
       have HA2 : Hid (∀ j (h : j < s.size), j < k + 1 → s[j] ≠ 45) := fun j h hj => by
         rcases Nat.lt_or_ge j k with h1 | h1
         · exact HA.out j h h1
         · obtain rfl : j = k := by omega
           exact he
       clear he
       go_wp2_with fail
       go_round
       case rel => exact ⟨k + 1, by omega, by go_num, HA2.out⟩
       case measure => simp [intOf]; omega
   · obtain rfl : k = s.size := by omega
     have HS := Lib.hid (HM.out fun j h => HA.out j h h)
     go_wp2_with fail
     refine bodyPost_ret (results_tmp3 rfl _ _ _) rfl ?_
     exact ⟨Below.refl _ _, .inr ⟨rfl, HS.out⟩⟩
/-! A row of bytes that a call makes. -/
def enc1 (b : UInt8) : List Value := [.int .u8 (b.toNat : Int)]
theorem enc1_len (b : UInt8) : (enc1 b).length = 1 := rfl
theorem enc1_one (b : UInt8) : ∀ u ∈ enc1 b, u.oneCell' = true := fun u hu => by
 simp only [enc1, List.mem_singleton] at hu; subst hu; rfl
theorem enc1_flat (l : List UInt8) : l.flatMap enc1 = (bC l).toList := by
 induction l with
 | nil => rfl
 | cons b l ih => rw [List.flatMap_cons, ih]; simp [enc1, bC]
theorem infoU8 : (Tryz.prog.info? 5).map (fun i => (i.zero, i.size, i.bytes)) = some (some (.int .u8 0), 1, 1) := by kernel_rfl
section
variable {ops : Array Oper} {o : Oper} {rest : List Oper} {a : Act} {w : World} {Q : Exit → Act → World → Prop}
theorem app_B (hgd : o.guard = none) (s x : Operand) (ho : o.op = .call { callee := .builtin .append, args := #[s, x], argTypes := #[22, 22] })
   (base : Nat) (v : Value) (xs : List UInt8) (hs : a.eval s = v) (hown : OwnE enc1 5 1 w base v xs) (b c : Nat) (y : UInt8) (hx : a.eval x = .slice (some ⟨b, 0, none⟩) 1 c)
   (hr : w.rangeAt b 0 (enc1 y)) (hlen : xs.length ≤ 1000000) (hbase : base ≤ w.heap.size)
   (h : ∀ v' w', OwnE enc1 5 1 w' base v' (xs ++ [y]) → w.grownBy w' v.ownBlock → wpList Tryz.prog ops Q rest (a.put o.dst v') w') : wpList Tryz.prog ops Q (o :: rest) a w :=
 wl_app1 22 5 1 (.int .u8 0) Tryz.underlying22 infoU8 rfl (by omega) enc1_len enc1_one hgd s x ho base v xs hs hown b c y hx hr (by omega) (by unfold maxLen; omega) hbase h
end
theorem nil_str (w : World) : (convert 22 9 (.slice none 0 0)).run Tryz.prog w = .ok (.string ⟨#[]⟩) w := by kernel_rfl
theorem own_str {w : World} {base : Nat} {v : Value} {l : List UInt8} (h : OwnE enc1 5 1 w base v l) : (convert 22 9 v).run Tryz.prog w = .ok (.string ⟨l.toArray⟩) w := by
 obtain ⟨h1, ⟨rfl, h2⟩ | ⟨g, cap, cur, rfl, hg, hh, hc, hm, hs, ht⟩⟩ := h
 · obtain rfl := List.length_eq_zero_iff.1 h2
   exact nil_str w
 · refine conv_any w g 0 _ cap l rfl (fun j u hu => ?_)
   rw [Nat.zero_add, cell_blk hh]
   rw [← enc1_flat] at hu
   have hj := (List.getElem?_eq_some_iff.1 hu).1
   rw [← ht, List.getElem?_take_of_lt (by rw [← ht, List.length_take] at hj; omega)] at hu
   simpa using hu
theorem up_step (c : UInt8) : (upB c = if (96 : Int) < c.toNat ∧ (c.toNat : Int) < 123 then c - 32 else c) ∧ (loB c = if (64 : Int) < c.toNat ∧ (c.toNat : Int) < 91 then c + 32 else c) := by
 exact u8_all (p := fun c => (upB c = if (96 : Int) < c.toNat ∧ (c.toNat : Int) < 123 then c - 32 else c) ∧ (loB c = if (64 : Int) < c.toNat ∧ (c.toNat : Int) < 91 then c + 32 else c)) (by decide +kernel) c
def turnL (g : Bool) (l : List UInt8) : List UInt8 := l.map (if g then upB else loB)
theorem turn_snoc (g : Bool) (l : List UInt8) (k : Nat) (h : k < l.length) : turnL g (l.take (k + 1)) = turnL g (l.take k) ++ [(if g then upB else loB) l[k]] := by
 unfold turnL
 rw [List.take_succ_eq_append_getElem h, List.map_append]; rfl
theorem turn_any (s : ByteArray) (g : Bool) (w : World) (hs : s.size ≤ 1000000) :
   Calls Tryz.prog 133 #[.string s, .bool g] w fun e w' => e = .returned (.string ⟨(turnL g s.data.toList).toArray⟩) ∧ Below w.heap.size w w' := by
 have HT : Hid (∀ k (h : k < s.size), turnL g (s.data.toList.take (k + 1)) = turnL g (s.data.toList.take k) ++ [(if g then upB else loB) s[k]]) := fun k h => by
   have := turn_snoc g s.data.toList k (by simpa using h)
   rwa [at_list s k h] at this
 have HL : Hid (∀ k, (turnL g (s.data.toList.take k)).length ≤ 1000000) := fun k => by
   have h2 := List.length_take_le' k s.data.toList
   have h3 : s.data.toList.length = s.size := by simp
   unfold turnL; rw [List.length_map]; omega
 have HE : Hid (turnL g (s.data.toList.take s.size) = turnL g s.data.toList) := by
   show _ = _
   rw [List.take_of_length_le (by simp)]
 go_enter Tryz.func133, Tryz.ntmps133
 go_wp2_with fail
 go_loopw [5, 6] (fun v i wr => ∃ k : Nat, k ≤ s.size ∧ i = .int .i64 k ∧ Hid (OwnE enc1 5 1 wr w.heap.size v (turnL g (s.data.toList.take k))) ∧ Hid (Below w.heap.size w wr)) (fun _ i _ => s.size - (intOf i).toNat)
 case atStart => exact ⟨0, Nat.zero_le _, rfl, by rw [List.take_zero]; exact OwnE.nil _ _, Below.refl _ _⟩
 case round =>
   obtain ⟨k, hk, rfl, HO, HW⟩ := hrel
   by_cases hlt : k < s.size
   · have N1 := Lib.hid (HT.out k hlt)
     have hl1 := HL.out k
     have h0 : (0 : Int) ≤ (s[k].toNat : Int) := by omega
     have h255 := byte_lt s[k]
     have HO1 : Hid (∀ y : UInt8, OwnE enc1 5 1 (wr.alloc (.cells (enc1 y).toArray 5)) w.heap.size u5 (turnL g (s.data.toList.take k))) := fun y => HO.out.below (below_alloc1 _ _)
     have HU := Lib.hid (up_step s[k])
     have HZ : Hid (∀ y : UInt8, w.heap.size ≤ (wr.alloc (.cells (enc1 y).toArray 5)).heap.size) := fun y => by have := HW.out.size; simp; omega
     have HB1 : Hid (∀ (y : UInt8) (w' : World), (wr.alloc (.cells (enc1 y).toArray 5)).grownBy w' (Value.ownBlock u5) → Below w.heap.size w w') := fun y w' hg => (HW.out.trans ((below_alloc1 wr _).mono HW.out.size)).trans (grown_below hg (fun g' hg' => (HO.out.lt g' hg').1) (HZ.out y))
     by_cases h1 : (64 : Int) < (s[k].toNat : Int) <;> by_cases h2 : (s[k].toNat : Int) < 91 <;> by_cases h3 : (96 : Int) < (s[k].toNat : Int) <;> by_cases h4 : (s[k].toNat : Int) < 123
     all_goals first
       | (exfalso; omega)
       | skip
     all_goals
       cases g
       case false =>
         simp only [Bool.false_eq_true, if_false] at N1
         first
         | (have hc : loB s[k] = s[k] := (by rw [HU.out.2, if_neg (by omega)])
            rw [hc] at N1
            clear hc
            go_wp2_with (at_builtin; (refine app_B rfl _ _ rfl w.heap.size u5 (turnL false (s.data.toList.take k)) rfl (HO1.out s[k]) wr.heap.size 1 s[k] rfl (range_whole (heap_alloc_new _ _)) hl1 (HZ.out s[k]) ?_); intro v' w3 ho3 hg3)
            have hb3 := HB1.out s[k] w3 hg3
            go_roundw
            case rel => exact ⟨k + 1, by omega, by go_num, by rw [N1.out]; exact ho3, hb3⟩
            case measure => simp [intOf]; omega)
         | (have hy : (s[k].toNat : Int) + 32 = ((loB s[k]).toNat : Int) := (by rw [loB_int, if_pos (by omega)])
            have hy1 : (96 : Int) < ((loB s[k]).toNat : Int) := (by omega)
            have hy2 : ((loB s[k]).toNat : Int) < 123 := (by omega)
            generalize loB s[k] = y at *
            go_wp2_with (at_builtin; (refine app_B rfl _ _ rfl w.heap.size u5 (turnL false (s.data.toList.take k)) rfl (HO1.out y) wr.heap.size 1 y rfl (range_whole (heap_alloc_new _ _)) hl1 (HZ.out y) ?_); intro v' w3 ho3 hg3)
            have hb3 := HB1.out y w3 hg3
            go_roundw
            case rel => exact ⟨k + 1, by omega, by go_num, by rw [N1.out]; exact ho3, hb3⟩
            case measure => simp [intOf]; omega)
       case true =>
         simp only [if_true] at N1
         first
         | (have hc : upB s[k] = s[k] := (by rw [HU.out.1, if_neg (by omega)])
            rw [hc] at N1
            clear hc
            go_wp2_with (at_builtin; (refine app_B rfl _ _ rfl w.heap.size u5 (turnL true (s.data.toList.take k)) rfl (HO1.out s[k]) wr.heap.size 1 s[k] rfl (range_whole (heap_alloc_new _ _)) hl1 (HZ.out s[k]) ?_); intro v' w3 ho3 hg3)
            have hb3 := HB1.out s[k] w3 hg3
            go_roundw
            case rel => exact ⟨k + 1, by omega, by go_num, by rw [N1.out]; exact ho3, hb3⟩
            case measure => simp [intOf]; omega)
         | (have hy : (s[k].toNat : Int) - 32 = ((upB s[k]).toNat : Int) := (by rw [upB_int, if_pos (by omega)])
            generalize upB s[k] = y at *
            go_wp2_with (at_builtin; (refine app_B rfl _ _ rfl w.heap.size u5 (turnL true (s.data.toList.take k)) rfl (HO1.out y) wr.heap.size 1 y rfl (range_whole (heap_alloc_new _ _)) hl1 (HZ.out y) ?_); intro v' w3 ho3 hg3)
            have hb3 := HB1.out y w3 hg3
            go_roundw
            case rel => exact ⟨k + 1, by omega, by go_num, by rw [N1.out]; exact ho3, hb3⟩
            case measure => simp [intOf]; omega)
   · obtain rfl : k = s.size := by omega
     have hcv := own_str HO.out
     rw [HE.out] at hcv
     go_wp2_with fail
     go_ret
     exact ⟨rfl, HW.out⟩
end Go.Proofs.YtbfefdedjcppaaaGreatDoor

/- The document's tags: front, Text. -/
namespace Go.Proofs.YtbfefdedjcppaaaGreatDoor
set_option maxRecDepth 100000
set_option maxHeartbeats 2000000
open Go.RowKit
theorem front_zero {l : List UInt8} {k : Nat} (h : k < l.length) (hz : l[k] = 0) : frontZ (l.take (k + 1)) = frontZ (l.take k) := by
 rw [List.take_succ_eq_append_getElem h, hz]
 unfold frontZ Lib.trimRightB
 simp
theorem front_stop {l : List UInt8} {k : Nat} (h : k < l.length) (hz : l[k] ≠ 0) : frontZ (l.take (k + 1)) = l.take (k + 1) := by
 rw [List.take_succ_eq_append_getElem h]
 unfold frontZ Lib.trimRightB
 rw [List.reverse_append, List.reverse_singleton, List.singleton_append, List.dropWhile_cons, if_neg (by simpa using hz), List.reverse_cons, List.reverse_reverse]
theorem u8_0 {c : UInt8} : (c = 0) ↔ ((c.toNat : Int) = 0) := by
 constructor
 · rintro rfl; rfl
 · intro h
   apply UInt8.toNat_inj.1
   show c.toNat = 0
   omega
theorem refFront_any (g o n cap : Nat) (l : List UInt8) (w : World) (hl : l.length = n) (hn : n ≤ 1000000) (hcap : n ≤ cap) (h : w.rangeAt g o (bC l).toList) :
   Calls Tryz.prog 141 #[.slice (some ⟨g, o, none⟩) n cap] w fun e w' => e = .returned (.string ⟨(frontZ l).toArray⟩) ∧ w = w' := by
 have HR := Lib.hid h
 have HL := Lib.hid hl
 have HFl : Hid (frontZ (l.take n) = frontZ l) := by show _ = _; rw [← hl, List.take_length]
 have HF0 : Hid (∀ k (h : k < l.length), l[k] = 0 → frontZ (l.take (k + 1)) = frontZ (l.take k)) := fun k h hz => front_zero h hz
 have HF1 : Hid (∀ k (h : k < l.length), l[k] ≠ 0 → frontZ (l.take (k + 1)) = l.take (k + 1)) := fun k h hz => front_stop h hz
 have HCv : Hid (∀ k, k ≤ n → (convert 22 9 (.slice (some ⟨g, o, none⟩) k cap)).run Tryz.prog w = .ok (.string ⟨(l.take k).toArray⟩) w) := fun k hk => conv_any w g o k cap (l.take k) (by simp; omega) (fun j v hv => h j v (by
   have hj := (List.getElem?_eq_some_iff.1 hv).1
   rw [← hv, bC_take, List.getElem?_take_of_lt (by simp [bC] at hj; omega)]))
 clear h hl
 go_enter Tryz.func141, Tryz.ntmps141
 go_wp2_with fail
 go_loop [3] (fun i => ∃ k : Nat, k ≤ n ∧ i = .int .i64 k ∧ Hid (frontZ (l.take k) = frontZ l)) (fun i => (intOf i).toNat)
 case atStart => exact ⟨n, Nat.le_refl _, rfl, HFl.out⟩
 case round =>
   obtain ⟨k, hk, rfl, HF⟩ := hrel
   have hkc : (k : Int) ≤ cap := by omega
   have hcv := HCv.out k hk
   have hk0 : (0 : Int) ≤ (k : Int) := by omega
   rcases Nat.eq_zero_or_pos k with rfl | hp
   · have HE : Hid (frontZ l = l.take 0) := by show _ = _; rw [← HF.out]; rfl
     go_wp2_with fail
     go_ret
     exact ⟨by rw [HE.out]; rfl, rfl⟩
   · obtain ⟨m, rfl⟩ : ∃ m, k = m + 1 := ⟨k - 1, by omega⟩
     have hml : m < l.length := by rw [HL.out]; omega
     have hcell : w.cell? ⟨g, o + m, none⟩ = some (.int .u8 (l[m].toNat : Int)) := HR.out m _ (by simp [bC, hml])
     have hm0 : (0 : Int) ≤ (m : Int) := by omega
     have hm1 : (m : Int) < n := by omega
     have hm2 : (0 : Int) < ((m + 1 : Nat) : Int) := by omega
     have hm3 : (((m + 1 : Nat) : Int) - 1) = (m : Int) := by omega
     have hm4 : (0 : Int) < (m : Int) + 1 := by omega
     have hmc : (m : Int) + 1 ≤ cap := by omega
     clear hp
     by_cases hz : l[m] = 0
     · have hz' : ((l[m].toNat : Int) == 0) = true := by rw [beq_iff_eq]; exact u8_0.1 hz
       have HF2 : Hid (frontZ (l.take m) = frontZ l) := by show _ = _; rw [← HF.out, HF0.out m hml hz]
       clear hz
       go_wp2_with fail
       go_round
       case rel => exact ⟨m, by omega, by go_num, HF2.out⟩
       case measure => simp [intOf]
     · have hz' : ((l[m].toNat : Int) == 0) = false := by rw [beq_eq_false_iff_ne]; exact fun h => hz (u8_0.2 h)
       have HE : Hid (frontZ l = l.take (m + 1)) := by show _ = _; rw [← HF.out, HF1.out m hml hz]
       clear hz
       go_wp2_with fail
       go_ret
       exact ⟨by rw [HE.out]; rfl, rfl⟩
/-! Tags of the document in memory. -/
def tC (t : T3) : Array Value := #[.string ⟨t.lang.toArray⟩, .string ⟨t.script.toArray⟩, .string ⟨t.region.toArray⟩]
def text5 (t : T3) : List UInt8 := if t.lang = [] then rootL else textT t
theorem eqE5 (l : List UInt8) (W : World) : (binOp .eql 9 (.string ⟨l.toArray⟩) (.string ⟨#[]⟩)).run Tryz.prog W = .ok (.bool l.isEmpty) W := by
 have := emp5 l
 go_simp
theorem text_any5 (t : T3) (w : World) (h1 : t.lang.length ≤ 32) (h2 : t.script.length ≤ 32) (h3 : t.region.length ≤ 32) :
   Calls Tryz.prog 103 #[.agg (tC t)] w fun e w' => e = .returned (.string ⟨(text5 t).toArray⟩) ∧ Below w.heap.size w w' := by
 obtain ⟨L, S, R⟩ := t
 simp only at h1 h2 h3
 have HB0 : Hid (Below w.heap.size w (w.alloc (.cells (tC ⟨L, S, R⟩) 181))) := below_alloc1 _ _
 have HT : Hid (text5 ⟨L, S, R⟩ = if L = [] then rootL else L ++ dash S ++ dash R) := rfl
 have hg : (w.alloc (.cells (tC ⟨L, S, R⟩) 181)).heap[w.heap.size]? = some (.cells (tC ⟨L, S, R⟩) 181 (0, 0)) := heap_alloc_new _ _
 have c0 : (w.alloc (.cells (tC ⟨L, S, R⟩) 181)).cell? ⟨w.heap.size, 0, none⟩ = some (.string ⟨L.toArray⟩) := by rw [cell_blk hg]; rfl
 have c1 : (w.alloc (.cells (tC ⟨L, S, R⟩) 181)).cell? ⟨w.heap.size, 1, none⟩ = some (.string ⟨S.toArray⟩) := by rw [cell_blk hg]; rfl
 have c2 : (w.alloc (.cells (tC ⟨L, S, R⟩) 181)).cell? ⟨w.heap.size, 2, none⟩ = some (.string ⟨R.toArray⟩) := by rw [cell_blk hg]; rfl
 have e0 := fun W => eqE5 L W
 have n1 := fun W => neqE5 S W
 have n2 := fun W => neqE5 R W
 have m0 := emp5 L
 have m1 := emp5 S
 have m2 := emp5 R
 have k1 := fun W => catS5 L [45] (by simp; omega) W
 have k2 := fun W => catS5 (L ++ [45]) S (by simp; omega) W
 have k3 := fun W => catS5 (L ++ [45] ++ S) [45] (by simp; omega) W
 have k4 := fun W => catS5 (L ++ [45] ++ S ++ [45]) R (by simp; omega) W
 have k5 := fun W => catS5 (L ++ [45]) R (by simp; omega) W
 have z1 : ¬ 9223372036854775807 < L.length + 1 := by omega
 have z2 : ¬ 9223372036854775807 < L.length + 1 + S.length := by omega
 have z3 : ¬ 9223372036854775807 < L.length + 1 + S.length + 1 := by omega
 have z4 : ¬ 9223372036854775807 < L.length + 1 + S.length + 1 + R.length := by omega
 have z5 : ¬ 9223372036854775807 < L.length + 1 + R.length := by omega
 clear hg
 cases L with
 | nil =>
   simp only [List.isEmpty_nil] at e0 m0
   go_enter Tryz.func103, Tryz.ntmps103
   go_wp2_with fail
   go_ret
   exact ⟨rfl, HB0.out⟩
 | cons c L =>
   simp only [List.isEmpty_cons] at e0 m0
   rw [if_neg (by simp)] at HT
   have hLt : ¬ (⟨(c :: L).toArray⟩ : ByteArray).toList = [] := by rw [ByteArray.toList_eq]; simp
   have hLe : (c :: L).isEmpty = false := rfl
   generalize (c :: L) = L at *
   cases S with
   | nil =>
     simp only [List.isEmpty_nil, Bool.not_true] at n1 m1
     cases R with
     | nil =>
       simp only [List.isEmpty_nil, Bool.not_true] at n2 m2
       go_enter Tryz.func103, Tryz.ntmps103
       go_wp2_with fail
       go_ret
       exact ⟨by rw [HT.out]; simp [dash], HB0.out⟩
     | cons r R =>
       simp only [List.isEmpty_cons, Bool.not_false] at n2 m2
       go_enter Tryz.func103, Tryz.ntmps103
       go_wp2_with fail
       go_ret
       exact ⟨by rw [HT.out]; simp [dash, ba_add], HB0.out⟩
   | cons s S =>
     simp only [List.isEmpty_cons, Bool.not_false] at n1 m1
     cases R with
     | nil =>
       simp only [List.isEmpty_nil, Bool.not_true] at n2 m2
       go_enter Tryz.func103, Tryz.ntmps103
       go_wp2_with fail
       go_ret
       exact ⟨by rw [HT.out]; simp [dash, ba_add], HB0.out⟩
     | cons r R =>
       simp only [List.isEmpty_cons, Bool.not_false] at n2 m2
       go_enter Tryz.func103, Tryz.ntmps103
       go_wp2_with fail
       go_ret
       exact ⟨by rw [HT.out]; simp [dash, ba_add], HB0.out⟩
end Go.Proofs.YtbfefdedjcppaaaGreatDoor

/- The document's Parse. -/
namespace Go.Proofs.YtbfefdedjcppaaaGreatDoor
set_option maxRecDepth 100000
set_option maxHeartbeats 8000000
open Go.RowKit
def t30 : T3 := ⟨[], [], []⟩
def pR (s : List UInt8) : T3 := (parseT s).getD t30
def pB (s : List UInt8) : Bool := (parseT s).isSome
theorem tC_one (t : T3) : (tC t).all (·.oneCell') = true := by simp [tC, Value.oneCell']
theorem siz23 : (Tryz.prog.info? 181).map (·.size) = some 3 := by kernel_rfl
theorem build30 (w : World) : (Instr.build 181 #[]).run Tryz.prog w = .ok (.agg (tC t30)) w := run_build w _ _ _ (by kernel_rfl)
theorem build3L (L : List UInt8) (w : World) : (Instr.build 181 #[(0, .string ⟨L.toArray⟩)]).run Tryz.prog w = .ok (.agg (tC ⟨L, [], []⟩)) w := run_build w _ _ _ (by kernel_rfl)
section
variable {ops : Array Oper} {rest : List Oper} {o : Oper} {a : Act} {w : World} {Q : Exit → Act → World → Prop}
theorem st_R3 (hgd : o.guard = none) (x y : Operand) (ho : o.op = .store 181 x y) (g : Nat) (e old : T3) (T' : TypeId)
   (hx : a.eval x = .pointer (some ⟨g, 0, none⟩)) (hy : a.eval y = .agg (tC e)) (hg : w.heap[g]? = some (.cells (tC old) T'))
   (h : wpList Tryz.prog ops Q rest (a.put o.dst undef) (w.setRow g (tC e))) : wpList Tryz.prog ops Q (o :: rest) a w :=
 wl_str hgd _ x y ho g (tC e) (tC old) T' siz23 rfl (tC_one e) hx hy hg h
theorem ld_R3 (hw : Region.wanted o (yielded ops a.tmps) = true) (x : Operand) (ho : o.op = .load 181 x) (g : Nat) (t : T3) (hx : a.eval x = .pointer (some ⟨g, 0, none⟩)) (hg : w.heap[g]? = some (.cells (tC t) 181 (0, 0)))
   (h : wpList Tryz.prog ops Q rest (a.put o.dst (.agg (tC t))) w) : wpList Tryz.prog ops Q (o :: rest) a w :=
 wl_ldr hw _ x ho g 0 (tC t).toList _ Tryz.underlying181 rfl siz23 hx (range_whole (by simpa using hg)) (by simpa using h)
end
def CutP (s : ByteArray) (w : World) (e : Ending) (w' : World) : Prop :=
 Below w.heap.size w w' ∧ ∃ (p r : ByteArray) (more : Bool) (rs : List (List UInt8)), e = .returned (.tuple #[.string p, .string r, .bool more]) ∧ spl 45 s.data.toList = p.data.toList :: rs ∧ (more = true → rs = spl 45 r.data.toList) ∧ (more = false → rs = []) ∧ p.size ≤ s.size ∧ r.size ≤ s.size ∧ (more = true → r.size < s.size)
theorem cut_one (s : ByteArray) (w : World) (hs : s.size ≤ 1000000) : Calls Tryz.prog 131 #[.string s] w fun e w' => CutP s w e w' :=
 (cut_any5 s w hs).mono fun e w' ⟨hb, h⟩ => by
   refine ⟨hb, ?_⟩
   rcases h with ⟨p, r, h1, h2, h3, h4⟩ | ⟨h1, h2⟩
   · exact ⟨p, r, true, _, h1, h2, fun _ => rfl, fun h => (by cases h), h3, by omega, fun _ => h4⟩
   · exact ⟨s, ⟨#[]⟩, false, [], h1, h2, fun h => (by cases h), fun _ => rfl, Nat.le_refl _, Nat.zero_le _, fun h => by cases h⟩
theorem kind_cases (l : List UInt8) : (kindL l = 1 ∧ l.all ltB = true) ∨ (kindL l = 2 ∧ l.all ltB = false ∧ l.all dgB = true) ∨ (kindL l = 0 ∧ l.all ltB = false ∧ l.all dgB = false) := by
 unfold kindL
 cases h : l.all ltB <;> cases h2 : l.all dgB <;> simp
theorem lt_not_dg {l : List UInt8} (h : l.all ltB = true) (hn : 0 < l.length) : l.all dgB = false := by
 cases l with
 | nil => simp at hn
 | cons c l =>
   simp only [List.all_cons, Bool.and_eq_true] at h
   rw [List.all_cons, lt_dg c h.1]; rfl
structure RSt (w : World) (g : Nat) (t : T3) (wr : World) : Prop where
 bel : Below w.heap.size w wr
 r : wr.heap[w.heap.size]? = some (.cells (tC t30) 181 (0, 0))
 lt : w.heap.size < g
 t : wr.heap[g]? = some (.cells (tC t) 181 (0, 0))
theorem RSt.below {w wr w' : World} {g : Nat} {t : T3} (h : RSt w g t wr) (hb : Below wr.heap.size wr w') : RSt w g t w' :=
 ⟨h.bel.trans (hb.mono h.bel.size), by rw [hb.block _ (lt_heap h.r)]; exact h.r, h.lt, by rw [hb.block _ (lt_heap h.t)]; exact h.t⟩
theorem RSt.cells {w wr : World} {g : Nat} {t : T3} (h : RSt w g t wr) : wr.cell? ⟨g, 0, none⟩ = some (.string ⟨t.lang.toArray⟩) ∧ wr.cell? ⟨g, 1, none⟩ = some (.string ⟨t.script.toArray⟩) ∧ wr.cell? ⟨g, 2, none⟩ = some (.string ⟨t.region.toArray⟩) ∧ wr.frozen? ⟨g, 1, none⟩ = false ∧ wr.frozen? ⟨g, 2, none⟩ = false := by
 refine ⟨by rw [cell_blk h.t]; rfl, by rw [cell_blk h.t]; rfl, by rw [cell_blk h.t]; rfl, by simp [World.frozen?, h.t], by simp [World.frozen?, h.t]⟩
theorem RSt.set1 {w wr : World} {g : Nat} {t : T3} (h : RSt w g t wr) (l : List UInt8) : RSt w g { t with script := l } (wr.setCell ⟨g, 1, none⟩ (.string ⟨l.toArray⟩)) :=
 ⟨h.bel.setCell (p := ⟨g, 1, none⟩) (Nat.le_of_lt h.lt) _, by rw [heap_setCell_other _ (Nat.ne_of_lt h.lt)]; exact h.r, h.lt, by rw [heap_setCell_self _ h.t]; rfl⟩
theorem RSt.set2 {w wr : World} {g : Nat} {t : T3} (h : RSt w g t wr) (l : List UInt8) : RSt w g { t with region := l } (wr.setCell ⟨g, 2, none⟩ (.string ⟨l.toArray⟩)) :=
 ⟨h.bel.setCell (p := ⟨g, 2, none⟩) (Nat.le_of_lt h.lt) _, by rw [heap_setCell_other _ (Nat.ne_of_lt h.lt)]; exact h.r, h.lt, by rw [heap_setCell_self _ h.t]; rfl⟩
theorem turn_title {p : List UInt8} (h : p ≠ []) : turnL true (p.take 1) ++ turnL false (p.drop 1) = titleL p := by
 cases p with
 | nil => exact absurd rfl h
 | cons c p => rfl
def ma (r : Value) (m : Value) : Nat := match m, r with
 | .bool true, .string s => s.size + 1
 | _, _ => 0
theorem refParse5_any (s : ByteArray) (w : World) (hs : s.size ≤ 1000000) :
   Calls Tryz.prog 102 #[.string s] w fun e w' => e = .returned (.tuple #[.agg (tC (pR s.data.toList)), .bool (pB s.data.toList)]) ∧ Below w.heap.size w w' := by
 have he : ∀ W, (binOp .eql 9 (.string s) (.string ⟨#[114, 111, 111, 116]⟩)).run Tryz.prog W = .ok (.bool (decide (s.data.toList = rootL))) W := fun W => eqlS s ⟨#[114, 111, 111, 116]⟩ W
 have hbq := root_beq s
 have HB1 : Hid (Below w.heap.size w (w.alloc (.cells (tC t30) 181))) := below_alloc1 _ _
 have HG1 : Hid ((w.alloc (.cells (tC t30) 181)).heap[w.heap.size]? = some (.cells (tC t30) 181 (0, 0))) := heap_alloc_new _ _
 have hb30 := build30
 have hbad : parseT s.data.toList = none → pR s.data.toList = t30 ∧ pB s.data.toList = false := fun h => by rw [pR, pB, h]; exact ⟨rfl, rfl⟩
 have HBad := Lib.hid hbad
 clear hbad
 by_cases hroot : s.data.toList = rootL
 · have H1 : Hid (pR s.data.toList = t30 ∧ pB s.data.toList = true) := by
     show _ ∧ _
     rw [pR, pB, parseT, if_pos hroot]; exact ⟨rfl, rfl⟩
   rw [decide_eq_true hroot] at he hbq
   clear hroot
   go_enter Tryz.func102, Tryz.ntmps102
   go_wp2_with ((with_reducible refine gate_st 181 _ _ rfl ?_); refine st_R3 rfl _ _ rfl w.heap.size t30 t30 _ rfl rfl HG1.out ?_)
   refine bodyPost_ret (res_rowc_tmp (P := Tryz.prog) (T := 181) (T' := 181) (t := 3) rfl _ _ w.heap.size (tC t30) (0, 0) rfl (setRow_at HG1.out) Tryz.underlying181 rfl siz23) rfl ⟨?_, setRow_below HB1.out (Nat.le_refl _) _⟩
   rw [H1.out.1, H1.out.2]; rfl
 · have HPT : Hid (parseT s.data.toList = parseR (spl 45 s.data.toList)) := by show parseT _ = _; rw [parseT, if_neg hroot]
   rw [decide_eq_false hroot] at he hbq
   clear hroot
   have HC : Hid (∀ W, Calls Tryz.prog 131 #[.string s] W fun e w' => CutP s W e w') := fun W => cut_one s W hs
   go_enter Tryz.func102, Tryz.ntmps102
   go_upto_region 4 with (go_at_call 131; (refine (HC.out _).mono ?_); rintro e w1 ⟨hb1, p, r, more, rs, rfl, hsp, hm1, hm2, hp1, hr1, _⟩)
   have HB2 := Lib.hid (HB1.out.trans (hb1.mono HB1.out.size))
   have HG2 : Hid (w1.heap[w.heap.size]? = some (.cells (tC t30) 181 (0, 0))) := by show _ = _; rw [hb1.block _ (lt_heap HG1.out)]; exact HG1.out
   have HPP : Hid (parseT s.data.toList = if isLang p.data.toList then foldT ⟨p.data.toList.map loB, [], []⟩ rs else none) := by
     show parseT _ = _
     rw [HPT.out, hsp, parseR_fold]
   have hps : p.size ≤ 1000000 := by omega
   have hrs : r.size ≤ 1000000 := by omega
   have HK : Hid (∀ W : World, Calls Tryz.prog 132 #[.string p] W fun e w' => e = .returned (.int .i64 (kindL p.data.toList)) ∧ W = w') := fun W => kind_any p W hps
   have hpl : p.data.toList.length = p.size := by simp
   have HM : Hid ((more = true → rs = spl 45 r.data.toList) ∧ (more = false → rs = [])) := ⟨hm1, hm2⟩
   clear hb1 hsp hm1 hm2 hp1 hr1 HPT HC HB1 HG1 he hbq hs
   by_cases hok : (2 ≤ p.size ∧ p.size ≤ 3) ∧ p.data.toList.all ltB = true
   case neg =>
     have HT : Hid (pR s.data.toList = t30 ∧ pB s.data.toList = false) := HBad.out (by
       rw [HPP.out, if_neg]
       rw [isLang, hpl]
       intro hh
       simp only [Bool.and_eq_true, decide_eq_true_eq] at hh
       exact hok hh)
     clear HBad HPP HM
     rcases kind_cases p.data.toList with ⟨hk, ha⟩ | ⟨hk, ha, _⟩ | ⟨hk, ha, _⟩
     all_goals rw [hk] at HK; clear hk
     case inl =>
       by_cases h2 : (p.size : Int) < 2
       · clear hok ha
         go_wp2_with (first
           | (go_at_call 132; (refine (HK.out _).mono ?_); rintro e w' ⟨rfl, rfl⟩)
           | ((with_reducible refine gate_st 181 _ _ rfl ?_); refine st_R3 rfl _ _ rfl w.heap.size t30 t30 _ rfl rfl HG2.out ?_))
         refine bodyPost_ret (res_rowc_tmp (P := Tryz.prog) (T := 181) (T' := 181) (t := 3) rfl _ _ w.heap.size (tC t30) (0, 0) rfl (setRow_at HG2.out) Tryz.underlying181 rfl siz23) rfl ⟨?_, setRow_below HB2.out (Nat.le_refl _) _⟩
         rw [HT.out.1, HT.out.2]; rfl
       · have h3 : (3 : Int) < p.size := by
           rcases Nat.lt_or_ge 3 p.size with h | h
           · omega
           · exact absurd ⟨⟨by omega, h⟩, ha⟩ hok
         clear hok ha
         go_wp2_with (first
           | (go_at_call 132; (refine (HK.out _).mono ?_); rintro e w' ⟨rfl, rfl⟩)
           | ((with_reducible refine gate_st 181 _ _ rfl ?_); refine st_R3 rfl _ _ rfl w.heap.size t30 t30 _ rfl rfl HG2.out ?_))
         refine bodyPost_ret (res_rowc_tmp (P := Tryz.prog) (T := 181) (T' := 181) (t := 3) rfl _ _ w.heap.size (tC t30) (0, 0) rfl (setRow_at HG2.out) Tryz.underlying181 rfl siz23) rfl ⟨?_, setRow_below HB2.out (Nat.le_refl _) _⟩
         rw [HT.out.1, HT.out.2]; rfl
     all_goals
       clear hok ha
       go_wp2_with (first
         | (go_at_call 132; (refine (HK.out _).mono ?_); rintro e w' ⟨rfl, rfl⟩)
         | ((with_reducible refine gate_st 181 _ _ rfl ?_); refine st_R3 rfl _ _ rfl w.heap.size t30 t30 _ rfl rfl HG2.out ?_))
       refine bodyPost_ret (res_rowc_tmp (P := Tryz.prog) (T := 181) (T' := 181) (t := 3) rfl _ _ w.heap.size (tC t30) (0, 0) rfl (setRow_at HG2.out) Tryz.underlying181 rfl siz23) rfl ⟨?_, setRow_below HB2.out (Nat.le_refl _) _⟩
       rw [HT.out.1, HT.out.2]; rfl
   case pos =>
     obtain ⟨⟨h2, h3⟩, hall⟩ := hok
     have h2' : (2 : Int) ≤ p.size := by omega
     have h3' : (p.size : Int) ≤ 3 := by omega
     have d1 : decide ((p.size : Int) < 2) = false := decide_eq_false (by omega)
     have d2 : decide ((3 : Int) < (p.size : Int)) = false := decide_eq_false (by omega)
     have hk1 : kindL p.data.toList = 1 := by rw [kindL, if_pos hall]
     rw [hk1] at HK
     have HP2 : Hid (parseT s.data.toList = foldT ⟨turnL false p.data.toList, [], []⟩ rs) := by
       show _ = _
       rw [HPP.out, if_pos (by rw [isLang, hall, hpl, decide_eq_true ⟨h2, h3⟩]; rfl)]; rfl
     have HTu : Hid (∀ W : World, Calls Tryz.prog 133 #[.string p, .bool false] W fun e w' => e = .returned (.string ⟨(turnL false p.data.toList).toArray⟩) ∧ Below W.heap.size W w') := fun W => turn_any p false W hps
     have hb3 := build3L (turnL false p.data.toList)
     clear hall hk1 HPP hpl
     generalize turnL false p.data.toList = L at *
     go_upto_region 7 with (first
         | (go_at_call 132; (refine (HK.out _).mono ?_); rintro e w' ⟨rfl, rfl⟩)
         | (go_at_call 133; (refine (HTu.out _).mono ?_); rintro e w2 ⟨rfl, hb2⟩)
         | ((with_reducible refine gate_st 181 _ _ rfl ?_); refine wl_strn rfl 181 _ _ rfl (tC ⟨L, [], []⟩) (tC t30) _ siz23 rfl (tC_one _) rfl rfl ?_))
     have HS : Hid (RSt w w2.heap.size ⟨L, [], []⟩ (w2.alloc (.cells (tC ⟨L, [], []⟩) 181))) := by
       have h5 := HB2.out.trans (hb2.mono HB2.out.size)
       have h6 : w2.heap[w.heap.size]? = some (.cells (tC t30) 181 (0, 0)) := by rw [hb2.block _ (lt_heap HG2.out)]; exact HG2.out
       exact ⟨h5.alloc h5.size _, (heap_alloc_old _ _ (lt_heap h6)).trans h6, lt_heap h6, heap_alloc_new _ _⟩
     clear hb2 HG2 HB2 hb3 HTu HK
     generalize w2.alloc (.cells (tC ⟨L, [], []⟩) 181) = W3 at *
     generalize w2.heap.size = g at *
     generalize (⟨L, [], []⟩ : T3) = t0 at *
     have HM' := HM
     clear h2 h3 h2' h3' hps HM
     clear d1 d2
     simp only [Act.put]
     go_wp2_with fail
     go_loopw [5, 6] (fun sr sm wr => ∃ (r : ByteArray) (more : Bool) (t : T3) (rs : List (List UInt8)), sr = .string r ∧ sm = .bool more ∧ r.size ≤ 1000000 ∧ Hid ((more = true → rs = spl 45 r.data.toList) ∧ (more = false → rs = [])) ∧ Hid (parseT s.data.toList = foldT t rs) ∧ Hid (RSt w g t wr)) (fun sr sm _ => ma sr sm)
     case atStart => exact ⟨r, more, t0, rs, rfl, rfl, hrs, HM'.out, HP2.out, HS.out⟩
     case round =>
       clear HS HP2 HM' hrs
       obtain ⟨r, more, t, rs, rfl, rfl, hrs, HM, HF, HR⟩ := hrel
       cases more
       case false =>
         have HPt : Hid (parseT s.data.toList = some t) := by show _ = _; rw [HF.out, HM.out.2 rfl]; rfl
         have HT : Hid (pR s.data.toList = t ∧ pB s.data.toList = true) := by show _ ∧ _; rw [pR, pB, HPt.out]; exact ⟨rfl, rfl⟩
         go_wp2_with (first
           | (with_reducible refine ld_R3 rfl _ rfl g t rfl HR.out.t ?_)
           | ((with_reducible refine gate_st 181 _ _ rfl ?_); refine st_R3 rfl _ _ rfl w.heap.size t t30 _ rfl rfl HR.out.r ?_))
         refine bodyPost_ret (res_rowc_tmp (P := Tryz.prog) (T := 181) (T' := 181) (t := 3) rfl _ _ w.heap.size (tC t) (0, 0) rfl (setRow_at HR.out.r) Tryz.underlying181 rfl siz23) rfl ⟨?_, setRow_below HR.out.bel (Nat.le_refl _) _⟩
         rw [HT.out.1, HT.out.2]; rfl
       case true =>
         have HC : Hid (∀ W, Calls Tryz.prog 131 #[.string r] W fun e w' => CutP r W e w') := fun W => cut_one r W hrs
         go_upto_region 9 with (go_at_call 131; (refine (HC.out _).mono ?_); rintro e w1 ⟨hb1, p2, r2, more2, rs2, rfl, hsp, hm1, hm2, hp1, hr1, hr3⟩)
         have HR1 := Lib.hid (HR.out.below hb1)
         have HF1 : Hid (parseT s.data.toList = match stepT t p2.data.toList with | some t' => foldT t' rs2 | none => none) := by
           show _ = _
           rw [HF.out, HM.out.1 (by simp), hsp]; rfl
         have HM2 : Hid ((more2 = true → rs2 = spl 45 r2.data.toList) ∧ (more2 = false → rs2 = [])) := ⟨hm1, hm2⟩
         have hps : p2.size ≤ 1000000 := by omega
         have hrs2 : r2.size ≤ 1000000 := by omega
         have HMe : Hid (more2 = true → r2.size < r.size) := hr3
         have HK : Hid (∀ W : World, Calls Tryz.prog 132 #[.string p2] W fun e w' => e = .returned (.int .i64 (kindL p2.data.toList)) ∧ W = w') := fun W => kind_any p2 W hps
         have hpl : p2.data.toList.length = p2.size := by simp
         have HIS : Hid (isScript p2.data.toList = (decide (p2.size = 4) && p2.data.toList.all ltB)) := by show isScript _ = _; rw [isScript, hpl]
         have HIR : Hid (isRegion p2.data.toList = ((decide (p2.size = 2) && p2.data.toList.all ltB) || (decide (p2.size = 3) && p2.data.toList.all dgB))) := by show isRegion _ = _; rw [isRegion, hpl]
         have HTu : Hid (∀ W : World, Calls Tryz.prog 133 #[.string p2, .bool true] W fun e w' => e = .returned (.string ⟨(turnL true p2.data.toList).toArray⟩) ∧ Below W.heap.size W w') := fun W => turn_any p2 true W hps
         clear HC hb1 hsp hm1 hm2 hp1 hr1 hr3 HR HF HM hpl
         go_cut [8] (fun b1 wx => b1 = .bool (isScript p2.data.toList) ∧ Hid (RSt w g t wx))
         case first =>
           rcases kind_cases p2.data.toList with ⟨hk, ha⟩ | ⟨hk, ha, _⟩ | ⟨hk, ha, _⟩
           all_goals (rw [hk] at HK; rw [ha] at HIS; clear hk ha)
           case inl =>
             by_cases h4 : p2.size = 4
             · have e4 : ((p2.size : Int) == 4) = true := by rw [h4]; rfl
               rw [h4] at HIS
               clear h4
               go_wp2_with (go_at_call 132; (refine (HK.out _).mono ?_); rintro e w' ⟨rfl, rfl⟩)
               go_meet
               exact ⟨by rw [HIS.out]; rfl, HR1.out⟩
             · have e4 : ((p2.size : Int) == 4) = false := by rw [beq_eq_false_iff_ne]; omega
               rw [decide_eq_false h4] at HIS
               clear h4
               go_wp2_with (go_at_call 132; (refine (HK.out _).mono ?_); rintro e w' ⟨rfl, rfl⟩)
               go_meet
               exact ⟨by rw [HIS.out]; rfl, HR1.out⟩
           all_goals
             go_wp2_with (go_at_call 132; (refine (HK.out _).mono ?_); rintro e w' ⟨rfl, rfl⟩)
             go_meet
             exact ⟨by rw [HIS.out, Bool.and_false], HR1.out⟩
         case rest =>
           clear HR1 HIS
           obtain ⟨rfl, HR1⟩ := hcut
           go_upto_region 10 with fail
           go_cut [9] (fun b1 wx => b1 = .bool (isRegion p2.data.toList) ∧ Hid (RSt w g t wx))
           case first =>
             rcases kind_cases p2.data.toList with ⟨hk, ha⟩ | ⟨hk, ha, hd⟩ | ⟨hk, ha, hd⟩
             case inl =>
               have hnd : p2.size = 3 → p2.data.toList.all dgB = false := fun h => lt_not_dg ha (by simp; omega)
               rw [hk] at HK; rw [ha] at HIR; clear hk ha
               by_cases h4 : p2.size = 2
               case pos =>
                 have e4 : ((p2.size : Int) == 2) = true := by rw [h4]; rfl
                 rw [h4] at HIR
                 clear h4 hnd
                 go_wp2_with (go_at_call 132; (refine (HK.out _).mono ?_); rintro e w' ⟨rfl, rfl⟩)
                 go_meet
                 exact ⟨by rw [HIR.out]; rfl, HR1.out⟩
               case neg =>
                 have e4 : ((p2.size : Int) == 2) = false := by rw [beq_eq_false_iff_ne]; omega
                 rw [decide_eq_false h4] at HIR
                 have HIN : Hid (isRegion p2.data.toList = false) := by
                   show _ = _
                   rw [HIR.out]
                   by_cases h5 : p2.size = 3
                   · rw [hnd h5]; simp
                   · rw [decide_eq_false h5]; rfl
                 clear h4 hnd
                 go_wp2_with (go_at_call 132; (refine (HK.out _).mono ?_); rintro e w' ⟨rfl, rfl⟩)
                 go_meet
                 exact ⟨by rw [HIN.out], HR1.out⟩
             case inr.inl =>
               rw [hk] at HK; rw [ha, hd] at HIR; clear hk ha hd
               by_cases h4 : p2.size = 3
               case pos =>
                 have e4 : ((p2.size : Int) == 3) = true := by rw [h4]; rfl
                 rw [h4] at HIR
                 clear h4
                 go_wp2_with (go_at_call 132; (refine (HK.out _).mono ?_); rintro e w' ⟨rfl, rfl⟩)
                 go_meet
                 exact ⟨by rw [HIR.out]; simp, HR1.out⟩
               case neg =>
                 have e4 : ((p2.size : Int) == 3) = false := by rw [beq_eq_false_iff_ne]; omega
                 rw [decide_eq_false h4] at HIR
                 clear h4
                 go_wp2_with (go_at_call 132; (refine (HK.out _).mono ?_); rintro e w' ⟨rfl, rfl⟩)
                 go_meet
                 exact ⟨by rw [HIR.out]; simp, HR1.out⟩
             case inr.inr =>
               rw [hk] at HK; rw [ha, hd] at HIR; clear hk ha hd
               go_wp2_with (go_at_call 132; (refine (HK.out _).mono ?_); rintro e w' ⟨rfl, rfl⟩)
               go_meet
               exact ⟨by rw [HIR.out]; simp, HR1.out⟩
           case rest =>
             clear HR1 HIR HK
             obtain ⟨rfl, HR1⟩ := hcut
             obtain ⟨hc0, hc1, hc2, hf1, hf2⟩ := HR1.out.cells
             obtain ⟨TL, TS, TR⟩ := t
             simp only at hc0 hc1 hc2
             have n1 := fun W => eqE5 TS W
             have n2 := fun W => eqE5 TR W
             have m1 := emp5 TS
             have m2 := emp5 TR
             cases hns : isScript p2.data.toList <;> cases hnr : isRegion p2.data.toList
             case false.false =>
               have HT : Hid (pR s.data.toList = t30 ∧ pB s.data.toList = false) := HBad.out (by rw [HF1.out, stepT, if_neg (fun e => (by rw [hns] at e; exact absurd e.1 (by simp))), if_neg (fun e => (by rw [hnr] at e; exact absurd e.1 (by simp)))])
               go_wp2_with ((with_reducible refine gate_st 181 _ _ rfl ?_); refine st_R3 rfl _ _ rfl w.heap.size t30 t30 _ rfl rfl HR1.out.r ?_)
               refine bodyPost_ret (res_rowc_tmp (P := Tryz.prog) (T := 181) (T' := 181) (t := 3) rfl _ _ w.heap.size (tC t30) (0, 0) rfl (setRow_at HR1.out.r) Tryz.underlying181 rfl siz23) rfl ⟨?_, setRow_below HR1.out.bel (Nat.le_refl _) _⟩
               rw [HT.out.1, HT.out.2]; rfl
             case false.true =>
               cases TR with
               | nil =>
                 simp only [List.isEmpty_nil] at n2 m2
                 have HF2 : Hid (parseT s.data.toList = foldT ⟨TL, TS, p2.data.toList.map upB⟩ rs2) := by
                   show _ = _
                   rw [HF1.out, stepT, if_neg (fun e => (by rw [hns] at e; exact absurd e.1 (by simp))), if_pos ⟨hnr, rfl⟩]
                 clear hns hnr HF1
                 go_upto_region 14 with fail
                 have HR0 := HR1
                 go_wp2_with (go_at_call 133; (refine (HTu.out _).mono ?_); rintro e w5 ⟨rfl, hb5⟩; have HR5 := Lib.hid (HR0.out.below hb5); obtain ⟨k0, k1, k2, kf1, kf2⟩ := HR5.out.cells; clear hb5)
                 go_roundw
                 case rel => exact ⟨r2, more2, ⟨TL, TS, p2.data.toList.map upB⟩, rs2, rfl, rfl, hrs2, HM2.out, HF2.out, HR5.out.set2 _⟩
                 case measure =>
                   have := HMe.out
                   cases more2
                   · simp [ma]
                   · have := this rfl; simp [ma]; omega
               | cons c TR =>
                 simp only [List.isEmpty_cons] at n2 m2
                 have HT : Hid (pR s.data.toList = t30 ∧ pB s.data.toList = false) := HBad.out (by rw [HF1.out, stepT, if_neg (fun e => (by rw [hns] at e; exact absurd e.1 (by simp))), if_neg (fun e => absurd e.2 (by simp))])
                 go_wp2_with ((with_reducible refine gate_st 181 _ _ rfl ?_); refine st_R3 rfl _ _ rfl w.heap.size t30 t30 _ rfl rfl HR1.out.r ?_)
                 refine bodyPost_ret (res_rowc_tmp (P := Tryz.prog) (T := 181) (T' := 181) (t := 3) rfl _ _ w.heap.size (tC t30) (0, 0) rfl (setRow_at HR1.out.r) Tryz.underlying181 rfl siz23) rfl ⟨?_, setRow_below HR1.out.bel (Nat.le_refl _) _⟩
                 rw [HT.out.1, HT.out.2]; rfl
             case true.false =>
               cases TR with
               | cons c TR =>
                 simp only [List.isEmpty_cons] at n2 m2
                 cases TS with
                 | nil =>
                   simp only [List.isEmpty_nil] at n1 m1
                   have HT : Hid (pR s.data.toList = t30 ∧ pB s.data.toList = false) := HBad.out (by rw [HF1.out, stepT, if_neg (fun e => absurd e.2.2 (by simp)), if_neg (fun e => absurd e.2 (by simp))])
                   go_wp2_with ((with_reducible refine gate_st 181 _ _ rfl ?_); refine st_R3 rfl _ _ rfl w.heap.size t30 t30 _ rfl rfl HR1.out.r ?_)
                   refine bodyPost_ret (res_rowc_tmp (P := Tryz.prog) (T := 181) (T' := 181) (t := 3) rfl _ _ w.heap.size (tC t30) (0, 0) rfl (setRow_at HR1.out.r) Tryz.underlying181 rfl siz23) rfl ⟨?_, setRow_below HR1.out.bel (Nat.le_refl _) _⟩
                   rw [HT.out.1, HT.out.2]; rfl
                 | cons d TS =>
                   simp only [List.isEmpty_cons] at n1 m1
                   have HT : Hid (pR s.data.toList = t30 ∧ pB s.data.toList = false) := HBad.out (by rw [HF1.out, stepT, if_neg (fun e => absurd e.2.2 (by simp)), if_neg (fun e => absurd e.2 (by simp))])
                   go_wp2_with ((with_reducible refine gate_st 181 _ _ rfl ?_); refine st_R3 rfl _ _ rfl w.heap.size t30 t30 _ rfl rfl HR1.out.r ?_)
                   refine bodyPost_ret (res_rowc_tmp (P := Tryz.prog) (T := 181) (T' := 181) (t := 3) rfl _ _ w.heap.size (tC t30) (0, 0) rfl (setRow_at HR1.out.r) Tryz.underlying181 rfl siz23) rfl ⟨?_, setRow_below HR1.out.bel (Nat.le_refl _) _⟩
                   rw [HT.out.1, HT.out.2]; rfl
               | nil =>
                 simp only [List.isEmpty_nil] at n2 m2
                 cases TS with
                 | cons d TS =>
                   simp only [List.isEmpty_cons] at n1 m1
                   have HT : Hid (pR s.data.toList = t30 ∧ pB s.data.toList = false) := HBad.out (by rw [HF1.out, stepT, if_neg (fun e => absurd e.2.1 (by simp)), if_neg (fun e => (by rw [hnr] at e; exact absurd e.1 (by simp)))])
                   go_wp2_with ((with_reducible refine gate_st 181 _ _ rfl ?_); refine st_R3 rfl _ _ rfl w.heap.size t30 t30 _ rfl rfl HR1.out.r ?_)
                   refine bodyPost_ret (res_rowc_tmp (P := Tryz.prog) (T := 181) (T' := 181) (t := 3) rfl _ _ w.heap.size (tC t30) (0, 0) rfl (setRow_at HR1.out.r) Tryz.underlying181 rfl siz23) rfl ⟨?_, setRow_below HR1.out.bel (Nat.le_refl _) _⟩
                   rw [HT.out.1, HT.out.2]; rfl
                 | nil =>
                   simp only [List.isEmpty_nil] at n1 m1
                   have h4 : p2.size = 4 := by have := isScript_len hns; simpa using this
                   have HF2 : Hid (parseT s.data.toList = foldT ⟨TL, titleL p2.data.toList, []⟩ rs2) := by
                     show _ = _
                     rw [HF1.out, stepT, if_pos ⟨hns, rfl, rfl⟩]
                   have hx1 : (p2.extract 0 1).data.toList = p2.data.toList.take 1 := by rw [Lib.extract_data, List.drop_zero]
                   have hx2 : (p2.extract 1 p2.size).data.toList = p2.data.toList.drop 1 := by rw [Lib.extract_data, List.take_of_length_le (by simp)]
                   have HTa : Hid (∀ W : World, Calls Tryz.prog 133 #[.string (p2.extract 0 1), .bool true] W fun e w' => e = .returned (.string ⟨(turnL true (p2.data.toList.take 1)).toArray⟩) ∧ Below W.heap.size W w') := fun W => by have := turn_any (p2.extract 0 1) true W (by rw [ByteArray.size_extract]; omega); rwa [hx1] at this
                   have HTb : Hid (∀ W : World, Calls Tryz.prog 133 #[.string (p2.extract 1 p2.size), .bool false] W fun e w' => e = .returned (.string ⟨(turnL false (p2.data.toList.drop 1)).toArray⟩) ∧ Below W.heap.size W w') := fun W => by have := turn_any (p2.extract 1 p2.size) false W (by rw [ByteArray.size_extract]; omega); rwa [hx2] at this
                   have hl4 : p2.data.toList.length = 4 := by simpa using h4
                   have htl := turn_title (p := p2.data.toList) (by intro e; rw [e] at hl4; simp at hl4)
                   have hla : (turnL true (p2.data.toList.take 1)).length ≤ 10 := by simp [turnL]; omega
                   have hlb : (turnL false (p2.data.toList.drop 1)).length ≤ 10 := by simp [turnL]; omega
                   generalize turnL true (p2.data.toList.take 1) = ta at *
                   generalize turnL false (p2.data.toList.drop 1) = tb at *
                   have hcat : ∀ W, (binOp .add 9 (.string ⟨ta.toArray⟩) (.string ⟨tb.toArray⟩)).run Tryz.prog W = .ok (.string ⟨(titleL p2.data.toList).toArray⟩) W := fun W => by
                     rw [← htl]
                     exact catS5 _ _ (by omega) W
                   have hcc : (⟨ta.toArray⟩ : ByteArray) ++ ⟨tb.toArray⟩ = ⟨(titleL p2.data.toList).toArray⟩ := by rw [ba_add, htl]
                   have hzz : ¬ 9223372036854775807 < ta.length + tb.length := by omega
                   clear htl hla hlb
                   generalize titleL p2.data.toList = tt at *
                   have hz1 : (1 : Int) ≤ (p2.size : Int) := by omega
                   clear hns hnr HF1 h4 hx1 hx2 hl4
                   have HR0 := HR1
                   go_upto_region 12 with fail
                   refine wp_region_below_tail 8 (by kernel_rfl) (by kernel_rfl) ?_
                   simp only [List.take_succ_cons, List.take_zero, List.drop_succ_cons, List.drop_zero]
                   repeat (go_big_quiet_step (first | (with_reducible exact rg_call HTa.out _ _) | (with_reducible exact rg_call HTb.out _ _)))
                   refine wpQuiet_nil ?_
                   rintro _ ⟨⟨dq, osq⟩, rfl⟩
                   have HR5 := Lib.hid (HR0.out.below (below_regrown _ dq osq))
                   obtain ⟨k0, k1, k2, kf1, kf2⟩ := HR5.out.cells
                   clear hc0 hc1 hc2 hf1 hf2 HR1 HR0
                   generalize Sort.grow (redrawn _ dq) osq = w5 at *
                   go_wp2_with fail
                   go_roundw
                   case rel => exact ⟨r2, more2, ⟨TL, tt, []⟩, rs2, rfl, rfl, hrs2, HM2.out, HF2.out, HR5.out.set1 _⟩
                   case measure =>
                     have := HMe.out
                     cases more2
                     · simp [ma]
                     · have := this rfl; simp [ma]; omega
             case true.true => rw [scr_not_reg hns] at hnr; cases hnr
end Go.Proofs.YtbfefdedjcppaaaGreatDoor

/- The document's Of. -/
namespace Go.Proofs.YtbfefdedjcppaaaGreatDoor
set_option maxRecDepth 100000
set_option maxHeartbeats 8000000
open Go.RowKit
theorem eqIn3 (w : World) (a b : T3) : (Op.equalIn 10000 181 (.agg (tC a)) (.agg (tC b))).run Tryz.prog w = .ok (decide (a = b)) w := by
 rw [show (10000 : Nat) = 9999 + 1 from rfl, run_equalIn_struct w 9999 181 _ _ (by kernel_rfl) (by kernel_rfl)]
 have p0 : ∀ (x y z : Value) (w : World), (part 9 #[x, y, z] 0).run Tryz.prog w = .ok x w := fun _ _ _ _ => by kernel_rfl
 have p1 : ∀ (x y z : Value) (w : World), (part 9 #[x, y, z] 1).run Tryz.prog w = .ok y w := fun _ _ _ _ => by kernel_rfl
 have p2 : ∀ (x y z : Value) (w : World), (part 9 #[x, y, z] 2).run Tryz.prog w = .ok z w := fun _ _ _ _ => by kernel_rfl
 have q : ∀ (d : Nat) (x y : List UInt8) (w : World), (Op.equalIn (d + 1) 9 (.string ⟨x.toArray⟩) (.string ⟨y.toArray⟩)).run Tryz.prog w = .ok (x == y) w := fun d x y w => by
   rw [run_equalIn_string w d 9 _ _ Tryz.underlying9, ByteArray.toList_eq, ByteArray.toList_eq]
 have q1 := q 9998
 obtain ⟨a1, a2, a3⟩ := a
 obtain ⟨b1, b2, b3⟩ := b
 have hb : decide (({ lang := a1, script := a2, region := a3 } : T3) = { lang := b1, script := b2, region := b3 }) = ((a1 == b1) && ((a2 == b2) && (a3 == b3))) := by
   rw [Bool.eq_iff_iff]; simp
 rw [hb]
 have r1 := q1 a1 b1
 have r2 := q1 a2 b2
 have r3 := q1 a3 b3
 generalize (a1 == b1) = c1 at *
 generalize (a2 == b2) = c2 at *
 generalize (a3 == b3) = c3 at *
 simp only [Program.fieldsOf, Tryz.underlying181, Op.eqFields, tC]
 simp [p0, p1, p2, r1, r2, r3]
 cases c1 <;> cases c2 <;> cases c3 <;> simp
theorem eql3 (w : World) (a b : T3) : (binOp .eql 181 (.agg (tC a)) (.agg (tC b))).run Tryz.prog w = .ok (.bool (decide (a = b))) w := by
 rw [run_eql_struct, eqIn3 w a b]; rfl
theorem neq3 (w : World) (a b : T3) : (binOp .neq 181 (.agg (tC a)) (.agg (tC b))).run Tryz.prog w = .ok (.bool (!decide (a = b))) w := by
 rw [run_neq_struct, eqIn3 w a b]; rfl
theorem build3A (t : T3) (w : World) : (Instr.build 181 #[(0, .string ⟨t.lang.toArray⟩), (1, .string ⟨t.script.toArray⟩), (2, .string ⟨t.region.toArray⟩)]).run Tryz.prog w = .ok (.agg (tC t)) w := run_build w _ _ _ (by kernel_rfl)
theorem takeD {P : Program} {md : Region.Mode} {ops : Array Oper} {Q : Exit → Act → World → Prop} {S : World → Prop} {i : Nat} {oi : Oper} {v : Value} {fuel : Nat} {listed : Array Bool} {a : Act} {w : World} (d : Nat) (hi : ops[i]? = some oi) (hd : oi.dst = some d)
   (hs : Region.noSelect ops = true) (hf : Region.free md ops listed i = true) (hr : (Region.ready md ops listed).contains i = true)
   (hQ : ∀ c a w, Q (.panic c) (a.put (some d) v) w → Q (.panic c) a w) (hy : YieldsIf P ops S oi v a) (hS : S w)
   (h : wpAnyH P md ops Q S fuel (listed.setIfInBounds i true) (a.put (some d) v) w) : wpAnyH P md ops Q S (fuel + 1) listed a w :=
 wpAnyH_take hi hs hf hr (by rw [hd]; exact hQ) hy hS (by rw [hd]; exact h)
theorem stI {P : Program} {ops : Array Oper} {o : Oper} {a : Act} {w : World} {K : Act → World → Prop} {Q : Exit → Act → World → Prop} {E : Prop} (hg : o.guard = none) (h : o.wp P a w K Q) : if Region.wanted o (yielded ops a.tmps) = true then o.wp P a w K Q else E := by
 rw [if_pos (by unfold Region.wanted; rw [hg])]; exact h
section
variable {o : Oper} {a : Act} {w : World}
theorem y_bd3 (ho : o.op = .build 181 #[]) : (execOp a.eval o).run Tryz.prog w = .ok (.value (.agg (tC t30))) w := by
 have := build30 w
 unfold execOp
 simp only [ho, Sem.run_bind, List.map_toArray, List.map_nil, this, Result.andThen_ok, Sem.run_pure]
theorem y_ld3 (x : Operand) (ho : o.op = .load 181 x) (g : Nat) (t : T3) (hx : a.eval x = .pointer (some ⟨g, 0, none⟩)) (hg : w.heap[g]? = some (.cells (tC t) 181 (0, 0))) : (execOp a.eval o).run Tryz.prog w = .ok (.value (.agg (tC t))) w := by
 have := run_loadAt_mid (P := Tryz.prog) _ g 0 181 (tC t).toList _ (range_whole (by simpa using hg)) Tryz.underlying181 rfl siz23
 unfold execOp
 simp only [ho, hx, Sem.run_bind, this, Result.andThen_ok, Sem.run_pure]
theorem y_eq3 (x y : Operand) (ho : o.op = .binOp .eql 181 x y 181) (t u : T3) (hx : a.eval x = .agg (tC t)) (hy : a.eval y = .agg (tC u)) : (execOp a.eval o).run Tryz.prog w = .ok (.value (.bool (decide (t = u)))) w := by
 have := eql3 w t u
 have hgd : (eqGuard .eql 181 x y (.agg (tC t)) (.agg (tC u))).run Tryz.prog w = .ok () w := run_eqGuard_agg w .eql 181 x y _ _ (by kernel_rfl)
 unfold execOp
 simp [ho, hx, hy, this, hgd]
end
def oR (b : List UInt8) : T3 := (ofT b).getD t30
def oB (b : List UInt8) : Bool := (ofT b).isSome
theorem fT_small {b : List UInt8} (h : b.length = 10) : (fT b).lang.length ≤ 3 ∧ (fT b).script.length ≤ 4 ∧ (fT b).region.length ≤ 3 := by
 have h1 := frontZ_le (b.take 3)
 have h2 := frontZ_le ((b.drop 3).take 4)
 have h3 := frontZ_le (b.drop 7)
 simp at h1 h2 h3
 exact ⟨by show (frontZ _).length ≤ _; omega, by show (frontZ _).length ≤ _; omega, by show (frontZ _).length ≤ _; omega⟩
theorem refOf5_any (b : List UInt8) (w : World) (hb : b.length = 10) :
   Calls Tryz.prog 114 #[.agg (bC b)] w fun e w' => e = .returned (.tuple #[.agg (tC (oR b)), .bool (oB b)]) ∧ Below w.heap.size w w' := by
 have HG0 : Hid (((w.alloc (.cells (bC b) 40)).alloc (.cells (tC t30) 181)).heap[w.heap.size]? = some (.cells (bC b) 40 (0, 0))) := heap_alloc2_old _ _ _
 have HG1 : Hid (((w.alloc (.cells (bC b) 40)).alloc (.cells (tC t30) 181)).heap[w.heap.size + 1]? = some (.cells (tC t30) 181 (0, 0))) := heap_alloc2_new _ _ _
 have HB1 : Hid (Below w.heap.size w ((w.alloc (.cells (bC b) 40)).alloc (.cells (tC t30) 181))) := below_alloc2 _ _ _
 have HSm := Lib.hid (fT_small hb)
 have H10 := Lib.hid hb
 have hb30 := build30
 have hbA := build3A (fT b)
 have HO : Hid (ofT b = if (fT b).lang = [] then (if (fT b) = ⟨[], [], []⟩ then some ⟨[], [], []⟩ else none) else match parseT (textT (fT b)) with | some x => if x = fT b then some (fT b) else none | none => none) := rfl
 clear hb
 go_enter Tryz.func114, Tryz.ntmps114
 go_upto_region 1 with fail
 rw [show (Obj.cells #[Value.string ⟨#[]⟩, Value.string ⟨#[]⟩, Value.string ⟨#[]⟩] 181) = Obj.cells (tC t30) 181 from rfl]
 generalize (w.alloc (.cells (bC b) 40)).alloc (.cells (tC t30) 181) = W1 at *
 have HR0 : Hid (W1.rangeAt w.heap.size 0 (bC b).toList) := range_whole (by simpa using HG0.out)
 have hlt : w.heap.size < W1.heap.size := lt_heap HG0.out
 have HFr : Hid (∀ (s n cap : Nat) (W : World), s + n ≤ 10 → n ≤ cap → Below W1.heap.size W1 W → Calls Tryz.prog 141 #[.slice (some ⟨w.heap.size, s, none⟩) n cap] W fun e w' => e = .returned (.string ⟨(frontZ ((b.drop s).take n)).toArray⟩) ∧ W = w') := fun s n cap W hs hc hW => by
   have hr := range_sub (range_of_block HR0.out (hW.block _ hlt)) s n
   rw [Nat.zero_add] at hr
   have := H10.out
   exact refFront_any w.heap.size s n cap _ W (by simp; omega) (by omega) hc hr
 clear HR0
 have e7 : (b.drop 7).take 3 = b.drop 7 := List.take_of_length_le (by rw [List.length_drop, H10.out]; omega)
 have Ha := Lib.hid (HFr.out 0 3 10)
 have Hb := Lib.hid (HFr.out 3 4 7)
 have Hc := Lib.hid (HFr.out 7 3 3)
 rw [e7] at Hc
 simp only [List.drop_zero] at Ha
 clear e7 HFr
 have hfl : frontZ (b.take 3) = (fT b).lang := rfl
 have hfs : frontZ ((b.drop 3).take 4) = (fT b).script := rfl
 have hfr : frontZ (b.drop 7) = (fT b).region := rfl
 rw [hfl] at Ha; rw [hfs] at Hb; rw [hfr] at Hc
 clear hfl hfs hfr
 generalize fT b = t at *
 go_cut [4] (fun s4 wx => ∃ g, s4 = .pointer (some ⟨g, 0, none⟩) ∧ Hid (Below W1.heap.size W1 wx ∧ W1.heap.size ≤ g ∧ wx.heap[g]? = some (.cells (tC t) 181 (0, 0))))
 case first =>
   go_region_held3 (fun w' => Below W1.heap.size W1 w') (first | exact (Below.refl _ _).drew | exact ((Below.refl _ _).alloc (Nat.le_refl _) _).drew) ((first
     | (go_at_call_of 141 (Value.slice (some ⟨w.heap.size, 0, none⟩) 3 10); (refine (Ha.out _ (by omega) (by omega) (by first | exact (Below.refl _ _).drew | exact ((Below.refl _ _).alloc (Nat.le_refl _) _).drew)).mono ?_); rintro e w' ⟨rfl, rfl⟩)
     | (go_at_call_of 141 (Value.slice (some ⟨w.heap.size, 3, none⟩) 4 7); (refine (Hb.out _ (by omega) (by omega) (by first | exact (Below.refl _ _).drew | exact ((Below.refl _ _).alloc (Nat.le_refl _) _).drew)).mono ?_); rintro e w' ⟨rfl, rfl⟩)
     | (go_at_call_of 141 (Value.slice (some ⟨w.heap.size, 7, none⟩) 3 3); (refine (Hc.out _ (by omega) (by omega) (by first | exact (Below.refl _ _).drew | exact ((Below.refl _ _).alloc (Nat.le_refl _) _).drew)).mono ?_); rintro e w' ⟨rfl, rfl⟩)))
   all_goals (go_wp2_with fail; go_meet; exact ⟨_, rfl, ((Below.refl _ _).alloc (Nat.le_refl _) _).drew, Nat.le_refl _, heap_alloc_new W1 _⟩)
 case rest =>
   obtain ⟨g, rfl, HC⟩ := hcut
   clear Ha Hb Hc
   have HG2 : Hid (wc.heap[w.heap.size + 1]? = some (.cells (tC t30) 181 (0, 0))) := by show _ = _; rw [HC.out.1.block _ (lt_heap HG1.out)]; exact HG1.out
   have HB2 := Lib.hid (HB1.out.trans (HC.out.1.mono HB1.out.size))
   have HGt := Lib.hid HC.out.2.2
   have hc0 : wc.cell? ⟨g, 0, none⟩ = some (.string ⟨t.lang.toArray⟩) := by rw [cell_blk HC.out.2.2]; rfl
   have hgt : g < wc.heap.size := lt_heap HC.out.2.2
   have hne : g ≠ w.heap.size + 1 := by have h1 := HC.out.2.1; have h2 := lt_heap HG1.out; omega
   clear HC HG1 HG0 HB1 hlt
   have e0 := fun W => eqE5 t.lang W
   have m0 := emp5 t.lang
   by_cases hl : t.lang = []
   case pos =>
     have HOo : Hid (oR b = t30 ∧ oB b = decide (t = t30)) := by
       show _ ∧ _
       rw [oR, oB, HO.out, if_pos hl, show (⟨[], [], []⟩ : T3) = t30 from rfl]
       by_cases ht : t = t30
       · rw [if_pos ht, decide_eq_true ht]; exact ⟨rfl, rfl⟩
       · rw [if_neg ht, decide_eq_false ht]; exact ⟨rfl, rfl⟩
     rw [hl] at e0 m0
     rw [hl] at hc0
     simp only [List.isEmpty_nil] at e0 m0
     have he3 := fun W => eql3 W t t30
     clear hl HO
     go_upto_region 3 with fail
     refine wp_region_held_drew (S := fun w' => w'.heap[g]? = some (.cells (tC t) 181 (0, 0)) ∧ w'.heap[w.heap.size + 1]? = some (.cells (tC t30) 181 (0, 0)) ∧ Below w.heap.size w w') (by kernel_rfl) ⟨HGt.out, HG2.out, HB2.out.drew⟩ (fun hH => ?_)
     show wpAnyH Tryz.prog Region.Mode.any _ _ _ 6 #[false, false, false, false, false, false] _ _
     refine takeD (i := 0) (v := .agg (tC t30)) 17 rfl rfl (by kernel_rfl) (by kernel_rfl) (by kernel_rfl) (fun _ _ _ h => h) (Or.inl ⟨rfl, fun w' hS => (by exact y_bd3 rfl)⟩) hH ?_
     simp only [Act.put, wrT]
     refine takeD (i := 1) (v := .agg (tC t)) 18 rfl rfl (by kernel_rfl) (by kernel_rfl) (by kernel_rfl) (fun _ _ _ h => h) (Or.inl ⟨rfl, fun w' hS => (by exact y_ld3 _ (by rfl) g t (by rfl) hS.1)⟩) hH ?_
     simp only [Act.put, wrT]
     refine takeD (i := 2) (v := .agg (tC t30)) 19 rfl rfl (by kernel_rfl) (by kernel_rfl) (by kernel_rfl) (fun _ _ _ h => h) (Or.inl ⟨rfl, fun w' hS => (by exact y_bd3 rfl)⟩) hH ?_
     simp only [Act.put, wrT]
     refine takeD (i := 3) (v := .bool (decide (t = t30))) 20 rfl rfl (by kernel_rfl) (by kernel_rfl) (by kernel_rfl) (fun _ _ _ h => h) (Or.inl ⟨rfl, fun w' hS => (by exact y_eq3 _ _ (by rfl) t t30 (by rfl) (by rfl))⟩) hH ?_
     simp only [Act.put, wrT]
     refine wpAnyH_ready (rs := [4]) (by kernel_rfl) (by simp) ?_
     refine AllReadyH.cons rfl (fun K hK => ?_) AllReadyH.nil
     refine stI rfl (wp_store_row 181 _ _ (by rfl) (w.heap.size + 1) (tC t30) (by rfl) (by rfl) 181 (tC t30) hH.2.1 siz23 rfl (tC_one _) ?_)
     refine hK.out (.put _ none undef) _ ⟨by rw [setRow_other _ _ _ _ hne]; exact hH.1, setRow_at hH.2.1, setRow_below hH.2.2 (by omega) _⟩ (fun hH => ?_)
     clear hK K
     simp only [Act.put, wrT]
     refine takeD (i := 5) (v := .bool (decide (t = t30))) 3 rfl rfl (by kernel_rfl) (by kernel_rfl) (by kernel_rfl) (fun _ _ _ h => h) (Or.inl ⟨rfl, fun w' hS => rfl⟩) hH ?_
     simp only [Act.put, wrT]
     refine ⟨by kernel_rfl, ?_⟩
     have HH := Lib.hid hH
     clear hH
     generalize wc.drew.setRow (w.heap.size + 1) (tC t30) = wz at *
     go_wp2_with fail
     refine bodyPost_ret (res_rowc_tmp (P := Tryz.prog) (T := 181) (T' := 181) (t := 3) rfl _ _ (w.heap.size + 1) (tC t30) (0, 0) rfl HH.out.2.1 Tryz.underlying181 rfl siz23) rfl ⟨?_, HH.out.2.2⟩
     rw [HOo.out.1, HOo.out.2]; rfl
   case neg =>
     have hle : t.lang.isEmpty = false := by cases h : t.lang with | nil => exact absurd h hl | cons c l => rfl
     rw [hle] at e0 m0
     have htx : text5 t = textT t := by rw [text5, if_neg hl]
     have hsl : (textT t).length ≤ 32 := by
       obtain ⟨h1, h2, h3⟩ := HSm.out
       unfold textT dash
       split <;> split <;> simp <;> omega
     have HTx : Hid (∀ W : World, Calls Tryz.prog 103 #[.agg (tC t)] W fun e w' => e = .returned (.string ⟨(textT t).toArray⟩) ∧ Below W.heap.size W w') := fun W => by
       obtain ⟨h1, h2, h3⟩ := HSm.out
       have := text_any5 t W (by omega) (by omega) (by omega)
       rwa [htx] at this
     have HPx : Hid (∀ W : World, Calls Tryz.prog 102 #[.string ⟨(textT t).toArray⟩] W fun e w' => e = .returned (.tuple #[.agg (tC (pR (textT t))), .bool (pB (textT t))]) ∧ Below W.heap.size W w') := fun W => refParse5_any ⟨(textT t).toArray⟩ W (by rw [ba_size]; omega)
     have HOo : Hid (oR b = (if pB (textT t) && decide (pR (textT t) = t) then t else t30) ∧ oB b = (pB (textT t) && decide (pR (textT t) = t))) := by
       show _ ∧ _
       rw [oR, oB, HO.out, if_neg hl, pB, pR]
       cases parseT (textT t) with
       | none => exact ⟨rfl, rfl⟩
       | some x =>
         by_cases hx : x = t
         · subst hx; simp
         · simp [hx]
     clear hl htx hsl HO HSm hbA
     have hn3 := fun W => neq3 W (pR (textT t)) t
     generalize pR (textT t) = px at *
     generalize pB (textT t) = pb at *
     generalize (⟨(textT t).toArray⟩ : ByteArray) = tx at *
     cases pb
     case false =>
       simp only [Bool.false_and, Bool.false_eq_true, if_false] at HOo
       go_wp2_with (first
         | (with_reducible refine ld_R3 rfl _ rfl g t rfl HGt.out ?_)
         | (go_at_call 103; (refine (HTx.out _).mono ?_); rintro e w5 ⟨rfl, hb5⟩; have HB5 := Lib.hid (HB2.out.trans (hb5.mono HB2.out.size)); have HG5 : Hid (w5.heap[w.heap.size + 1]? = some (.cells (tC t30) 181 (0, 0))) := (by (show _ = _; rw [hb5.block _ (lt_heap HG2.out)]; exact HG2.out)); have HT5 : Hid (w5.heap[g]? = some (.cells (tC t) 181 (0, 0))) := (by (show _ = _; rw [hb5.block _ hgt]; exact HGt.out)); clear hb5)
         | (go_at_call 102; (refine (HPx.out _).mono ?_); rintro e w6 ⟨rfl, hb6⟩; have HB6 := Lib.hid (HB5.out.trans (hb6.mono HB5.out.size)); have HG6 : Hid ((w6.alloc (.cells (tC px) 181)).heap[w.heap.size + 1]? = some (.cells (tC t30) 181 (0, 0))) := (by (show _ = _; rw [heap_alloc_old _ _ (Nat.lt_of_lt_of_le (lt_heap HG5.out) hb6.size), hb6.block _ (lt_heap HG5.out)]; exact HG5.out)); have HT6 : Hid ((w6.alloc (.cells (tC px) 181)).heap[g]? = some (.cells (tC t) 181 (0, 0))) := (by (show _ = _; rw [heap_alloc_old _ _ (Nat.lt_of_lt_of_le (lt_heap HT5.out) hb6.size), hb6.block _ (lt_heap HT5.out)]; exact HT5.out)); clear hb6)
         | (with_reducible refine ld_R3 rfl _ rfl w6.heap.size px rfl (heap_alloc_new _ _) ?_)
         | (with_reducible refine ld_R3 rfl _ rfl g t rfl HT6.out ?_)
         | ((with_reducible refine gate_st 181 _ _ rfl ?_); first
             | (refine wl_strn rfl 181 _ _ rfl (tC px) (tC t30) _ siz23 rfl (tC_one _) rfl rfl ?_)
             | (refine st_R3 rfl _ _ rfl (w.heap.size + 1) t30 t30 _ rfl rfl HG6.out ?_)))
       refine bodyPost_ret (res_rowc_tmp (P := Tryz.prog) (T := 181) (T' := 181) (t := 3) rfl _ _ (w.heap.size + 1) (tC t30) (0, 0) rfl (setRow_at HG6.out) Tryz.underlying181 rfl siz23) rfl ⟨?_, setRow_below (HB6.out.alloc HB6.out.size _) (by omega) _⟩
       rw [HOo.out.1, HOo.out.2]; rfl
     case true =>
       cases hpt : decide (px = t)
       case false =>
         rw [hpt] at HOo hn3
         clear hpt
         simp only [Bool.and_false, Bool.false_eq_true, if_false] at HOo
         go_wp2_with (first
           | (with_reducible refine ld_R3 rfl _ rfl g t rfl HGt.out ?_)
           | (go_at_call 103; (refine (HTx.out _).mono ?_); rintro e w5 ⟨rfl, hb5⟩; have HB5 := Lib.hid (HB2.out.trans (hb5.mono HB2.out.size)); have HG5 : Hid (w5.heap[w.heap.size + 1]? = some (.cells (tC t30) 181 (0, 0))) := (by (show _ = _; rw [hb5.block _ (lt_heap HG2.out)]; exact HG2.out)); have HT5 : Hid (w5.heap[g]? = some (.cells (tC t) 181 (0, 0))) := (by (show _ = _; rw [hb5.block _ hgt]; exact HGt.out)); clear hb5)
           | (go_at_call 102; (refine (HPx.out _).mono ?_); rintro e w6 ⟨rfl, hb6⟩; have HB6 := Lib.hid (HB5.out.trans (hb6.mono HB5.out.size)); have HG6 : Hid ((w6.alloc (.cells (tC px) 181)).heap[w.heap.size + 1]? = some (.cells (tC t30) 181 (0, 0))) := (by (show _ = _; rw [heap_alloc_old _ _ (Nat.lt_of_lt_of_le (lt_heap HG5.out) hb6.size), hb6.block _ (lt_heap HG5.out)]; exact HG5.out)); have HT6 : Hid ((w6.alloc (.cells (tC px) 181)).heap[g]? = some (.cells (tC t) 181 (0, 0))) := (by (show _ = _; rw [heap_alloc_old _ _ (Nat.lt_of_lt_of_le (lt_heap HT5.out) hb6.size), hb6.block _ (lt_heap HT5.out)]; exact HT5.out)); clear hb6)
           | (with_reducible refine ld_R3 rfl _ rfl w6.heap.size px rfl (heap_alloc_new _ _) ?_)
           | (with_reducible refine ld_R3 rfl _ rfl g t rfl HT6.out ?_)
           | ((with_reducible refine gate_st 181 _ _ rfl ?_); first
               | (refine wl_strn rfl 181 _ _ rfl (tC px) (tC t30) _ siz23 rfl (tC_one _) rfl rfl ?_)
               | (refine st_R3 rfl _ _ rfl (w.heap.size + 1) t30 t30 _ rfl rfl HG6.out ?_)))
         refine bodyPost_ret (res_rowc_tmp (P := Tryz.prog) (T := 181) (T' := 181) (t := 3) rfl _ _ (w.heap.size + 1) (tC t30) (0, 0) rfl (setRow_at HG6.out) Tryz.underlying181 rfl siz23) rfl ⟨?_, setRow_below (HB6.out.alloc HB6.out.size _) (by omega) _⟩
         rw [HOo.out.1, HOo.out.2]; rfl
       case true =>
         rw [hpt] at HOo hn3
         clear hpt
         simp only [Bool.and_self, if_true] at HOo
         go_wp2_with (first
           | (with_reducible refine ld_R3 rfl _ rfl g t rfl HGt.out ?_)
           | (go_at_call 103; (refine (HTx.out _).mono ?_); rintro e w5 ⟨rfl, hb5⟩; have HB5 := Lib.hid (HB2.out.trans (hb5.mono HB2.out.size)); have HG5 : Hid (w5.heap[w.heap.size + 1]? = some (.cells (tC t30) 181 (0, 0))) := (by (show _ = _; rw [hb5.block _ (lt_heap HG2.out)]; exact HG2.out)); have HT5 : Hid (w5.heap[g]? = some (.cells (tC t) 181 (0, 0))) := (by (show _ = _; rw [hb5.block _ hgt]; exact HGt.out)); clear hb5)
           | (go_at_call 102; (refine (HPx.out _).mono ?_); rintro e w6 ⟨rfl, hb6⟩; have HB6 := Lib.hid (HB5.out.trans (hb6.mono HB5.out.size)); have HG6 : Hid ((w6.alloc (.cells (tC px) 181)).heap[w.heap.size + 1]? = some (.cells (tC t30) 181 (0, 0))) := (by (show _ = _; rw [heap_alloc_old _ _ (Nat.lt_of_lt_of_le (lt_heap HG5.out) hb6.size), hb6.block _ (lt_heap HG5.out)]; exact HG5.out)); have HT6 : Hid ((w6.alloc (.cells (tC px) 181)).heap[g]? = some (.cells (tC t) 181 (0, 0))) := (by (show _ = _; rw [heap_alloc_old _ _ (Nat.lt_of_lt_of_le (lt_heap HT5.out) hb6.size), hb6.block _ (lt_heap HT5.out)]; exact HT5.out)); clear hb6)
           | (with_reducible refine ld_R3 rfl _ rfl w6.heap.size px rfl (heap_alloc_new _ _) ?_)
           | (with_reducible refine ld_R3 rfl _ rfl g t rfl HT6.out ?_)
           | ((with_reducible refine gate_st 181 _ _ rfl ?_); first
               | (refine wl_strn rfl 181 _ _ rfl (tC px) (tC t30) _ siz23 rfl (tC_one _) rfl rfl ?_)
               | (refine st_R3 rfl _ _ rfl (w.heap.size + 1) t t30 _ rfl rfl HG6.out ?_)))
         refine bodyPost_ret (res_rowc_tmp (P := Tryz.prog) (T := 181) (T' := 181) (t := 3) rfl _ _ (w.heap.size + 1) (tC t) (0, 0) rfl (setRow_at HG6.out) Tryz.underlying181 rfl siz23) rfl ⟨?_, setRow_below (HB6.out.alloc HB6.out.size _) (by omega) _⟩
         rw [HOo.out.1, HOo.out.2]; rfl
end Go.Proofs.YtbfefdedjcppaaaGreatDoor

/- The document's pad. -/
namespace Go.Proofs.YtbfefdedjcppaaaGreatDoor
open Go.RowKit
end Go.Proofs.YtbfefdedjcppaaaGreatDoor

/- The document's Bytes. -/
namespace Go.Proofs.YtbfefdedjcppaaaGreatDoor
open Go.RowKit
theorem own_bytes (w : World) (l : List UInt8) (n : Nat) (base : Nat) (hn : l.length = n) (hb : base ≤ w.heap.size) (hm : n ≤ 1000000) : OwnE enc1 5 1 (w.alloc (.cells (bC l) 5)) base (.slice (some ⟨w.heap.size, 0, none⟩) n n) l := by
 subst hn
 have hm : l.length ≤ maxLen := by unfold maxLen; omega
 refine ⟨by rw [enc1_flat]; simp [bC], Or.inr ⟨w.heap.size, l.length, bC l, rfl, hb, heap_alloc_new _ _, Nat.le_refl _, hm, by simp [bC], ?_⟩⟩
 rw [enc1_flat]
 simp only [bC, List.toList_toArray]
 exact List.take_of_length_le (by simp)
end Go.Proofs.YtbfefdedjcppaaaGreatDoor

/- Canonical tags, their parents and chains. Plain. -/
namespace Go.Proofs.YtbfefdedjcppaaaGreatDoor
structure canT (t : T3) : Prop where
 l : ∃ p, isLang p = true ∧ t.lang = p.map loB
 s : t.script = [] ∨ ∃ a, isScript a = true ∧ t.script = titleL a
 r : t.region = [] ∨ ∃ a, isRegion a = true ∧ t.region = a.map upB
theorem isLang_lo {p : List UInt8} (h : isLang p = true) : isLang (p.map loB) = true := by
 unfold isLang at *
 simp only [List.length_map, List.all_map, Bool.and_eq_true] at *
 refine ⟨h.1, ?_⟩
 rw [List.all_eq_true] at *
 intro c hc
 rw [Function.comp, lt_lo]; exact h.2 c hc
theorem isScript_title {a : List UInt8} (h : isScript a = true) : isScript (titleL a) = true := by
 unfold isScript at *
 simp only [Bool.and_eq_true, decide_eq_true_eq] at *
 refine ⟨by rw [titleL_len]; exact h.1, ?_⟩
 rw [List.all_eq_true]
 exact title_mem h.2
theorem isRegion_up {a : List UInt8} (h : isRegion a = true) : isRegion (a.map upB) = true := by
 unfold isRegion at *
 simp only [List.length_map, List.all_map, Bool.or_eq_true, Bool.and_eq_true, decide_eq_true_eq] at *
 have e1 : (ltB ∘ upB) = ltB := funext fun c => lt_up c
 have e2 : (dgB ∘ upB) = dgB := funext fun c => dg_up c
 rw [e1, e2]; exact h
theorem canT.ok {t : T3} (h : canT t) : t.ok := by
 obtain ⟨⟨p, hp, el⟩, hs, hr⟩ := h
 have hl := isLang_lo hp
 rw [← el] at hl
 simp only [isLang, Bool.and_eq_true, decide_eq_true_eq, List.all_eq_true] at hl
 refine ⟨hl.1.2, ?_, ?_, fun c hc => lt_ne c (hl.2 c hc), ?_, ?_⟩
 · rcases hs with e | ⟨a, ha, e⟩
   · rw [e]; simp
   · rw [e, titleL_len, isScript_len ha]; omega
 · rcases hr with e | ⟨a, ha, e⟩
   · rw [e]; simp
   · rw [e, List.length_map]; rcases isRegion_len ha with h | h <;> omega
 · rcases hs with e | ⟨a, ha, e⟩
   · rw [e]; simp
   · rw [e]
     intro c hc
     have := isScript_title ha
     simp only [isScript, Bool.and_eq_true, List.all_eq_true] at this
     exact lt_ne c (this.2 c hc)
 · rcases hr with e | ⟨a, ha, e⟩
   · rw [e]; simp
   · rw [e]
     intro c hc
     have := isRegion_up ha
     simp only [isRegion, Bool.or_eq_true, Bool.and_eq_true, List.all_eq_true] at this
     rcases this with h | h
     · exact lt_ne c (h.2 c hc)
     · exact dg_ne c (h.2 c hc)
def z3 : List UInt8 := [0, 0, 0]
def z4 : List UInt8 := [0, 0, 0, 0]
end Go.Proofs.YtbfefdedjcppaaaGreatDoor

/- How a tag comes in; the library's variable. -/
namespace Go.Proofs.YtbfefdedjcppaaaGreatDoor
open Go.ChangeShapes Go.WideShapes Go.ChangeAt Go.RowKit Go.Deep
theorem mx_of_shape {w : World} (h : w.ShapedOpen Tryz.prog) : MX w :=
 cell_of_shapedOpen_int (g := 0) (t := 3) (zero := #[.int .i64 0]) h (of_decide_eq_true (by kernel_rfl)) (by kernel_rfl) rfl (by kernel_rfl) (by kernel_rfl) Tryz.underlying3
end Go.Proofs.YtbfefdedjcppaaaGreatDoor
