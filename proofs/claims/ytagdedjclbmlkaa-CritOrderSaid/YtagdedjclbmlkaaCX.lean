/- Texts joined: CX. -/

/- A tree of bits over keys of 25 bytes: what it holds, in order; put, delete, the bits on a path. No program. -/
namespace Go.Proofs.Ytagdedjclbmlkaa

def bitOf (b : List UInt8) (i : Nat) : Bool := (b.getD (i / 8) 0).toNat.testBit (7 - i % 8)
/-- A tree in memory: each node's block, and what it says. -/
inductive T where
  | leaf (a : Nat) (k : List UInt8) (v : Int)
  | fork (a : Nat) (b : Nat) (l r : T)
namespace T
def all : T → List (List UInt8 × Int)
  | leaf _ k v => [(k, v)]
  | fork _ _ l r => l.all ++ r.all
def keys (t : T) : List (List UInt8) := t.all.map (·.1)
def addr : T → Nat
  | leaf a _ _ => a
  | fork a _ _ _ => a
def addrs : T → List Nat
  | leaf a _ _ => [a]
  | fork a _ l r => a :: (l.addrs ++ r.addrs)
theorem keys_leaf (a k v) : (leaf a k v).keys = [k] := rfl
theorem keys_fork (a b l r) : (fork a b l r).keys = l.keys ++ r.keys := by simp [keys, all]
/-- The leaf to which a key's bits lead. -/
def near (k : List UInt8) : T → Nat × List UInt8 × Int
  | leaf a x v => (a, x, v)
  | fork _ b l r => if bitOf k b then near k r else near k l
def WF : T → Prop
  | leaf _ k _ => k.length = 25
  | fork _ b l r => b < 200 ∧ l.WF ∧ r.WF ∧ (∀ x ∈ l.keys, bitOf x b = false) ∧ (∀ x ∈ r.keys, bitOf x b = true) ∧
      (∀ x ∈ l.keys ++ r.keys, ∀ y ∈ l.keys ++ r.keys, ∀ i, i < b → bitOf x i = bitOf y i)
theorem near_mem (k : List UInt8) : ∀ t : T, ((near k t).2.1, (near k t).2.2) ∈ t.all
  | leaf _ _ _ => by simp [near, all]
  | fork _ b l r => by
    unfold near all
    rw [List.mem_append]
    split
    · exact .inr (near_mem k r)
    · exact .inl (near_mem k l)
theorem near_key (k : List UInt8) (t : T) : (near k t).2.1 ∈ t.keys := List.mem_map.2 ⟨_, near_mem k t, rfl⟩
theorem WF.len : ∀ {t : T}, t.WF → ∀ x ∈ t.keys, x.length = 25
  | leaf _ k v, h, x, hx => by rw [keys_leaf, List.mem_singleton] at hx; rw [hx]; exact h
  | fork _ b l r, h, x, hx => by
    rw [keys_fork, List.mem_append] at hx
    exact hx.elim (WF.len h.2.1 x) (WF.len h.2.2.1 x)
theorem near_of_mem : ∀ {t : T}, t.WF → ∀ {k}, k ∈ t.keys → (near k t).2.1 = k
  | leaf _ x v, _, k, hk => by rw [keys_leaf, List.mem_singleton] at hk; exact hk.symm
  | fork _ b l r, h, k, hk => by
    obtain ⟨_, hl, hr, h0, h1, _⟩ := h
    rw [keys_fork, List.mem_append] at hk
    unfold near
    rcases hk with hk | hk
    · rw [h0 k hk]; exact near_of_mem hl hk
    · rw [h1 k hk]; exact near_of_mem hr hk
theorem mem_iff {t : T} (h : t.WF) (k : List UInt8) : k ∈ t.keys ↔ (near k t).2.1 = k := ⟨near_of_mem h, fun e => by rw [← e]; exact near_key k t⟩
end T

/-! ### Bits and bytes -/
theorem bit_byte {x y : List UInt8} {q : Nat} (h : ∀ j, j < 8 → bitOf x (8 * q + j) = bitOf y (8 * q + j)) : x.getD q 0 = y.getD q 0 := by
  apply UInt8.toNat_inj.1
  apply Nat.eq_of_testBit_eq
  intro i
  by_cases hi : i < 8
  · have := h (7 - i) (by omega)
    unfold bitOf at this
    rw [show (8 * q + (7 - i)) / 8 = q by omega, show 7 - (8 * q + (7 - i)) % 8 = i by omega] at this
    exact this
  · rw [Nat.testBit_lt_two_pow, Nat.testBit_lt_two_pow]
    · exact Nat.lt_of_lt_of_le (UInt8.toNat_lt _) (Nat.pow_le_pow_right (by omega) (by omega : 8 ≤ i))
    · exact Nat.lt_of_lt_of_le (UInt8.toNat_lt _) (Nat.pow_le_pow_right (by omega) (by omega : 8 ≤ i))
theorem eq_of_bits {x y : List UInt8} (hx : x.length = 25) (hy : y.length = 25) (h : ∀ i, i < 200 → bitOf x i = bitOf y i) : x = y := by
  apply List.ext_getElem (by omega)
  intro q h1 h2
  have := bit_byte (x := x) (y := y) (q := q) (fun j hj => h _ (by omega))
  rw [List.getD_eq_getElem?_getD, List.getD_eq_getElem?_getD, List.getElem?_eq_getElem h1, List.getElem?_eq_getElem h2] at this
  exact this
/-- The first bit in which two keys are unlike, from bit i on; n bits are left. -/
def diffFrom (x y : List UInt8) : Nat → Nat → Option Nat
  | 0, _ => none
  | n + 1, i => if bitOf x i = bitOf y i then diffFrom x y n (i + 1) else some i
def differ (x y : List UInt8) : Option Nat := diffFrom x y 200 0
theorem diffFrom_some {x y : List UInt8} : ∀ {n i d}, diffFrom x y n i = some d → i ≤ d ∧ d < i + n ∧ bitOf x d ≠ bitOf y d ∧ ∀ j, i ≤ j → j < d → bitOf x j = bitOf y j
  | 0, i, d, h => by cases h
  | n + 1, i, d, h => by
    unfold diffFrom at h
    split at h
    · rename_i e
      obtain ⟨h1, h2, h3, h4⟩ := diffFrom_some h
      refine ⟨by omega, by omega, h3, fun j hj hd => ?_⟩
      by_cases c : j = i
      · rw [c]; exact e
      · exact h4 j (by omega) hd
    · rename_i e
      cases h
      exact ⟨Nat.le_refl _, by omega, e, fun j h1 h2 => by omega⟩
theorem diffFrom_none {x y : List UInt8} : ∀ {n i}, diffFrom x y n i = none → ∀ j, i ≤ j → j < i + n → bitOf x j = bitOf y j
  | 0, i, _, j, h1, h2 => by omega
  | n + 1, i, h, j, h1, h2 => by
    unfold diffFrom at h
    split at h
    · rename_i e
      by_cases c : j = i
      · rw [c]; exact e
      · exact diffFrom_none h j (by omega) (by omega)
    · cases h
theorem differ_some {x y : List UInt8} {d : Nat} (h : differ x y = some d) : d < 200 ∧ bitOf x d ≠ bitOf y d ∧ ∀ j, j < d → bitOf x j = bitOf y j := by
  obtain ⟨_, h2, h3, h4⟩ := diffFrom_some h
  exact ⟨by omega, h3, fun j hj => h4 j (by omega) hj⟩
theorem differ_none {x y : List UInt8} (hx : x.length = 25) (hy : y.length = 25) : differ x y = none ↔ x = y := by
  constructor
  · intro h
    exact eq_of_bits hx hy fun i hi => diffFrom_none h i (by omega) (by omega)
  · rintro rfl
    cases h : differ x x with
    | none => rfl
    | some d => exact absurd rfl (differ_some h).2.1
theorem differ_of {x y : List UInt8} {d : Nat} (h1 : d < 200) (h2 : bitOf x d ≠ bitOf y d) (h3 : ∀ j, j < d → bitOf x j = bitOf y j) : differ x y = some d := by
  cases h : differ x y with
  | none => exact absurd (diffFrom_none h d (by omega) (by omega)) h2
  | some e =>
    obtain ⟨_, h4, h5⟩ := differ_some h
    rcases Nat.lt_trichotomy d e with c | c | c
    · exact absurd (h5 d c) h2
    · rw [c]
    · exact absurd (h3 e c) h4
theorem differ_comm (x y : List UInt8) : differ x y = differ y x := by
  cases h : differ x y with
  | some d =>
    obtain ⟨h1, h2, h3⟩ := differ_some h
    exact (differ_of h1 (fun e => h2 e.symm) fun j hj => (h3 j hj).symm).symm
  | none =>
    cases h' : differ y x with
    | none => rfl
    | some d =>
      obtain ⟨h1, h2, h3⟩ := differ_some h'
      exact absurd (diffFrom_none h d (by omega) (by omega)) (fun e => h2 e.symm)
/-- The order of keys: that of their bytes. -/
def ltK : List UInt8 → List UInt8 → Bool
  | a :: x, b :: y => if a = b then ltK x y else decide (a < b)
  | [], _ :: _ => true
  | _, [] => false
theorem ltK_at : ∀ {x y : List UInt8} {q : Nat}, q < x.length → q < y.length → (∀ j, j < q → x.getD j 0 = y.getD j 0) → x.getD q 0 < y.getD q 0 → ltK x y = true
  | a :: x, b :: y, 0, _, _, _, h => by
    unfold ltK
    have h : a < b := h
    rw [if_neg (fun e => by subst e; exact absurd h (UInt8.lt_irrefl _))]
    exact decide_eq_true h
  | a :: x, b :: y, q + 1, h1, h2, h3, h4 => by
    unfold ltK
    rw [if_pos (show a = b from h3 0 (by omega))]
    exact ltK_at (q := q) (by simpa using h1) (by simpa using h2) (fun j hj => h3 (j + 1) (by omega)) h4
  | [], _, q, h, _, _, _ => by simp at h
  | _ :: _, [], q, _, h, _, _ => by simp at h
theorem ltK_irrefl : ∀ x, ltK x x = false
  | [] => rfl
  | a :: x => by unfold ltK; rw [if_pos rfl]; exact ltK_irrefl x
theorem ltK_trans : ∀ {x y z}, ltK x y = true → ltK y z = true → ltK x z = true
  | [], [], _, h, _ => by cases h
  | [], _ :: _, [], _, h => by cases h
  | [], _ :: _, _ :: _, _, _ => rfl
  | _ :: _, [], _, h, _ => by cases h
  | _ :: _, _ :: _, [], _, h => by cases h
  | a :: x, b :: y, c :: z, h1, h2 => by
    unfold ltK at h1 h2 ⊢
    by_cases e1 : a = b
    · subst e1
      rw [if_pos rfl] at h1
      by_cases e2 : a = c
      · subst e2
        rw [if_pos rfl] at h2 ⊢
        exact ltK_trans h1 h2
      · rw [if_neg e2] at h2 ⊢; exact h2
    · rw [if_neg e1] at h1
      by_cases e2 : b = c
      · subst e2
        rw [if_neg e1]; exact h1
      · rw [if_neg e2] at h2
        have h1 := of_decide_eq_true h1
        have h2 := of_decide_eq_true h2
        have h3 := UInt8.lt_trans h1 h2
        rw [if_neg (fun e => by subst e; exact absurd (UInt8.lt_trans h1 h2) (UInt8.lt_irrefl _))]
        exact decide_eq_true h3
theorem ltK_total : ∀ {x y : List UInt8}, x.length = y.length → ltK x y = false → ltK y x = false → x = y
  | [], [], _, _, _ => rfl
  | [], _ :: _, h, _, _ => by simp at h
  | _ :: _, [], h, _, _ => by simp at h
  | a :: x, b :: y, hl, h1, h2 => by
    unfold ltK at h1 h2
    by_cases e : a = b
    · subst e
      rw [if_pos rfl] at h1 h2
      rw [ltK_total (by simpa using hl) h1 h2]
    · rw [if_neg e] at h1
      rw [if_neg (fun h => e h.symm)] at h2
      have h1 := of_decide_eq_false h1
      have h2 := of_decide_eq_false h2
      exact absurd (UInt8.le_antisymm (UInt8.not_lt.1 h2) (UInt8.not_lt.1 h1)) e
theorem lt_of_bit {x y n : Nat} (h0 : x.testBit n = false) (h1 : y.testBit n = true) (h : ∀ j, n < j → x.testBit j = y.testBit j) : x < y := by
  have e : x / 2 ^ (n + 1) = y / 2 ^ (n + 1) := Nat.eq_of_testBit_eq fun i => by
    rw [Nat.testBit_div_two_pow, Nat.testBit_div_two_pow]
    exact h _ (by omega)
  have hx := Nat.div_add_mod x (2 ^ (n + 1))
  have hy := Nat.div_add_mod y (2 ^ (n + 1))
  have mx : x % 2 ^ (n + 1) = x % 2 ^ n + 2 ^ n * (x / 2 ^ n % 2) := Nat.mod_pow_succ
  have my : y % 2 ^ (n + 1) = y % 2 ^ n + 2 ^ n * (y / 2 ^ n % 2) := Nat.mod_pow_succ
  rw [Nat.testBit_eq_decide_div_mod_eq] at h0 h1
  have h0 := of_decide_eq_false h0
  have h1 := of_decide_eq_true h1
  have h0' : x / 2 ^ n % 2 = 0 := by omega
  rw [h0', Nat.mul_zero] at mx
  rw [h1, Nat.mul_one] at my
  have lx := Nat.mod_lt x (Nat.two_pow_pos n)
  rw [e] at hx
  omega
theorem ltK_of_bit {x y : List UInt8} {d : Nat} (hx : x.length = 25) (hy : y.length = 25) (hd : d < 200) (h0 : bitOf x d = false) (h1 : bitOf y d = true) (h : ∀ i, i < d → bitOf x i = bitOf y i) : ltK x y = true := by
  refine ltK_at (q := d / 8) (by omega) (by omega) (fun j hj => bit_byte fun i hi => h _ (by omega)) ?_
  rw [UInt8.lt_iff_toNat_lt]
  refine lt_of_bit (n := 7 - d % 8) h0 h1 fun j hj => ?_
  by_cases c : j < 8
  · have := h (8 * (d / 8) + (7 - j)) (by omega)
    unfold bitOf at this
    rw [show (8 * (d / 8) + (7 - j)) / 8 = d / 8 by omega, show 7 - (8 * (d / 8) + (7 - j)) % 8 = j by omega] at this
    exact this
  · rw [Nat.testBit_lt_two_pow, Nat.testBit_lt_two_pow]
    · exact Nat.lt_of_lt_of_le (UInt8.toNat_lt _) (Nat.pow_le_pow_right (by omega) (by omega : 8 ≤ j))
    · exact Nat.lt_of_lt_of_le (UInt8.toNat_lt _) (Nat.pow_le_pow_right (by omega) (by omega : 8 ≤ j))
/-! ### Sorted lists of keys and things -/
def ltE (x y : List UInt8 × Int) : Prop := ltK x.1 y.1 = true
def Sorted (l : List (List UInt8 × Int)) : Prop := l.Pairwise ltE
theorem sorted_ext : ∀ {l m : List (List UInt8 × Int)}, Sorted l → Sorted m → (∀ x, x ∈ l ↔ x ∈ m) → l = m
  | [], [], _, _, _ => rfl
  | [], y :: m, _, _, h => by have := (h y).2 (by simp); simp at this
  | x :: l, [], _, _, h => by have := (h x).1 (by simp); simp at this
  | x :: l, y :: m, hl, hm, h => by
    have hl := List.pairwise_cons.1 hl
    have hm := List.pairwise_cons.1 hm
    have e : x = y := by
      rcases List.mem_cons.1 ((h x).1 (by simp)) with e | e
      · exact e
      rcases List.mem_cons.1 ((h y).2 (by simp)) with e' | e'
      · exact e'.symm
      have h1 := hm.1 x e
      have h2 := hl.1 y e'
      have := ltK_trans h1 h2
      rw [ltK_irrefl] at this; cases this
    subst e
    rw [sorted_ext hl.2 hm.2 fun z => ?_]
    have hz := h z
    rw [List.mem_cons, List.mem_cons] at hz
    constructor
    · intro hzl
      rcases hz.1 (.inr hzl) with e | e
      · subst e
        have := hl.1 z hzl
        unfold ltE at this
        rw [ltK_irrefl] at this; cases this
      · exact e
    · intro hzm
      rcases hz.2 (.inr hzm) with e | e
      · subst e
        have := hm.1 z hzm
        unfold ltE at this
        rw [ltK_irrefl] at this; cases this
      · exact e
theorem Sorted.uniq {l : List (List UInt8 × Int)} (h : Sorted l) {x y : List UInt8 × Int} (hx : x ∈ l) (hy : y ∈ l) (e : x.1 = y.1) : x = y := by
  induction l with
  | nil => cases hx
  | cons z l ih =>
    have h := List.pairwise_cons.1 h
    rcases List.mem_cons.1 hx with h1 | h1
    · rcases List.mem_cons.1 hy with h2 | h2
      · rw [h1, h2]
      · have := h.1 y h2; unfold ltE at this; rw [← h1, e, ltK_irrefl] at this; cases this
    · rcases List.mem_cons.1 hy with h2 | h2
      · have := h.1 x h1; unfold ltE at this; rw [← h2, e, ltK_irrefl] at this; cases this
      · exact ih h.2 h1 h2
namespace T
theorem WF.sorted : ∀ {t : T}, t.WF → Sorted t.all
  | leaf _ _ _, _ => List.pairwise_singleton _ _
  | fork _ b l r, h => by
    obtain ⟨hb, hl, hr, h0, h1, h2⟩ := h
    unfold all Sorted
    rw [List.pairwise_append]
    refine ⟨hl.sorted, hr.sorted, fun x hx y hy => ?_⟩
    have hx' : x.1 ∈ l.keys := List.mem_map.2 ⟨x, hx, rfl⟩
    have hy' : y.1 ∈ r.keys := List.mem_map.2 ⟨y, hy, rfl⟩
    exact ltK_of_bit (hl.len _ hx') (hr.len _ hy') hb (h0 _ hx') (h1 _ hy') fun i hi => h2 _ (List.mem_append.2 (.inl hx')) _ (List.mem_append.2 (.inr hy')) i hi
/-! ### Put -/
/-- Another thing at the leaf of a key. -/
def upd (k : List UInt8) (v : Int) : T → T
  | leaf a x _ => leaf a x v
  | fork a b l r => if bitOf k b then fork a b l (upd k v r) else fork a b (upd k v l) r
/-- A new leaf, at block la, beside what agrees with it up to bit d; the fork at block fa. -/
def ins (la fa : Nat) (k : List UInt8) (v : Int) (d : Nat) : T → T
  | leaf a x w => if bitOf k d then fork fa d (leaf a x w) (leaf la k v) else fork fa d (leaf la k v) (leaf a x w)
  | fork a b l r => if b < d then (if bitOf k b then fork a b l (ins la fa k v d r) else fork a b (ins la fa k v d l) r)
      else if bitOf k d then fork fa d (fork a b l r) (leaf la k v) else fork fa d (leaf la k v) (fork a b l r)
theorem upd_keys (k : List UInt8) (v : Int) : ∀ t : T, (upd k v t).keys = t.keys
  | leaf _ _ _ => rfl
  | fork a b l r => by
    unfold upd
    split
    · rw [keys_fork, keys_fork, upd_keys]
    · rw [keys_fork, keys_fork, upd_keys]
theorem upd_WF (k : List UInt8) (v : Int) : ∀ {t : T}, t.WF → (upd k v t).WF
  | leaf _ _ _, h => h
  | fork a b l r, h => by
    obtain ⟨hb, hl, hr, h0, h1, h2⟩ := h
    unfold upd
    split
    · exact ⟨hb, hl, upd_WF k v hr, h0, by rw [upd_keys]; exact h1, by rw [upd_keys]; exact h2⟩
    · exact ⟨hb, upd_WF k v hl, hr, by rw [upd_keys]; exact h0, h1, by rw [upd_keys]; exact h2⟩
theorem key_mem {t : T} {x : List UInt8 × Int} (h : x ∈ t.all) : x.1 ∈ t.keys := List.mem_map.2 ⟨x, h, rfl⟩
theorem upd_all (k : List UInt8) (v : Int) : ∀ {t : T}, t.WF → k ∈ t.keys → ∀ x, x ∈ (upd k v t).all ↔ x = (k, v) ∨ (x ∈ t.all ∧ x.1 ≠ k)
  | leaf _ y w, _, hk, x => by
    rw [keys_leaf, List.mem_singleton] at hk
    subst hk
    simp only [upd, all, List.mem_singleton]
    constructor
    · exact .inl
    · rintro (h | ⟨h, h'⟩)
      · exact h
      · exact absurd (by rw [h]) h'
  | fork a b l r, h, hk, x => by
    obtain ⟨hb, hl, hr, h0, h1, h2⟩ := h
    rw [keys_fork, List.mem_append] at hk
    unfold upd
    rcases hk with hk | hk
    · rw [h0 k hk]
      have := upd_all k v hl hk x
      simp only [all, List.mem_append, this, Bool.false_eq_true, if_false]
      constructor
      · rintro ((h | h) | h)
        · exact .inl h
        · exact .inr ⟨.inl h.1, h.2⟩
        · exact .inr ⟨.inr h, fun e => by have := h1 x.1 (key_mem h); rw [e, h0 k hk] at this; cases this⟩
      · rintro (h | ⟨h | h, h'⟩)
        · exact .inl (.inl h)
        · exact .inl (.inr ⟨h, h'⟩)
        · exact .inr h
    · rw [h1 k hk]
      have := upd_all k v hr hk x
      simp only [all, List.mem_append, this, if_true]
      constructor
      · rintro (h | (h | h))
        · exact .inr ⟨.inl h, fun e => by have := h0 x.1 (key_mem h); rw [e, h1 k hk] at this; cases this⟩
        · exact .inl h
        · exact .inr ⟨.inr h.1, h.2⟩
      · rintro (h | ⟨h | h, h'⟩)
        · exact .inr (.inl h)
        · exact .inl h
        · exact .inr (.inr ⟨h, h'⟩)
theorem ins_all (la fa : Nat) (k : List UInt8) (v : Int) (d : Nat) : ∀ (t : T) x, x ∈ (ins la fa k v d t).all ↔ x = (k, v) ∨ x ∈ t.all
  | leaf a y w, x => by
    unfold ins
    split <;> simp only [all, List.mem_append, List.mem_singleton]
    exact or_comm
  | fork a b l r, x => by
    unfold ins
    split
    · split
      · simp only [all, List.mem_append, ins_all la fa k v d r x]
        constructor
        · rintro (h | h | h)
          · exact .inr (.inl h)
          · exact .inl h
          · exact .inr (.inr h)
        · rintro (h | h | h)
          · exact .inr (.inl h)
          · exact .inl h
          · exact .inr (.inr h)
      · simp only [all, List.mem_append, ins_all la fa k v d l x, or_assoc]
    · split <;> simp only [all, List.mem_append, List.mem_singleton]
      exact or_comm
theorem ins_keys (la fa : Nat) (k : List UInt8) (v : Int) (d : Nat) (t : T) (x : List UInt8) : x ∈ (ins la fa k v d t).keys ↔ x = k ∨ x ∈ t.keys := by
  unfold keys
  rw [List.mem_map, List.mem_map]
  constructor
  · rintro ⟨y, hy, rfl⟩
    rcases (ins_all la fa k v d t y).1 hy with rfl | h
    · exact .inl rfl
    · exact .inr ⟨y, h, rfl⟩
  · rintro (rfl | ⟨y, hy, rfl⟩)
    · exact ⟨(x, v), (ins_all la fa x v d t _).2 (.inl rfl), rfl⟩
    · exact ⟨y, (ins_all la fa k v d t y).2 (.inr hy), rfl⟩
theorem bool_ne {a b : Bool} (h : a ≠ b) (hb : a = true) : b = false := by cases b <;> simp_all
theorem bool_ne' {a b : Bool} (h : a ≠ b) (hb : a = false) : b = true := by cases b <;> simp_all
theorem fork_WF {fa la : Nat} {k : List UInt8} {v : Int} {d : Nat} {t : T} (hk : k.length = 25) (hd : d < 200) (ht : t.WF) (h0 : ∀ x ∈ t.keys, bitOf k d ≠ bitOf x d) (h1 : ∀ x ∈ t.keys, ∀ i, i < d → bitOf k i = bitOf x i) :
    (if bitOf k d then fork fa d t (leaf la k v) else fork fa d (leaf la k v) t).WF := by
  split
  · rename_i e
    refine ⟨hd, ht, hk, fun x hx => bool_ne (h0 x hx) e, fun x hx => by rw [keys_leaf, List.mem_singleton] at hx; rw [hx]; exact e, ?_⟩
    intro x hx y hy i hi
    rw [keys_leaf, List.mem_append, List.mem_singleton] at hx hy
    have g : ∀ z, z ∈ t.keys ∨ z = k → bitOf z i = bitOf k i := fun z hz => hz.elim (fun h => (h1 z h i hi).symm) (fun e => by rw [e])
    rw [g x hx, g y hy]
  · rename_i e
    have e : bitOf k d = false := by simpa using e
    refine ⟨hd, hk, ht, fun x hx => by rw [keys_leaf, List.mem_singleton] at hx; rw [hx]; exact e, fun x hx => bool_ne' (h0 x hx) e, ?_⟩
    intro x hx y hy i hi
    rw [keys_leaf, List.mem_append, List.mem_singleton] at hx hy
    have g : ∀ z, z = k ∨ z ∈ t.keys → bitOf z i = bitOf k i := fun z hz => hz.elim (fun e => by rw [e]) (fun h => (h1 z h i hi).symm)
    rw [g x hx, g y hy]
/-- The bit at which a new key leaves stands in no node on its way from there on. -/
theorem ins_WF {la fa : Nat} {k : List UInt8} {v : Int} {d : Nat} (hk : k.length = 25) (hd : d < 200) : ∀ {t : T}, t.WF → bitOf k d ≠ bitOf (near k t).2.1 d → (∀ i, i < d → bitOf k i = bitOf (near k t).2.1 i) → (ins la fa k v d t).WF
  | leaf a x w, h, h0, h1 => by
    have := fork_WF (fa := fa) (la := la) (v := v) hk hd h (fun y hy => by rw [keys_leaf, List.mem_singleton] at hy; rw [hy]; exact h0) (fun y hy => by rw [keys_leaf, List.mem_singleton] at hy; rw [hy]; exact h1)
    exact this
  | fork a b l r, h, h0, h1 => by
    have hf := h
    obtain ⟨hb, hl, hr, g0, g1, g2⟩ := h
    have hn := near_key k (fork a b l r)
    have hag : ∀ x ∈ l.keys ++ r.keys, ∀ i, i < b → bitOf (near k (fork a b l r)).2.1 i = bitOf x i := fun x hx i hi => g2 _ (by rw [keys_fork] at hn; exact hn) x hx i hi
    unfold ins
    split
    · rename_i hbd
      have hk' : ∀ x ∈ l.keys ++ r.keys, ∀ i, i < b → bitOf k i = bitOf x i := fun x hx i hi => (h1 i (by omega)).trans (hag x hx i hi)
      split
      · rename_i e
        have hnr : near k (fork a b l r) = near k r := by show (if bitOf k b = true then _ else _) = _; rw [if_pos e]
        rw [hnr] at h0 h1
        refine ⟨hb, hl, ins_WF hk hd hr h0 h1, g0, fun x hx => ?_, fun x hx y hy i hi => ?_⟩
        · rcases (ins_keys _ _ _ _ _ _ _).1 hx with rfl | hx
          · exact e
          · exact g1 x hx
        · have g : ∀ z, z ∈ l.keys ++ (ins la fa k v d r).keys → bitOf z i = bitOf k i := fun z hz => by
            rw [List.mem_append, ins_keys] at hz
            rcases hz with hz | rfl | hz
            · exact (hk' z (List.mem_append.2 (.inl hz)) i hi).symm
            · rfl
            · exact (hk' z (List.mem_append.2 (.inr hz)) i hi).symm
          rw [g x hx, g y hy]
      · rename_i e
        have e : bitOf k b = false := by simpa using e
        have hnl : near k (fork a b l r) = near k l := by show (if bitOf k b = true then _ else _) = _; rw [if_neg (by rw [e]; simp)]
        rw [hnl] at h0 h1
        refine ⟨hb, ins_WF hk hd hl h0 h1, hr, fun x hx => ?_, g1, fun x hx y hy i hi => ?_⟩
        · rcases (ins_keys _ _ _ _ _ _ _).1 hx with rfl | hx
          · exact e
          · exact g0 x hx
        · have g : ∀ z, z ∈ (ins la fa k v d l).keys ++ r.keys → bitOf z i = bitOf k i := fun z hz => by
            rw [List.mem_append, ins_keys] at hz
            rcases hz with (rfl | hz) | hz
            · rfl
            · exact (hk' z (List.mem_append.2 (.inl hz)) i hi).symm
            · exact (hk' z (List.mem_append.2 (.inr hz)) i hi).symm
          rw [g x hx, g y hy]
    · rename_i hbd
      have hdb : d < b := by
        rcases Nat.lt_or_eq_of_le (Nat.not_lt.1 hbd) with c | c
        · exact c
        · exfalso
          subst c
          apply h0
          by_cases e : bitOf k d = true
          · have hnr : near k (fork a d l r) = near k r := by show (if bitOf k d = true then _ else _) = _; rw [if_pos e]
            rw [hnr, e, g1 _ (near_key k r)]
          · have e : bitOf k d = false := by simpa using e
            have hnl : near k (fork a d l r) = near k l := by show (if bitOf k d = true then _ else _) = _; rw [if_neg (by rw [e]; simp)]
            rw [hnl, e, g0 _ (near_key k l)]
      exact fork_WF hk hd hf (fun x hx => by rw [keys_fork] at hx; rw [← hag x hx d hdb]; exact h0) (fun x hx i hi => by rw [keys_fork] at hx; rw [← hag x hx i (by omega)]; exact h1 i hi)
/-! ### Del -/
/-- Without the leaf of a key that stands below a fork. -/
def del (k : List UInt8) : T → T
  | leaf a x v => leaf a x v
  | fork a b l r => if bitOf k b then (match r with
      | leaf _ _ _ => l
      | fork a2 b2 l2 r2 => fork a b l (del k (fork a2 b2 l2 r2))) else (match l with
      | leaf _ _ _ => r
      | fork a2 b2 l2 r2 => fork a b (del k (fork a2 b2 l2 r2)) r)
theorem del_sub (k : List UInt8) : ∀ (t : T) x, x ∈ (del k t).all → x ∈ t.all
  | leaf _ _ _, x, h => h
  | fork a b l (leaf a2 x2 v2), x, h => by
    unfold del at h
    split at h
    · exact List.mem_append.2 (.inl h)
    · cases l with
      | leaf _ _ _ => exact List.mem_append.2 (.inr h)
      | fork a3 b3 l3 r3 =>
        rcases List.mem_append.1 h with h | h
        · exact List.mem_append.2 (.inl (del_sub k (fork a3 b3 l3 r3) x h))
        · exact List.mem_append.2 (.inr h)
  | fork a b l (fork a2 b2 l2 r2), x, h => by
    unfold del at h
    split at h
    · rcases List.mem_append.1 h with h | h
      · exact List.mem_append.2 (.inl h)
      · exact List.mem_append.2 (.inr (del_sub k (fork a2 b2 l2 r2) x h))
    · cases l with
      | leaf _ _ _ => exact List.mem_append.2 (.inr h)
      | fork a3 b3 l3 r3 =>
        rcases List.mem_append.1 h with h | h
        · exact List.mem_append.2 (.inl (del_sub k (fork a3 b3 l3 r3) x h))
        · exact List.mem_append.2 (.inr h)
end T
end Go.Proofs.Ytagdedjclbmlkaa

/- The tree of bits: delete, the bits on a path, the leaves of a prefix; the document's lists. No program. -/
namespace Go.Proofs.Ytagdedjclbmlkaa

namespace T
theorem del_keys (k : List UInt8) (t : T) (x : List UInt8) (h : x ∈ (del k t).keys) : x ∈ t.keys := by
  obtain ⟨y, hy, rfl⟩ := List.mem_map.1 h
  exact key_mem (del_sub k t y hy)
theorem WF.sub {a b : Nat} {l r l' r' : T} (h : (fork a b l r).WF) (hl : l'.WF) (hr : r'.WF) (sl : ∀ x ∈ l'.keys, x ∈ l.keys) (sr : ∀ x ∈ r'.keys, x ∈ r.keys) : (fork a b l' r').WF := by
  obtain ⟨hb, _, _, g0, g1, g2⟩ := h
  have hs : ∀ x ∈ l'.keys ++ r'.keys, x ∈ l.keys ++ r.keys := fun x hx => by
    rw [List.mem_append] at hx ⊢
    exact hx.imp (sl x) (sr x)
  exact ⟨hb, hl, hr, fun x hx => g0 x (sl x hx), fun x hx => g1 x (sr x hx), fun x hx y hy => g2 x (hs x hx) y (hs y hy)⟩
theorem del_WF (k : List UInt8) : ∀ {t : T}, t.WF → (del k t).WF
  | leaf _ _ _, h => h
  | fork a b l r, h => by
    unfold del
    split
    · cases r with
      | leaf a2 x2 v2 => exact h.2.1
      | fork a2 b2 l2 r2 => exact h.sub h.2.1 (del_WF k h.2.2.1) (fun _ h => h) (del_keys k _)
    · cases l with
      | leaf a2 x2 v2 => exact h.2.2.1
      | fork a2 b2 l2 r2 => exact h.sub (del_WF k h.2.1) h.2.2.1 (del_keys k _) (fun _ h => h)
theorem del_all (k : List UInt8) : ∀ {a b : Nat} {l r : T}, (fork a b l r).WF → k ∈ (fork a b l r).keys → ∀ x, x ∈ (del k (fork a b l r)).all ↔ x ∈ (fork a b l r).all ∧ x.1 ≠ k := by
  have main : ∀ (n : Nat) (t : T), sizeOf t ≤ n → t.WF → k ∈ t.keys → (∀ a x v, t ≠ leaf a x v) → ∀ x, x ∈ (del k t).all ↔ x ∈ t.all ∧ x.1 ≠ k := by
    intro n
    induction n with
    | zero => intro t h; cases t <;> simp at h
    | succ n ih =>
      intro t hn h hk hl x
      cases t with
      | leaf a y v => exact absurd rfl (hl a y v)
      | fork a b l r =>
        obtain ⟨hb, hwl, hwr, g0, g1, _⟩ := h
        simp only [fork.sizeOf_spec] at hn
        rw [keys_fork, List.mem_append] at hk
        unfold del
        rcases hk with hk | hk
        · rw [g0 k hk]
          have hr : ∀ y, y ∈ r.all → y.1 ≠ k := fun y hy e => by have := g1 y.1 (key_mem hy); rw [e, g0 k hk] at this; cases this
          cases l with
          | leaf a2 x2 v2 =>
            rw [keys_leaf, List.mem_singleton] at hk
            subst hk
            simp only [Bool.false_eq_true, if_false, all, List.mem_append, List.mem_singleton]
            constructor
            · intro h; exact ⟨.inr h, hr x h⟩
            · rintro ⟨h | h, h'⟩
              · exact absurd (by rw [h]) h'
              · exact h
          | fork a2 b2 l2 r2 =>
            have := ih (fork a2 b2 l2 r2) (by omega) hwl hk (fun _ _ _ e => by cases e) x
            simp only [Bool.false_eq_true, if_false]
            rw [show (fork a b (fork a2 b2 l2 r2) r).all = (fork a2 b2 l2 r2).all ++ r.all from rfl, show (fork a b (del k (fork a2 b2 l2 r2)) r).all = (del k (fork a2 b2 l2 r2)).all ++ r.all from rfl, List.mem_append, List.mem_append, this]
            constructor
            · rintro (h | h)
              · exact ⟨.inl h.1, h.2⟩
              · exact ⟨.inr h, hr x h⟩
            · rintro ⟨h | h, h'⟩
              · exact .inl ⟨h, h'⟩
              · exact .inr h
        · rw [g1 k hk]
          have hll : ∀ y, y ∈ l.all → y.1 ≠ k := fun y hy e => by have := g0 y.1 (key_mem hy); rw [e, g1 k hk] at this; cases this
          cases r with
          | leaf a2 x2 v2 =>
            rw [keys_leaf, List.mem_singleton] at hk
            subst hk
            simp only [if_true, all, List.mem_append, List.mem_singleton]
            constructor
            · intro h; exact ⟨.inl h, hll x h⟩
            · rintro ⟨h | h, h'⟩
              · exact h
              · exact absurd (by rw [h]) h'
          | fork a2 b2 l2 r2 =>
            have := ih (fork a2 b2 l2 r2) (by omega) hwr hk (fun _ _ _ e => by cases e) x
            simp only [if_true]
            rw [show (fork a b l (fork a2 b2 l2 r2)).all = l.all ++ (fork a2 b2 l2 r2).all from rfl, show (fork a b l (del k (fork a2 b2 l2 r2))).all = l.all ++ (del k (fork a2 b2 l2 r2)).all from rfl, List.mem_append, List.mem_append, this]
            constructor
            · rintro (h | h)
              · exact ⟨.inl h, hll x h⟩
              · exact ⟨.inr h.1, h.2⟩
            · rintro ⟨h | h, h'⟩
              · exact .inl h
              · exact .inr ⟨h, h'⟩
  intro a b l r h hk
  exact main _ _ (Nat.le_refl _) h hk (fun _ _ _ e => by cases e)
/-! ### The bits on a path -/
def path (k : List UInt8) : T → List Nat
  | leaf _ _ _ => []
  | fork _ b l r => b :: (if bitOf k b then path k r else path k l)
/-- Each node's bit is greater than b. -/
def Gt (b : Nat) : T → Prop
  | leaf _ _ _ => True
  | fork _ c _ _ => b < c
theorem some_key (t : T) : ∃ x, x ∈ t.keys := ⟨_, near_key [] t⟩
theorem WF.gt {a b : Nat} {l r : T} (h : (fork a b l r).WF) : Gt b l ∧ Gt b r := by
  obtain ⟨hb, hl, hr, g0, g1, g2⟩ := h
  constructor
  · cases l with
    | leaf _ _ _ => trivial
    | fork a2 b2 l2 r2 =>
      obtain ⟨x, hx⟩ := some_key l2
      obtain ⟨y, hy⟩ := some_key r2
      have hx' : x ∈ (fork a2 b2 l2 r2).keys := by rw [keys_fork]; exact List.mem_append.2 (.inl hx)
      have hy' : y ∈ (fork a2 b2 l2 r2).keys := by rw [keys_fork]; exact List.mem_append.2 (.inr hy)
      have e0 := hl.2.2.2.1 x hx
      have e1 := hl.2.2.2.2.1 y hy
      rcases Nat.lt_trichotomy b b2 with c | c | c
      · exact c
      · subst c
        rw [g0 y hy'] at e1; cases e1
      · rw [g2 x (List.mem_append.2 (.inl hx')) y (List.mem_append.2 (.inl hy')) b2 c, e1] at e0; cases e0
  · cases r with
    | leaf _ _ _ => trivial
    | fork a2 b2 l2 r2 =>
      obtain ⟨x, hx⟩ := some_key l2
      obtain ⟨y, hy⟩ := some_key r2
      have hx' : x ∈ (fork a2 b2 l2 r2).keys := by rw [keys_fork]; exact List.mem_append.2 (.inl hx)
      have hy' : y ∈ (fork a2 b2 l2 r2).keys := by rw [keys_fork]; exact List.mem_append.2 (.inr hy)
      have e0 := hr.2.2.2.1 x hx
      have e1 := hr.2.2.2.2.1 y hy
      rcases Nat.lt_trichotomy b b2 with c | c | c
      · exact c
      · subst c
        rw [g1 x hx'] at e0; cases e0
      · rw [g2 x (List.mem_append.2 (.inr hx')) y (List.mem_append.2 (.inr hy')) b2 c, e1] at e0; cases e0
theorem path_gt (k : List UInt8) : ∀ {t : T} {b : Nat}, t.WF → Gt b t → ∀ c ∈ path k t, b < c
  | leaf _ _ _, b, _, _, c, hc => by simp [path] at hc
  | fork a b2 l r, b, h, hg, c, hc => by
    have hg : b < b2 := hg
    unfold path at hc
    rcases List.mem_cons.1 hc with rfl | hc
    · exact hg
    · split at hc
      · have := path_gt k h.2.2.1 h.gt.2 c hc; omega
      · have := path_gt k h.2.1 h.gt.1 c hc; omega
theorem path_asc (k : List UInt8) : ∀ {t : T}, t.WF → (path k t).Pairwise (· < ·)
  | leaf _ _ _, _ => List.Pairwise.nil
  | fork a b l r, h => by
    unfold path
    rw [List.pairwise_cons]
    split
    · exact ⟨path_gt k h.2.2.1 h.gt.2, path_asc k h.2.2.1⟩
    · exact ⟨path_gt k h.2.1 h.gt.1, path_asc k h.2.1⟩
theorem path_lt (k : List UInt8) : ∀ {t : T}, t.WF → ∀ c ∈ path k t, c < 200
  | leaf _ _ _, _, c, hc => by simp [path] at hc
  | fork a b l r, h, c, hc => by
    unfold path at hc
    rcases List.mem_cons.1 hc with rfl | hc
    · exact h.1
    · split at hc
      · exact path_lt k h.2.2.1 c hc
      · exact path_lt k h.2.1 c hc
theorem path_len (k : List UInt8) {t : T} (h : t.WF) : (path k t).length ≤ 200 := by
  have h1 := path_asc k h
  have h2 := path_lt k h
  have : ∀ (l : List Nat) (n : Nat), l.Pairwise (· < ·) → (∀ c ∈ l, n ≤ c ∧ c < 200) → n ≤ 200 → l.length ≤ 200 - n := by
    intro l
    induction l with
    | nil => intro n _ _ _; simp
    | cons c l ih =>
      intro n hp hc hn
      have hp := List.pairwise_cons.1 hp
      have hcc := hc c (by simp)
      have := ih (c + 1) hp.2 (fun d hd => ⟨hp.1 d hd, (hc d (by simp [hd])).2⟩) (by omega)
      simp only [List.length_cons]
      omega
  have := this _ 0 h1 (fun c hc => ⟨Nat.zero_le _, h2 c hc⟩) (by omega)
  omega
theorem path_iff (k : List UInt8) : ∀ {t : T}, t.WF → k ∈ t.keys → ∀ c, c ∈ path k t ↔ ∃ x ∈ t.keys, differ x k = some c
  | leaf a y v, h, hk, c => by
    rw [keys_leaf, List.mem_singleton] at hk
    subst hk
    have : k.length = 25 := h
    simp only [path, keys_leaf, List.not_mem_nil, List.mem_singleton, exists_eq_left, (differ_none this this).2 rfl, reduceCtorEq]
  | fork a b l r, h, hk, c => by
    have hf := h
    obtain ⟨hb, hl, hr, g0, g1, g2⟩ := h
    rw [keys_fork, List.mem_append] at hk
    unfold path
    rw [List.mem_cons, keys_fork]
    rcases hk with hk | hk
    · rw [g0 k hk]
      simp only [Bool.false_eq_true, if_false]
      rw [path_iff k hl hk c]
      have hother : ∀ x ∈ r.keys, differ x k = some b := fun x hx => differ_of hb (by rw [g1 x hx, g0 k hk]; simp) fun j hj => g2 x (List.mem_append.2 (.inr hx)) k (List.mem_append.2 (.inl hk)) j hj
      constructor
      · rintro (rfl | ⟨x, hx, hd⟩)
        · obtain ⟨x, hx⟩ := some_key r
          exact ⟨x, List.mem_append.2 (.inr hx), hother x hx⟩
        · exact ⟨x, List.mem_append.2 (.inl hx), hd⟩
      · rintro ⟨x, hx, hd⟩
        rcases List.mem_append.1 hx with hx | hx
        · exact .inr ⟨x, hx, hd⟩
        · rw [hother x hx] at hd
          cases hd; exact .inl rfl
    · rw [g1 k hk]
      simp only [if_true]
      rw [path_iff k hr hk c]
      have hother : ∀ x ∈ l.keys, differ x k = some b := fun x hx => differ_of hb (by rw [g0 x hx, g1 k hk]; simp) fun j hj => g2 x (List.mem_append.2 (.inl hx)) k (List.mem_append.2 (.inr hk)) j hj
      constructor
      · rintro (rfl | ⟨x, hx, hd⟩)
        · obtain ⟨x, hx⟩ := some_key l
          exact ⟨x, List.mem_append.2 (.inl hx), hother x hx⟩
        · exact ⟨x, List.mem_append.2 (.inr hx), hd⟩
      · rintro ⟨x, hx, hd⟩
        rcases List.mem_append.1 hx with hx | hx
        · rw [hother x hx] at hd
          cases hd; exact .inl rfl
        · exact .inr ⟨x, hx, hd⟩
end T
theorem asc_ext : ∀ {l m : List Nat}, l.Pairwise (· < ·) → m.Pairwise (· < ·) → (∀ x, x ∈ l ↔ x ∈ m) → l = m
  | [], [], _, _, _ => rfl
  | [], y :: m, _, _, h => by have := (h y).2 (by simp); simp at this
  | x :: l, [], _, _, h => by have := (h x).1 (by simp); simp at this
  | x :: l, y :: m, hl, hm, h => by
    have hl := List.pairwise_cons.1 hl
    have hm := List.pairwise_cons.1 hm
    have e : x = y := by
      rcases List.mem_cons.1 ((h x).1 (by simp)) with e | e
      · exact e
      rcases List.mem_cons.1 ((h y).2 (by simp)) with e' | e'
      · exact e'.symm
      have h1 := hm.1 x e
      have h2 := hl.1 y e'
      omega
    subst e
    rw [asc_ext hl.2 hm.2 fun z => ?_]
    have hz := h z
    rw [List.mem_cons, List.mem_cons] at hz
    constructor
    · intro hzl
      rcases hz.1 (.inr hzl) with e | e
      · have := hl.1 z hzl; omega
      · exact e
    · intro hzm
      rcases hz.2 (.inr hzm) with e | e
      · have := hm.1 z hzm; omega
      · exact e
/-- The bits at which a key leaves others, as the document has them. -/
def branchL (l : List (List UInt8 × Int)) (k : List UInt8) : List Nat := (List.range 200).filter fun b => l.any fun x => differ x.1 k == some b
theorem range_asc : ∀ n, (List.range n).Pairwise (· < ·) := fun n => by
  rw [List.pairwise_iff_getElem]
  intro i j hi hj h
  simpa using h
theorem path_branch (k : List UInt8) {t : T} (h : t.WF) (hk : k ∈ t.keys) : T.path k t = branchL t.all k := by
  refine asc_ext (T.path_asc k h) ((range_asc 200).filter _) fun c => ?_
  rw [T.path_iff k h hk c, branchL, List.mem_filter, List.mem_range, List.any_eq_true]
  constructor
  · rintro ⟨x, hx, hd⟩
    obtain ⟨y, hy, rfl⟩ := List.mem_map.1 hx
    exact ⟨(differ_some hd).1, y, hy, by rw [hd]; simp⟩
  · rintro ⟨_, y, hy, hd⟩
    exact ⟨y.1, T.key_mem hy, by simpa using hd⟩
/-! ### The leaves of a prefix -/
namespace T
/-- Where bytes lead, as far as they go. -/
def sub (p : List UInt8) (m : Nat) : T → T
  | leaf a x v => leaf a x v
  | fork a b l r => if b < m then (if bitOf p b then sub p m r else sub p m l) else fork a b l r
end T
def pre (f : List UInt8) (x : List UInt8) : Bool := x.take f.length == f
theorem pre_bit {f p x : List UInt8} (hp : ∀ j, j < f.length → p.getD j 0 = f.getD j 0) (h : pre f x = true) {b : Nat} (hb : b < 8 * f.length) : bitOf x b = bitOf p b := by
  have h : x.take f.length = f := by simpa [pre] using h
  have hq : b / 8 < f.length := by omega
  unfold bitOf
  rw [hp _ hq]
  have : x.getD (b / 8) 0 = f.getD (b / 8) 0 := by
    conv => rhs; rw [← h]
    rw [List.getD_eq_getElem?_getD, List.getD_eq_getElem?_getD, List.getElem?_take_of_lt hq]
  rw [this]
theorem sub_pre {f p : List UInt8} (hp : ∀ j, j < f.length → p.getD j 0 = f.getD j 0) : ∀ {t : T}, t.WF → (T.sub p (8 * f.length) t).all.filter (fun x => pre f x.1) = t.all.filter (fun x => pre f x.1)
  | .leaf _ _ _, _ => rfl
  | .fork a b l r, h => by
    obtain ⟨_, hl, hr, g0, g1, _⟩ := h
    unfold T.sub
    split
    · rename_i hb
      split
      · rename_i e
        rw [sub_pre hp hr, T.all, List.filter_append]
        have : l.all.filter (fun x => pre f x.1) = [] := List.filter_eq_nil_iff.2 fun x hx hh => by
          have := pre_bit hp hh hb
          rw [g0 _ (T.key_mem hx), e] at this; cases this
        rw [this, List.nil_append]
      · rename_i e
        have e : bitOf p b = false := by simpa using e
        rw [sub_pre hp hl, T.all, List.filter_append]
        have : r.all.filter (fun x => pre f x.1) = [] := List.filter_eq_nil_iff.2 fun x hx hh => by
          have := pre_bit hp hh hb
          rw [g1 _ (T.key_mem hx), e] at this; cases this
        rw [this, List.append_nil]
    · rfl
/-! ### The document's lists -/
def findL (l : List (List UInt8 × Int)) (k : List UInt8) : Option Nat := l.findIdx? fun x => x.1 == k
def atL (l : List (List UInt8 × Int)) (k : List UInt8) : Nat := (l.takeWhile fun x => ltK x.1 k).length
def putL (l : List (List UInt8 × Int)) (k : List UInt8) (v : Int) : List (List UInt8 × Int) :=
  match findL l k with
  | some i => l.set i (k, v)
  | none => l.take (atL l k) ++ [(k, v)] ++ l.drop (atL l k)
def delL (l : List (List UInt8 × Int)) (k : List UInt8) : List (List UInt8 × Int) :=
  match findL l k with
  | some i => l.take i ++ l.drop (i + 1)
  | none => l
def getL (l : List (List UInt8 × Int)) (k : List UInt8) : Option Int := (l.find? fun x => x.1 == k).map (·.2)
def nextL (l : List (List UInt8 × Int)) (k : List UInt8) : Option (List UInt8) := (l.find? fun x => ltK k x.1).map (·.1)
theorem find_some {l : List (List UInt8 × Int)} {k : List UInt8} {i : Nat} (h : findL l k = some i) : ∃ hi : i < l.length, l[i].1 = k := by
  have := List.findIdx?_eq_some_iff_getElem.1 h
  obtain ⟨hi, h1, _⟩ := this
  exact ⟨hi, by simpa using h1⟩
theorem find_none {l : List (List UInt8 × Int)} {k : List UInt8} : findL l k = none ↔ ∀ x ∈ l, x.1 ≠ k := by
  unfold findL
  rw [List.findIdx?_eq_none_iff]
  simp
theorem sorted_set {l : List (List UInt8 × Int)} (h : Sorted l) {i : Nat} (hi : i < l.length) (v : Int) : Sorted (l.set i (l[i].1, v)) := by
  unfold Sorted at h ⊢
  rw [List.pairwise_iff_getElem] at h ⊢
  intro p q hp hq hpq
  rw [List.length_set] at hp hq
  have := h p q hp hq hpq
  unfold ltE at this ⊢
  have e : ∀ j (hj : j < l.length), ((l.set i (l[i].1, v))[j]'(by rw [List.length_set]; exact hj)).1 = l[j].1 := fun j hj => by
    rw [List.getElem_set]
    split
    · rename_i e; subst e; rfl
    · rfl
  rw [e p hp, e q hq]
  exact this
theorem takeWhile_pos {α : Type} (p : α → Bool) : ∀ (l : List α), (∀ x ∈ l.take (l.takeWhile p).length, p x = true) ∧ ∀ (h : (l.takeWhile p).length < l.length), p (l[(l.takeWhile p).length]) = false
  | [] => ⟨by simp, fun h => by simp at h⟩
  | x :: l => by
    by_cases c : p x = true
    · have ih := takeWhile_pos p l
      rw [List.takeWhile_cons, if_pos c]
      refine ⟨fun y hy => ?_, fun h => ?_⟩
      · rw [List.length_cons, List.take_succ_cons] at hy
        rcases List.mem_cons.1 hy with rfl | hy
        · exact c
        · exact ih.1 y hy
      · simp only [List.length_cons, List.getElem_cons_succ]
        exact ih.2 (by simpa using h)
    · rw [List.takeWhile_cons, if_neg c]
      exact ⟨by simp, fun _ => by simpa using c⟩
theorem sorted_ins {l : List (List UInt8 × Int)} (h : Sorted l) {k : List UInt8} (v : Int) (hk : ∀ x ∈ l, x.1 ≠ k) (hl : ∀ x ∈ l, x.1.length = k.length) : Sorted (l.take (atL l k) ++ [(k, v)] ++ l.drop (atL l k)) := by
  have hp := List.pairwise_iff_getElem.1 h
  have htw := takeWhile_pos (fun x : List UInt8 × Int => ltK x.1 k) l
  have hspl : (l.take (atL l k) ++ l.drop (atL l k)).Pairwise ltE := by rw [List.take_append_drop]; exact h
  rw [List.pairwise_append] at hspl
  have hright : ∀ y ∈ l.drop (atL l k), ltE (k, v) y := fun y hy => by
    obtain ⟨j, hj, rfl⟩ := List.getElem_of_mem hy
    rw [List.length_drop] at hj
    rw [List.getElem_drop]
    have hlt : atL l k < l.length := by omega
    have h0 := htw.2 hlt
    have h1 : ltK k (l[atL l k]).1 = true := by
      cases c : ltK k (l[atL l k]).1 with
      | true => rfl
      | false => exact absurd (ltK_total (hl _ (List.getElem_mem hlt)) h0 c) (hk _ (List.getElem_mem hlt))
    by_cases c : j = 0
    · subst c; exact h1
    · exact ltK_trans h1 (hp (atL l k) (atL l k + j) hlt (by omega) (by omega))
  unfold Sorted
  rw [List.append_assoc, List.pairwise_append]
  refine ⟨hspl.1, ?_, fun a ha b hb => ?_⟩
  · rw [List.singleton_append, List.pairwise_cons]
    exact ⟨hright, hspl.2.1⟩
  · rw [List.singleton_append, List.mem_cons] at hb
    rcases hb with rfl | hb
    · exact htw.1 a ha
    · exact hspl.2.2 a ha b hb
theorem put_sorted {l : List (List UInt8 × Int)} (h : Sorted l) {k : List UInt8} (v : Int) (hl : ∀ x ∈ l, x.1.length = k.length) : Sorted (putL l k v) := by
  unfold putL
  split
  · rename_i i hi
    obtain ⟨hi, e⟩ := find_some hi
    rw [← e]
    exact sorted_set h hi v
  · rename_i hn
    exact sorted_ins h v (find_none.1 hn) hl
theorem put_mem {l : List (List UInt8 × Int)} (h : Sorted l) (k : List UInt8) (v : Int) (x : List UInt8 × Int) : x ∈ putL l k v ↔ x = (k, v) ∨ (x ∈ l ∧ x.1 ≠ k) := by
  unfold putL
  split
  · rename_i i hi
    obtain ⟨hi, e⟩ := find_some hi
    constructor
    · intro hx
      obtain ⟨j, hj, rfl⟩ := List.getElem_of_mem hx
      rw [List.length_set] at hj
      rw [List.getElem_set]
      split
      · exact .inl rfl
      · rename_i hij
        refine .inr ⟨List.getElem_mem hj, fun e' => hij ?_⟩
        have := List.pairwise_iff_getElem.1 h
        rcases Nat.lt_trichotomy i j with c | c | c
        · have := this i j hi hj c
          unfold ltE at this
          rw [e, e', ltK_irrefl] at this; cases this
        · exact c
        · have := this j i hj hi c
          unfold ltE at this
          rw [e, e', ltK_irrefl] at this; cases this
    · rintro (rfl | ⟨hx, hne⟩)
      · exact List.mem_set hi _
      · obtain ⟨j, hj, rfl⟩ := List.getElem_of_mem hx
        have hij : i ≠ j := fun c => by subst c; exact hne e
        exact List.mem_iff_getElem.2 ⟨j, by rw [List.length_set]; exact hj, by rw [List.getElem_set, if_neg hij]⟩
  · rename_i hn
    have hn := find_none.1 hn
    rw [List.append_assoc, List.mem_append, List.mem_append, List.mem_singleton]
    have hs : x ∈ l ↔ x ∈ l.take (atL l k) ∨ x ∈ l.drop (atL l k) := by
      conv => lhs; rw [← List.take_append_drop (atL l k) l]
      rw [List.mem_append]
    constructor
    · rintro (h | h | h)
      · exact .inr ⟨hs.2 (.inl h), hn _ (hs.2 (.inl h))⟩
      · exact .inl h
      · exact .inr ⟨hs.2 (.inr h), hn _ (hs.2 (.inr h))⟩
    · rintro (h | ⟨h, _⟩)
      · exact .inr (.inl h)
      · exact (hs.1 h).elim .inl fun h => .inr (.inr h)
theorem del_sorted {l : List (List UInt8 × Int)} (h : Sorted l) (k : List UInt8) : Sorted (delL l k) := by
  unfold delL
  split
  · rename_i i _
    have hsub : (l.take i ++ l.drop (i + 1)).Sublist l := by
      conv => rhs; rw [← List.take_append_drop i l]
      refine List.Sublist.append_left ?_ _
      rw [← List.drop_drop]
      exact List.drop_sublist 1 _
    exact List.Pairwise.sublist hsub h
  · exact h
theorem del_mem {l : List (List UInt8 × Int)} (h : Sorted l) (k : List UInt8) (x : List UInt8 × Int) : x ∈ delL l k ↔ x ∈ l ∧ x.1 ≠ k := by
  unfold delL
  split
  · rename_i i hi
    obtain ⟨hi, e⟩ := find_some hi
    have hd : l.drop i = l[i] :: l.drop (i + 1) := List.drop_eq_getElem_cons hi
    have hs : x ∈ l ↔ x ∈ l.take i ∨ x = l[i] ∨ x ∈ l.drop (i + 1) := by
      conv => lhs; rw [← List.take_append_drop i l]
      rw [List.mem_append, hd, List.mem_cons]
    have hsp : (l.take i ++ l.drop i).Pairwise ltE := by rw [List.take_append_drop]; exact h
    rw [hd, List.pairwise_append, List.pairwise_cons] at hsp
    rw [List.mem_append]
    constructor
    · rintro (hx | hx)
      · refine ⟨hs.2 (.inl hx), fun e' => ?_⟩
        have := hsp.2.2 x hx l[i] (List.mem_cons_self ..)
        unfold ltE at this
        rw [e, e', ltK_irrefl] at this; cases this
      · refine ⟨hs.2 (.inr (.inr hx)), fun e' => ?_⟩
        have := hsp.2.1.1 x hx
        unfold ltE at this
        rw [e, e', ltK_irrefl] at this; cases this
    · rintro ⟨hx, hne⟩
      rcases hs.1 hx with hx | rfl | hx
      · exact .inl hx
      · exact absurd e hne
      · exact .inr hx
  · rename_i hn
    have hn := find_none.1 hn
    exact ⟨fun hx => ⟨hx, hn x hx⟩, fun hx => hx.1⟩
/-! ### A tree, or none -/
def allO : Option T → List (List UInt8 × Int)
  | none => []
  | some t => t.all
def WFO : Option T → Prop
  | none => True
  | some t => t.WF
theorem WFO.sorted {o : Option T} (h : WFO o) : Sorted (allO o) := by
  cases o with
  | none => exact List.Pairwise.nil
  | some t => exact T.WF.sorted h
theorem WFO.len {o : Option T} (h : WFO o) : ∀ x ∈ allO o, x.1.length = 25 := by
  cases o with
  | none => intro x hx; cases hx
  | some t => intro x hx; exact T.WF.len h _ (T.key_mem hx)
/-- Is a key there? -/
def hasO (k : List UInt8) : Option T → Bool
  | none => false
  | some t => (T.near k t).2.1 == k
theorem has_find {o : Option T} (h : WFO o) (k : List UInt8) : hasO k o = (findL (allO o) k).isSome := by
  cases o with
  | none => rfl
  | some t =>
    have hm := T.mem_iff h k
    cases hf : findL t.all k with
    | none =>
      show ((T.near k t).2.1 == k) = (findL t.all k).isSome
      rw [hf]
      have hn := find_none.1 hf
      have : ¬ (T.near k t).2.1 = k := fun e => by
        obtain ⟨y, hy, e'⟩ := List.mem_map.1 (hm.2 e)
        exact hn y hy e'
      simpa using this
    | some i =>
      show ((T.near k t).2.1 == k) = (findL t.all k).isSome
      rw [hf]
      obtain ⟨hi, e⟩ := find_some hf
      have : (T.near k t).2.1 = k := hm.1 (by rw [← e]; exact T.key_mem (List.getElem_mem hi))
      simpa using this
def putTr (la fa : Nat) (k : List UInt8) (v : Int) : Option T → Option T
  | none => some (.leaf la k v)
  | some t => if (T.near k t).2.1 = k then some (T.upd k v t) else some (T.ins la fa k v ((differ k (T.near k t).2.1).getD 0) t)
def delTr (k : List UInt8) : Option T → Option T
  | none => none
  | some (.leaf a x v) => if x = k then none else some (.leaf a x v)
  | some (.fork a b l r) => if (T.near k (.fork a b l r)).2.1 = k then some (T.del k (.fork a b l r)) else some (.fork a b l r)
theorem differ_new {k x : List UInt8} (hk : k.length = 25) (hx : x.length = 25) (h : ¬ x = k) : ∃ d, differ k x = some d := by
  cases hd : differ k x with
  | none => exact absurd ((differ_none hk hx).1 hd).symm h
  | some d => exact ⟨d, rfl⟩
theorem putTr_WF {la fa : Nat} {k : List UInt8} {v : Int} {o : Option T} (hk : k.length = 25) (h : WFO o) : WFO (putTr la fa k v o) := by
  cases o with
  | none => exact hk
  | some t =>
    show WFO (if _ then _ else _)
    split
    · exact T.upd_WF k v h
    · rename_i hne
      obtain ⟨d, hd⟩ := differ_new hk (T.WF.len h _ (T.near_key k t)) hne
      rw [hd]
      obtain ⟨h1, h2, h3⟩ := differ_some hd
      exact T.ins_WF hk h1 h h2 h3
theorem putTr_all {la fa : Nat} {k : List UInt8} {v : Int} {o : Option T} (hk : k.length = 25) (h : WFO o) : allO (putTr la fa k v o) = putL (allO o) k v := by
  refine sorted_ext (putTr_WF hk h).sorted (put_sorted h.sorted v fun x hx => by rw [h.len x hx, hk]) fun x => ?_
  rw [put_mem h.sorted]
  cases o with
  | none =>
    show x ∈ [(k, v)] ↔ x = (k, v) ∨ (x ∈ [] ∧ x.1 ≠ k)
    simp
  | some t =>
    show x ∈ allO (if _ then _ else _) ↔ _
    split
    · rename_i e
      exact T.upd_all k v h ((T.mem_iff h k).2 e) x
    · rename_i hne
      show x ∈ (T.ins _ _ _ _ _ t).all ↔ _
      rw [T.ins_all]
      constructor
      · rintro (h1 | h1)
        · exact .inl h1
        · exact .inr ⟨h1, fun e => hne ((T.mem_iff h k).1 (by rw [← e]; exact T.key_mem h1))⟩
      · rintro (h1 | h1)
        · exact .inl h1
        · exact .inr h1.1
theorem delTr_WF {k : List UInt8} {o : Option T} (h : WFO o) : WFO (delTr k o) := by
  match o, h with
  | none, _ => trivial
  | some (.leaf a x v), h =>
    show WFO (if _ then _ else _)
    split
    · trivial
    · exact h
  | some (.fork a b l r), h =>
    show WFO (if _ then _ else _)
    split
    · exact T.del_WF k h
    · exact h
theorem delTr_all {k : List UInt8} {o : Option T} (h : WFO o) : allO (delTr k o) = delL (allO o) k := by
  refine sorted_ext (delTr_WF h).sorted (del_sorted h.sorted k) fun x => ?_
  rw [del_mem h.sorted]
  match o, h with
  | none, _ => show x ∈ [] ↔ _; simp [allO]
  | some (.leaf a y v), h =>
    show x ∈ allO (if _ then _ else _) ↔ _
    split
    · rename_i e
      subst e
      show x ∈ [] ↔ x ∈ [(y, v)] ∧ _
      simp only [List.not_mem_nil, List.mem_singleton, false_iff, not_and]
      intro h1 h2
      exact h2 (by rw [h1])
    · rename_i e
      show x ∈ [(y, v)] ↔ x ∈ [(y, v)] ∧ _
      simp only [List.mem_singleton]
      constructor
      · intro h1; exact ⟨h1, by rw [h1]; exact e⟩
      · exact fun h1 => h1.1
  | some (.fork a b l r), h =>
    show x ∈ allO (if _ then _ else _) ↔ _
    split
    · rename_i e
      exact T.del_all k h ((T.mem_iff h k).2 e) x
    · rename_i hne
      show x ∈ (T.fork a b l r).all ↔ x ∈ (T.fork a b l r).all ∧ _
      constructor
      · intro h1
        exact ⟨h1, fun e => hne ((T.mem_iff h k).1 (by rw [← e]; exact T.key_mem h1))⟩
      · exact fun h1 => h1.1
end Go.Proofs.Ytagdedjclbmlkaa
