/- Lines read: plain. -/
import Derived.Test.YtmbbhnbfgcmkgaaDoorP3
import Derived.Test.YtmbbhnbfgcmkgaaDoorA1
namespace Go.Proofs.YtmbbhnbfgcmkgaaDoor
open Go.RowKit

def joinD (d : UInt8) : List (List UInt8) → List UInt8
  | [] => []
  | [p] => p
  | p :: q :: r => p ++ d :: joinD d (q :: r)
theorem joinD_cons (d : UInt8) (p : List UInt8) {r : List (List UInt8)} (h : r ≠ []) : joinD d (p :: r) = p ++ d :: joinD d r := by
  cases r with
  | nil => exact absurd rfl h
  | cons q r => rfl
theorem joinD_head (d c : UInt8) (p : List UInt8) (r : List (List UInt8)) : joinD d ((c :: p) :: r) = c :: joinD d (p :: r) := by
  cases r <;> rfl
theorem join_spl (d : UInt8) : ∀ l : List UInt8, joinD d (spl d l) = l
  | [] => rfl
  | c :: l => by
    have ih := join_spl d l
    unfold spl
    split
    · rename_i h
      rw [joinD_cons _ _ (spl_ne d l), ih, h]; rfl
    · split
      · rename_i p ps hq
        rw [hq] at ih
        rw [joinD_head, ih]
      · rename_i hq
        exact absurd hq (spl_ne d l)
def kindL (p : List UInt8) : Int := if p = [114, 101, 113, 117, 101, 115, 116] then 1 else if p = [112, 105, 99, 107] then 2 else if p = [116, 97, 107, 101] then 3 else if p = [115, 119, 101, 101, 112] then 4 else if p = [114, 111, 117, 110, 100] then 5 else if p = [114, 101, 115, 116] then 6 else 0
theorem kind_word (k : Int) (h1 : 1 ≤ k) (h2 : k ≤ 6) : kindL (wordL k) = k := by
  obtain rfl | rfl | rfl | rfl | rfl | rfl : k = 1 ∨ k = 2 ∨ k = 3 ∨ k = 4 ∨ k = 5 ∨ k = 6 := by omega
  all_goals decide
theorem word_kind {p : List UInt8} (h : kindL p ≠ 0) : wordL (kindL p) = p ∧ 1 ≤ kindL p ∧ kindL p ≤ 6 := by
  unfold kindL at h ⊢
  split
  · rename_i e; subst e; decide
  split
  · rename_i e; subst e; decide
  split
  · rename_i e; subst e; decide
  split
  · rename_i e; subst e; decide
  split
  · rename_i e; subst e; decide
  split
  · rename_i e; subst e; decide
  rename_i e1 e2 e3 e4 e5 e6
  rw [if_neg e1, if_neg e2, if_neg e3, if_neg e4, if_neg e5, if_neg e6] at h
  exact absurd rfl h
theorem kind_in (p : List UInt8) : kindL p = 0 ∨ kindL p = 1 ∨ kindL p = 2 ∨ kindL p = 3 ∨ kindL p = 4 ∨ kindL p = 5 ∨ kindL p = 6 := by
  by_cases h : kindL p = 0
  · exact Or.inl h
  · have := word_kind h; omega
/-- A letter of a kind's uses, read. -/
def argL (a : D4) (c : UInt8) (p : List UInt8) : D4 × Int :=
  if c = 119 then ({ a with who := (numL p 7).1 }, (numL p 7).2) else if c = 110 then ({ a with n := (numL p 300).1 }, (numL p 300).2) else ({ a with b := (bytesL p).1 }, (bytesL p).2)
def argsL : D4 → List UInt8 → List (List UInt8) → D4 × Int
  | a, c :: u, p :: r => if (argL a c p).2 ≠ 0 then (d40, (argL a c p).2) else argsL (argL a c p).1 u r
  | a, [], _ => (a, 0)
  | a, _ :: _, [] => (a, 0)
def lineW : List (List UInt8) → D4 × Int
  | [] => (d40, 16)
  | p :: r => if kindL p = 0 then (d40, 16) else if r.length ≠ (usesL (kindL p)).length then (d40, 3) else argsL ⟨kindL p, 0, 0, []⟩ (usesL (kindL p)) r
def lineL (l : List UInt8) : D4 × Int := lineW (spl 32 l)
def parseP : List D4 → List (List UInt8) → List D4 × Nat × Int
  | out, [] => (out, 0, 0)
  | out, [r] => if r = [] then (out, 0, 0) else ([], out.length, 4)
  | out, p :: q :: ps => if 200 ≤ out.length then ([], out.length, 2) else if (lineL p).2 ≠ 0 then ([], out.length, (lineL p).2) else parseP (out ++ [(lineL p).1]) (q :: ps)
def parseL (s : List UInt8) : List D4 × Nat × Int := parseP [] (spl 10 s)

/-! Numbers there and back. -/
theorem num_dec7 : ∀ n : Fin 8, numL (decL (n.val : Int)) 7 = ((n.val : Int), 0) := by decide +kernel
theorem num_dec300 : ∀ n : Fin 301, numL (decL (n.val : Int)) 300 = ((n.val : Int), 0) := by decide +kernel
theorem num_dec {n most : Int} (hm : most = 7 ∨ most = 300) (h0 : 0 ≤ n) (h1 : n ≤ most) : numL (decL n) most = (n, 0) := by
  obtain ⟨m, rfl⟩ := Int.eq_ofNat_of_zero_le h0
  rcases hm with rfl | rfl
  · exact num_dec7 ⟨m, by omega⟩
  · exact num_dec300 ⟨m, by omega⟩
theorem u8_dig {c : UInt8} {k : Nat} (h : c.toNat = 48 + k) : c = UInt8.ofNat (48 + k) := by rw [← h]; simp
theorem dec_num {l : List UInt8} {most : Int} (hm : most ≤ 999) (h : (numL l most).2 = 0) : decL (numL l most).1 = l ∧ 0 ≤ (numL l most).1 ∧ (numL l most).1 ≤ most := by
  by_cases hb : l = [] ∨ 4 < l.length ∨ (1 < l.length ∧ l[0]? = some 48)
  · rw [numL_bad hb] at h; exact absurd h (by decide)
  rw [numL_ok hb] at h ⊢
  cases hd : dgs 0 l with
  | none => rw [hd] at h; simp at h
  | some n =>
    rw [hd] at h
    simp only at h ⊢
    by_cases hmn : most < (n : Int)
    · rw [if_pos hmn] at h; exact absurd h (by decide)
    · rw [if_neg hmn]
      refine ⟨?_, by simp only; omega, by simp only; omega⟩
      simp only
      have hn : n < 1000 := by omega
      match l, hb, hd with
      | [], hb, _ => exact absurd (Or.inl rfl) hb
      | [a], hb, hd =>
        simp only [dgs] at hd
        split at hd
        · cases hd
        · simp only [Option.some.injEq] at hd
          unfold decL
          rw [if_pos (by omega)]
          exact congrArg (· :: []) (u8_dig (by omega)).symm
      | [a, b], hb, hd =>
        have ha : a ≠ 48 := fun e => hb (Or.inr (Or.inr ⟨by simp, by rw [e]; rfl⟩))
        have ha' : a.toNat ≠ 48 := fun e => ha (UInt8.toNat_inj.1 e)
        simp only [dgs] at hd
        split at hd
        · cases hd
        split at hd
        · cases hd
        simp only [Option.some.injEq] at hd
        unfold decL
        rw [if_neg (by omega), if_pos (by omega), ← u8_dig (c := a) (k := (n : Int).toNat / 10) (by omega), ← u8_dig (c := b) (k := (n : Int).toNat % 10) (by omega)]
      | [a, b, c], hb, hd =>
        have ha : a ≠ 48 := fun e => hb (Or.inr (Or.inr ⟨by simp, by rw [e]; rfl⟩))
        have ha' : a.toNat ≠ 48 := fun e => ha (UInt8.toNat_inj.1 e)
        simp only [dgs] at hd
        split at hd
        · cases hd
        split at hd
        · cases hd
        split at hd
        · cases hd
        simp only [Option.some.injEq] at hd
        unfold decL
        rw [if_neg (by omega), if_neg (by omega), ← u8_dig (c := a) (k := (n : Int).toNat / 10 / 10) (by omega), ← u8_dig (c := b) (k := (n : Int).toNat / 10 % 10) (by omega), ← u8_dig (c := c) (k := (n : Int).toNat % 10) (by omega)]
      | [a, b, c, d], hb, hd =>
        have ha : a ≠ 48 := fun e => hb (Or.inr (Or.inr ⟨by simp, by rw [e]; rfl⟩))
        have ha' : a.toNat ≠ 48 := fun e => ha (UInt8.toNat_inj.1 e)
        simp only [dgs] at hd
        split at hd
        · cases hd
        split at hd
        · cases hd
        split at hd
        · cases hd
        split at hd
        · cases hd
        simp only [Option.some.injEq] at hd
        omega
      | a :: b :: c :: d :: e :: r, hb, _ => exact absurd (Or.inr (Or.inl (by simp))) hb
theorem dec_no (n : Int) (h0 : 0 ≤ n) (h1 : n ≤ 300) : ∀ c ∈ decL n, c ≠ 32 ∧ c ≠ 10 := by
  obtain ⟨m, rfl⟩ := Int.eq_ofNat_of_zero_le h0
  have : ∀ m : Fin 301, ∀ c ∈ decL (m.val : Int), c ≠ 32 ∧ c ≠ 10 := by decide +kernel
  exact this ⟨m, by omega⟩

/-! Bytes there and back. -/
theorem hv_hx : ∀ n : Fin 16, hv (hx n.val) = (n.val : Int) := by decide +kernel
theorem hx_hv_all : ∀ n : Fin 256, 0 ≤ hv (UInt8.ofNat n.val) → hx (hv (UInt8.ofNat n.val)).toNat = UInt8.ofNat n.val := by decide +kernel
theorem hx_hv (c : UInt8) (h : 0 ≤ hv c) : hx (hv c).toNat = c := by
  have := hx_hv_all ⟨c.toNat, c.toNat_lt⟩
  simp only [UInt8.ofNat_toNat] at this
  exact this h
theorem hx_no : ∀ n : Fin 16, hx n.val ≠ 32 ∧ hx n.val ≠ 10 := by decide +kernel
theorem hexL_get : ∀ (b : List UInt8) (j : Nat) (h : j < b.length), (hexL b)[2 * j]? = some (hx (b[j].toNat / 16)) ∧ (hexL b)[2 * j + 1]? = some (hx (b[j].toNat % 16))
  | [], j, h => by simp at h
  | c :: b, 0, _ => ⟨rfl, rfl⟩
  | c :: b, j + 1, h => by
    have ih := hexL_get b j (by simpa using h)
    have e : hexL (c :: b) = hx (c.toNat / 16) :: hx (c.toNat % 16) :: hexL b := rfl
    rw [e, show 2 * (j + 1) = 2 * j + 1 + 1 by omega, List.getElem?_cons_succ, List.getElem?_cons_succ, List.getElem?_cons_succ, List.getElem?_cons_succ]
    exact ih
theorem hexL_getD (b : List UInt8) (j : Nat) (h : j < b.length) : (hexL b).getD (2 * j) 0 = hx (b[j].toNat / 16) ∧ (hexL b).getD (2 * j + 1) 0 = hx (b[j].toNat % 16) := by
  have := hexL_get b j h
  rw [List.getD_eq_getElem?_getD, List.getD_eq_getElem?_getD, this.1, this.2]; exact ⟨rfl, rfl⟩
theorem hn_hex (b : List UInt8) (j : Nat) (h : j < b.length) : hn (hexL b) (2 * j) = b[j].toNat / 16 ∧ hn (hexL b) (2 * j + 1) = b[j].toNat % 16 ∧ 0 ≤ hv ((hexL b).getD (2 * j) 0) ∧ 0 ≤ hv ((hexL b).getD (2 * j + 1) 0) := by
  have h1 := hexL_getD b j h
  have hb := b[j].toNat_lt
  have v1 := hv_hx ⟨b[j].toNat / 16, by omega⟩
  have v2 := hv_hx ⟨b[j].toNat % 16, by omega⟩
  simp only at v1 v2
  unfold hn
  rw [h1.1, h1.2, v1, v2]
  omega
theorem bytes_hex (b : List UInt8) (hb : b.length ≤ 1300) : bytesL (hexD b) = (b, 0) := by
  unfold hexD
  split
  · rename_i h; subst h; rfl
  · rename_i h
    have hl := hexL_len b
    have hp : 0 < b.length := List.length_pos_iff.2 h
    unfold bytesL
    rw [if_neg (fun e => by rw [e] at hl; simp at hl; omega), if_neg (by rintro (e | e); rw [e] at hl; simp at hl; omega; omega), if_neg, if_neg (by omega)]
    · refine Prod.ext ?_ rfl
      show partB _ _ _ = b
      refine List.ext_getElem (by rw [partB_len]; omega) fun j h1 h2 => ?_
      rw [partB_get _ _ _ j (by rw [partB_len] at h1; exact h1)]
      unfold pB
      rw [if_pos (by omega), (hn_hex b j h2).1, (hn_hex b j h2).2.1, show 16 * (b[j].toNat / 16) + b[j].toNat % 16 = b[j].toNat by omega]
      simp
    · rintro ⟨j, hj, hv0⟩
      have h3 := hn_hex b (j / 2) (by omega)
      rcases Nat.mod_two_eq_zero_or_one j with e | e
      · rw [show j = 2 * (j / 2) by omega] at hv0; omega
      · rw [show j = 2 * (j / 2) + 1 by omega] at hv0; omega
theorem hex_bytes {l : List UInt8} (h : (bytesL l).2 = 0) : hexD (bytesL l).1 = l ∧ (bytesL l).1.length ≤ 1300 := by
  unfold bytesL at h ⊢
  split at h
  · rename_i e; rw [if_pos e, e]; exact ⟨rfl, by simp⟩
  rename_i e1
  rw [if_neg e1]
  split at h
  · exact absurd h (by decide)
  rename_i e2
  rw [if_neg e2]
  split at h
  · exact absurd h (by decide)
  rename_i e3
  rw [if_neg e3]
  split at h
  · exact absurd h (by decide)
  rename_i e4
  rw [if_neg e4]
  simp only [partB_len]
  refine ⟨?_, by omega⟩
  have hpos : 0 < l.length := List.length_pos_iff.2 fun e => e2 (Or.inl e)
  have hev : l.length % 2 = 0 := by have : ¬ l.length % 2 = 1 := fun e => e2 (Or.inr e)
                                    omega
  unfold hexD
  rw [if_neg (fun e => by have := congrArg List.length e; rw [partB_len] at this; simp at this; omega)]
  have hge : ∀ j, j < l.length → 0 ≤ hv (l.getD j 0) := fun j hj => by
    rcases Int.lt_or_le (hv (l.getD j 0)) 0 with h | h
    · exact absurd ⟨j, hj, h⟩ e3
    · exact h
  have hgd : ∀ j, j < l.length → some (hx (hn l j)) = l[j]? := fun j hj => by
    unfold hn
    rw [hx_hv _ (hge j hj), List.getD_eq_getElem?_getD, List.getElem?_eq_getElem hj]; rfl
  refine List.ext_getElem? fun i => ?_
  rcases Nat.lt_or_ge i l.length with hi | hi
  · have hlt : i / 2 < (partB l (l.length / 2) l.length).length := by rw [partB_len]; omega
    have h3 := hexL_get (partB l (l.length / 2) l.length) (i / 2) hlt
    rw [partB_get _ _ _ _ (by omega)] at h3
    have hpb : (pB l l.length (i / 2)).toNat = 16 * hn l (2 * (i / 2)) + hn l (2 * (i / 2) + 1) := by
      unfold pB
      have h1 := hn_lt l (2 * (i / 2))
      have h2 := hn_lt l (2 * (i / 2) + 1)
      rw [if_pos (by omega)]
      simp; omega
    rw [hpb] at h3
    have h1 := hn_lt l (2 * (i / 2))
    have h2 := hn_lt l (2 * (i / 2) + 1)
    rw [show (16 * hn l (2 * (i / 2)) + hn l (2 * (i / 2) + 1)) / 16 = hn l (2 * (i / 2)) by omega, show (16 * hn l (2 * (i / 2)) + hn l (2 * (i / 2) + 1)) % 16 = hn l (2 * (i / 2) + 1) by omega] at h3
    rcases Nat.mod_two_eq_zero_or_one i with e | e
    · have := h3.1
      rw [show 2 * (i / 2) = i by omega] at this
      rw [this, hgd i hi]
    · have := h3.2
      rw [show 2 * (i / 2) + 1 = i by omega] at this
      rw [this, hgd i hi]
  · rw [List.getElem?_eq_none hi, List.getElem?_eq_none (by rw [hexL_len, partB_len]; omega)]
theorem hexD_no (b : List UInt8) : ∀ c ∈ hexD b, c ≠ 32 ∧ c ≠ 10 := by
  unfold hexD
  split
  · intro c hc; simp at hc; subst hc; decide
  · intro c hc
    unfold hexL at hc
    obtain ⟨d, _, hd⟩ := List.mem_flatMap.1 hc
    have hb := d.toNat_lt
    have v1 := hx_no ⟨d.toNat / 16, by omega⟩
    have v2 := hx_no ⟨d.toNat % 16, by omega⟩
    simp at hd
    rcases hd with rfl | rfl
    · exact v1
    · exact v2
theorem word_no : ∀ k : Int, ∀ c ∈ wordL k, c ≠ 32 ∧ c ≠ 10 := by
  intro k
  unfold wordL
  repeat' split
  all_goals decide
end Go.Proofs.YtmbbhnbfgcmkgaaDoor
