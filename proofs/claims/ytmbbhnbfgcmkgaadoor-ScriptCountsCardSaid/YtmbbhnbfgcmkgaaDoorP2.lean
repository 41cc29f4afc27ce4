/- The program's bytes. -/
import Derived.Test.YtmbbhnbfgcmkgaaDoorP1
namespace Go.Proofs.YtmbbhnbfgcmkgaaDoor
open Go.RowKit
/-- A digit's worth. -/
def hv (c : UInt8) : Int := Lib.indexByte [48, 49, 50, 51, 52, 53, 54, 55, 56, 57, 97, 98, 99, 100, 101, 102] c
theorem hv_all : ∀ n : Fin 256, hv (UInt8.ofNat n.val) < 16 ∧ -1 ≤ hv (UInt8.ofNat n.val) := by decide +kernel
theorem hv_in (c : UInt8) : hv c < 16 ∧ -1 ≤ hv c := by
  have := hv_all ⟨c.toNat, c.toNat_lt⟩
  simpa using this
theorem or_nib : ∀ x y : Fin 16, bits .or .u8 (16 * (x.val : Int)) (y.val : Int) = 16 * (x.val : Int) + y.val := by decide +kernel
def hn (l : List UInt8) (j : Nat) : Nat := (hv (l.getD j 0)).toNat
theorem hn_lt (l : List UInt8) (j : Nat) : hn l j < 16 := by have := hv_in (l.getD j 0); unfold hn; omega
/-- The bytes, behind k of the digits. -/
def pB (l : List UInt8) (k j : Nat) : UInt8 := if 2 * j + 1 < k then UInt8.ofNat (16 * hn l (2 * j) + hn l (2 * j + 1)) else if 2 * j < k then UInt8.ofNat (hn l (2 * j)) else 0
def partB (l : List UInt8) (m k : Nat) : List UInt8 := (List.range m).map (pB l k)
theorem partB_len (l : List UInt8) (m k : Nat) : (partB l m k).length = m := by simp [partB]
theorem partB_get (l : List UInt8) (m k j : Nat) (h : j < m) : (partB l m k)[j]'(by rw [partB_len]; exact h) = pB l k j := by simp [partB]
theorem partB_set (l : List UInt8) (m k : Nat) : (partB l m k).set (k / 2) (pB l (k + 1) (k / 2)) = partB l m (k + 1) := by
  refine List.ext_getElem (by simp [partB]) fun j h1 h2 => ?_
  have hj : j < m := by simpa [partB] using h2
  rw [List.getElem_set, partB_get l m (k + 1) j hj]
  split
  · rename_i e; subst e; rfl
  · rename_i e
    rw [partB_get l m k j hj]
    unfold pB
    by_cases ha : 2 * j + 1 < k
    · rw [if_pos ha, if_pos (by omega)]
    · by_cases hb : 2 * j + 1 < k + 1
      · exfalso; omega
      · rw [if_neg ha, if_neg hb]
        by_cases hc : 2 * j < k
        · exfalso; omega
        · rw [if_neg hc, if_neg (by omega)]
theorem partB_zero (l : List UInt8) (m : Nat) : partB l m 0 = List.replicate m 0 := by
  refine List.ext_getElem (by simp [partB]) fun j h1 h2 => ?_
  rw [partB_get l m 0 j (by simpa [partB] using h1)]
  simp [pB]
theorem pB_even (l : List UInt8) (k : Nat) (h : k % 2 = 0) : pB l k (k / 2) = 0 ∧ pB l (k + 1) (k / 2) = UInt8.ofNat (hn l k) := by
  have e : 2 * (k / 2) = k := by omega
  unfold pB
  rw [e, if_neg (by omega), if_neg (by omega), if_neg (by omega), if_pos (by omega)]
  exact ⟨rfl, rfl⟩
theorem pB_odd (l : List UInt8) (k : Nat) (h : k % 2 = 1) : pB l k (k / 2) = UInt8.ofNat (hn l (k - 1)) ∧ pB l (k + 1) (k / 2) = UInt8.ofNat (16 * hn l (k - 1) + hn l k) := by
  have e : 2 * (k / 2) = k - 1 := by omega
  have e2 : k - 1 + 1 = k := by omega
  unfold pB
  rw [e, e2, if_neg (by omega), if_pos (by omega), if_pos (by omega)]
  exact ⟨rfl, rfl⟩
/-- One step of the program's. -/
theorem pB_step (l : List UInt8) (k : Nat) : bits .or .u8 (IntKind.u8.wrap (((pB l k (k / 2)).toNat : Int) * 16)) ((hn l k : Nat) : Int) = ((pB l (k + 1) (k / 2)).toNat : Int) := by
  have h1 := hn_lt l k
  rcases Nat.mod_two_eq_zero_or_one k with h | h
  · rw [(pB_even l k h).1, (pB_even l k h).2]
    have : bits .or .u8 0 ((hn l k : Nat) : Int) = ((hn l k : Nat) : Int) := by have := or_nib ⟨0, by omega⟩ ⟨hn l k, h1⟩; simpa using this
    have e : IntKind.u8.wrap (((0 : UInt8).toNat : Int) * 16) = 0 := by decide
    rw [e]
    have e2 : (UInt8.ofNat (hn l k)).toNat = hn l k := by simp; omega
    rw [e2, this]
  · have h2 := hn_lt l (k - 1)
    rw [(pB_odd l k h).1, (pB_odd l k h).2]
    have : bits .or .u8 (16 * ((hn l (k - 1) : Nat) : Int)) ((hn l k : Nat) : Int) = 16 * ((hn l (k - 1) : Nat) : Int) + ((hn l k : Nat) : Int) := or_nib ⟨hn l (k - 1), h2⟩ ⟨hn l k, h1⟩
    have e1 : (UInt8.ofNat (hn l (k - 1))).toNat = hn l (k - 1) := by simp; omega
    have e2 : (UInt8.ofNat (16 * hn l (k - 1) + hn l k)).toNat = 16 * hn l (k - 1) + hn l k := by simp; omega
    have e3 : IntKind.u8.wrap (((hn l (k - 1) : Nat) : Int) * 16) = 16 * ((hn l (k - 1) : Nat) : Int) := by simp [IntKind.wrap, IntKind.bits, IntKind.signed]; omega
    rw [e1, e2, e3, this]
    omega
end Go.Proofs.YtmbbhnbfgcmkgaaDoor
