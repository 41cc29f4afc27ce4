/- Numbers as digits; the lines of acts. -/
import Derived.Test.YtmbbhnbfgcmkgaaDoorB3
import Derived.Test.YtmbbhnbfgcmkgaaDoorWK
namespace Go.Proofs.YtmbbhnbfgcmkgaaDoor
open Go.RowKit

/-- The library's table is laid. -/
def TB (w : World) : Prop := Lib.TabIs Tryd.prog w "internal/strconv.uint64pow10" .u64 Lib.pow10Tab
theorem TB.below {w w' : World} (h : TB w) (hb : Below w.heap.size w w') : TB w' := by
  have hg : Tryd.prog.globalNamed "internal/strconv.uint64pow10" = some 1 := by kernel_rfl
  unfold TB Lib.TabIs World.var? at h ⊢
  rw [hg] at h ⊢
  simp only [Option.bind_some] at h ⊢
  rw [hb.block _ (by
    rcases Nat.lt_or_ge 1 w.heap.size with h' | h'
    · exact h'
    · rw [Array.getElem?_eq_none h'] at h; cases h)]
  exact h
/-- A number's digits, up to 999. -/
def decL (n : Int) : List UInt8 := if n < 10 then [UInt8.ofNat (48 + n.toNat)] else if n < 100 then [UInt8.ofNat (48 + n.toNat / 10), UInt8.ofNat (48 + n.toNat % 10)] else [UInt8.ofNat (48 + n.toNat / 10 / 10), UInt8.ofNat (48 + n.toNat / 10 % 10), UInt8.ofNat (48 + n.toNat % 10)]
theorem dec_itoa {n : Int} (h0 : 0 ≤ n) (h1 : n < 1000) : Lib.itoa n = decL n := by
  unfold Lib.itoa decL
  rw [if_neg (by omega)]
  by_cases h : n < 10
  · rw [if_pos h, Lib.decDigits, dif_pos (by omega)]
  · rw [if_neg h, Lib.decDigits, dif_neg (by omega)]
    by_cases h' : n < 100
    · rw [if_pos h', Lib.decDigits, dif_pos (by omega)]; rfl
    · rw [if_neg h', Lib.decDigits, dif_neg (by omega), Lib.decDigits, dif_pos (by omega)]; rfl
theorem dec_len (n : Int) : (decL n).length ≤ 3 := by
  unfold decL
  split
  · simp
  · split <;> simp
theorem itoa_any (n : Int) (w : World) (h0 : 0 ≤ n) (h1 : n < 1000) (ht : TB w) :
    Calls Tryd.prog 26 #[.int .i64 n] w fun e w' => e = .returned (.string ⟨(decL n).toArray⟩) ∧ Below w.heap.size w w' :=
  (Tryd.strconv_Itoa n (by omega) (by omega) w ht).mono fun e w' ⟨he, k, os, hw⟩ => by
    refine ⟨by rw [he, dec_itoa h0 h1], ?_⟩
    rw [hw]
    exact below_regrown w _ os
/-- A kind's word. -/
def wordL (k : Int) : List UInt8 := if k = 1 then [114, 101, 113, 117, 101, 115, 116] else if k = 2 then [112, 105, 99, 107] else if k = 3 then [116, 97, 107, 101] else if k = 4 then [115, 119, 101, 101, 112] else if k = 5 then [114, 111, 117, 110, 100] else [114, 101, 115, 116]
/-- What a letter of a kind's uses tells. -/
def partD (x : D4) (c : UInt8) : List UInt8 := if c = 119 then decL x.who else if c = 110 then decL x.n else hexD x.b
def lineD (x : D4) : List UInt8 := wordL x.kind ++ (usesL x.kind).flatMap (fun c => 32 :: partD x c) ++ [10]
/-- Acts' lines from the i-th on, behind what is printed. -/
def printF : Nat → List UInt8 → List D4 → List UInt8 × Int
  | _, acc, [] => (acc, 0)
  | i, acc, x :: r => if 200 ≤ i then ([], 2) else if errD (bareD x) ≠ 0 then ([], errD (bareD x)) else printF (i + 1) (acc ++ lineD (bareD x)) r
end Go.Proofs.YtmbbhnbfgcmkgaaDoor
