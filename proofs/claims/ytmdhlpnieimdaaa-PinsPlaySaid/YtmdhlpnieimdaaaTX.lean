/- Texts joined: TX. -/
import Derived.Test.YtmdhlpnieimdaaaGX
import Derived.Test.YtmdhlpnieimdaaaRows
import Derived.WalkKit
import Derived.Deep.CutBlock
import Derived.WalkSpells
import Derived.WalkLawsBesides
import Derived.Lib.Hide
import Derived.BigQuiet
import Derived.Outline
import Derived.Laws.Bits64b
import Derived.Lib.QuietBelow
import Derived.MapKept
/- bits.Top, bits.Bottom. -/
namespace Go.Proofs.Ytmdhlpnieimdaaa
open Go.RowKit

theorem bit_of (x k : Nat) (hx : x < 18446744073709551616) : (bits BinOp.and IntKind.u64 ((x : Int) / 2 ^ k) 1 == 1) = x.testBit k := by
  have e : ((x : Int) / 2 ^ k) = ((x / 2 ^ k : Nat) : Int) := by rw [Int.natCast_ediv, Int.natCast_pow]; rfl
  have hlt : x / 2 ^ k < 18446744073709551616 := Nat.lt_of_le_of_lt (Nat.div_le_self _ _) hx
  have h := bits_and_u64_nat (x / 2 ^ k) 1 (by omega) (by omega)
  rw [e]
  rw [show ((1 : Nat) : Int) = 1 from rfl] at h
  rw [h, Nat.testBit_eq_decide_div_mod_eq, Nat.and_one_is_mod]
  cases hm : decide (x / 2 ^ k % 2 = 1) <;> simp at hm ⊢ <;> omega
/-- The highest bit below k, or -1. -/
def topTo (x : Nat) : Nat → Int
  | 0 => -1
  | k + 1 => if x.testBit k then (k : Int) else topTo x k

set_option maxHeartbeats 400000 in
theorem top_any (x : Nat) (w : World) (hx : x < 18446744073709551616) :
    Calls Try.prog 25 #[.int .u64 x] w fun e w' => e = .returned (.int .i64 (topTo x 64)) ∧ w = w' := by
  go_enter Try.func25, Try.ntmps25
  go_wp2_with fail
  go_loop [3, 5] (fun c i => ∃ k : Nat, k ≤ 64 ∧ i = .int .i64 k ∧ c = .int .i64 (topTo x k)) (fun _ i => 64 - (intOf i).toNat)
  case atStart => exact ⟨0, by omega, rfl, rfl⟩
  case round =>
    obtain ⟨k, hk, rfl, rfl⟩ := hrel
    by_cases hlt : k < 64
    · have hk3 : (k : Int) < 64 := by omega
      have hb := bit_of x k hx
      have HT : Hid (topTo x (k + 1) = if x.testBit k then (k : Int) else topTo x k) := rfl
      cases ht : x.testBit k
      all_goals
        rw [ht] at hb HT
        clear ht
        go_wp2_with fail
        go_round
        case rel => exact ⟨k + 1, by omega, by go_num, by rw [HT.out]; rfl⟩
        case measure => simp [intOf]; omega
    · obtain rfl : k = 64 := by omega
      go_wp2_with fail
      go_ret
      exact ⟨rfl, rfl⟩
end Go.Proofs.Ytmdhlpnieimdaaa

/- bits.Bottom: the least bit. -/
namespace Go.Proofs.Ytmdhlpnieimdaaa
open Go.RowKit

/-- The least bit from k on, n places, or -1. -/
def botFrom (x : Nat) : Nat → Nat → Int
  | _, 0 => -1
  | k, n + 1 => if x.testBit k then (k : Int) else botFrom x (k + 1) n
def botOf (x : Nat) : Int := botFrom x 0 64

theorem topTo_none {x : Nat} : ∀ k, (∀ i, i < k → x.testBit i = false) → topTo x k = -1
  | 0, _ => rfl
  | k + 1, h => by rw [topTo, h k (by omega)]; exact topTo_none k fun i hi => h i (by omega)
theorem topTo_one {x j : Nat} : ∀ k, j < k → x.testBit j = true → (∀ i, i < k → i ≠ j → x.testBit i = false) → topTo x k = j
  | k + 1, hj, h1, h2 => by
    rw [topTo]
    by_cases e : j = k
    · subst e; rw [h1]; rfl
    · rw [h2 k (by omega) (by omega)]
      exact topTo_one k (by omega) h1 fun i hi => h2 i (by omega)
theorem botFrom_none {x : Nat} : ∀ n k, (∀ i, k ≤ i → i < k + n → x.testBit i = false) → botFrom x k n = -1
  | 0, _, _ => rfl
  | n + 1, k, h => by rw [botFrom, h k (by omega) (by omega)]; exact botFrom_none n (k + 1) fun i h1 h2 => h i (by omega) (by omega)
theorem botFrom_one {x j : Nat} : ∀ n k, k ≤ j → j < k + n → x.testBit j = true → (∀ i, k ≤ i → i < j → x.testBit i = false) → botFrom x k n = j
  | 0, k, h1, h2, _, _ => by omega
  | n + 1, k, h1, h2, h3, h4 => by
    rw [botFrom]
    by_cases e : k = j
    · subst e; rw [h3]; rfl
    · rw [h4 k (by omega) (by omega)]
      exact botFrom_one n (k + 1) (by omega) (by omega) h3 fun i g1 g2 => h4 i (by omega) g2

/-- A number is nothing, or has a least bit. -/
theorem low_bit (x : Nat) : x = 0 ∨ ∃ j m, x = 2 ^ j * (2 * m + 1) := by
  induction x using Nat.strongRecOn with
  | ind x ih =>
    by_cases h0 : x = 0
    · exact .inl h0
    · right
      by_cases h1 : x % 2 = 1
      · exact ⟨0, x / 2, by rw [Nat.pow_zero, Nat.one_mul]; omega⟩
      · rcases ih (x / 2) (by omega) with h | ⟨j, m, h⟩
        · omega
        · exact ⟨j + 1, m, by
            have : x = 2 * (x / 2) := by omega
            rw [this, h, Nat.pow_succ, Nat.mul_comm (2 ^ j) 2, Nat.mul_assoc]⟩

theorem low_test (j m i : Nat) : (2 ^ j * (2 * m + 1)).testBit i = (decide (j ≤ i) && (2 * m + 1).testBit (i - j)) := by
  rw [Nat.testBit_two_pow_mul]
theorem odd_test (m i : Nat) : (2 * m + 1).testBit i = if i = 0 then true else m.testBit (i - 1) := by
  cases i with
  | zero => simp [Nat.testBit_zero]
  | succ i => rw [Nat.testBit_succ]; simp; congr 1; omega
theorem bottom_law (x : Nat) (hx : x < 18446744073709551616) : topTo (x &&& ((18446744073709551616 - x) % 18446744073709551616)) 64 = botOf x := by
  rcases low_bit x with rfl | ⟨j, m, rfl⟩
  · rfl
  · have h64 : (18446744073709551616 : Nat) = 2 ^ 64 := by decide
    have hj : j < 64 := by
      rcases Nat.lt_or_ge j 64 with h | h
      · exact h
      · have : 2 ^ 64 ≤ 2 ^ j := Nat.pow_le_pow_right (by omega) h
        have : 2 ^ j * 1 ≤ 2 ^ j * (2 * m + 1) := Nat.mul_le_mul_left _ (by omega)
        omega
    have hm : m < 2 ^ (63 - j) := by
      rcases Nat.lt_or_ge m (2 ^ (63 - j)) with h | h
      · exact h
      · have h1 : 2 ^ j * (2 * 2 ^ (63 - j) + 1) ≤ 2 ^ j * (2 * m + 1) := Nat.mul_le_mul_left _ (by omega)
        have h2 : 2 ^ j * (2 * 2 ^ (63 - j)) = 2 ^ 64 := by
          rw [← Nat.pow_succ', ← Nat.pow_add]; congr 1; omega
        rw [Nat.mul_add, h2] at h1
        have : 0 < 2 ^ j := Nat.two_pow_pos j
        omega
    have hneg : 18446744073709551616 - 2 ^ j * (2 * m + 1) = 2 ^ j * (2 * (2 ^ (63 - j) - (m + 1)) + 1) := by
      have h2 : 2 ^ j * (2 * 2 ^ (63 - j)) = 2 ^ 64 := by
        rw [← Nat.pow_succ', ← Nat.pow_add]; congr 1; omega
      rw [h64, ← h2, ← Nat.mul_sub]
      congr 1; omega
    have hpos : 0 < 2 ^ j * (2 * m + 1) := Nat.mul_pos (Nat.two_pow_pos j) (by omega)
    rw [Nat.mod_eq_of_lt (by omega), hneg]
    have hbit : ∀ i, (2 ^ j * (2 * m + 1) &&& 2 ^ j * (2 * (2 ^ (63 - j) - (m + 1)) + 1)).testBit i = decide (i = j) := fun i => by
      rw [Nat.testBit_and, low_test, low_test]
      by_cases hij : j ≤ i
      · rw [decide_eq_true hij, Bool.true_and, Bool.true_and, odd_test, odd_test]
        by_cases e : i - j = 0
        · rw [if_pos e, if_pos e]
          have : i = j := by omega
          simp [this]
        · rw [if_neg e, if_neg e, Nat.testBit_two_pow_sub_succ hm]
          have : i ≠ j := by omega
          cases m.testBit (i - j - 1) <;> simp [this]
      · have : i ≠ j := by omega
        simp [hij, this]
    rw [topTo_one 64 hj (by rw [hbit]; simp) (fun i _ hi => by rw [hbit]; simp [hi])]
    refine (botFrom_one 64 0 (Nat.zero_le _) (by omega) ?_ fun i _ hi => ?_).symm
    · rw [low_test, odd_test]; simp
    · rw [low_test]; simp; omega

theorem neg_u64 (x : Nat) (hx : x < 18446744073709551616) : IntKind.u64.wrap (-(x : Int)) = (((18446744073709551616 - x) % 18446744073709551616 : Nat) : Int) := by
  show (-(x : Int)) % 18446744073709551616 = _
  omega

set_option maxHeartbeats 400000 in
theorem bottom_any (x : Nat) (w : World) (hx : x < 18446744073709551616) :
    Calls Try.prog 20 #[.int .u64 x] w fun e w' => e = .returned (.int .i64 (botOf x)) ∧ w = w' := by
  have hn := neg_u64 x hx
  have ha := bits_and_u64_nat x ((18446744073709551616 - x) % 18446744073709551616) hx (by omega)
  have hlt : (x &&& ((18446744073709551616 - x) % 18446744073709551616)) < 18446744073709551616 := Nat.lt_of_le_of_lt Nat.and_le_left hx
  have HT : Hid (∀ W, Calls Try.prog 25 #[.int .u64 ((x &&& ((18446744073709551616 - x) % 18446744073709551616) : Nat))] W fun e w' => e = .returned (.int .i64 (botOf x)) ∧ W = w') := fun W => by
    have h := top_any _ W hlt
    rw [bottom_law x hx] at h; exact h
  generalize (18446744073709551616 - x) % 18446744073709551616 = y at *
  generalize (x &&& y) = z at *
  go_enter Try.func20, Try.ntmps20
  go_wp2_with (go_at_call 25; (refine (HT.out _).mono ?_); rintro e w1 ⟨rfl, rfl⟩)
  go_ret
  exact ⟨rfl, rfl⟩
end Go.Proofs.Ytmdhlpnieimdaaa

/- bits.Ones: how many bits. -/
namespace Go.Proofs.Ytmdhlpnieimdaaa
open Go.RowKit

def cntTo (x : Nat) : Nat → Nat
  | 0 => 0
  | k + 1 => cntTo x k + if x.testBit k then 1 else 0
def onesOf (x : Nat) : Nat := cntTo x 64
theorem cntTo_le (x : Nat) : ∀ k, cntTo x k ≤ k
  | 0 => Nat.le_refl _
  | k + 1 => by have := cntTo_le x k; rw [cntTo]; split <;> omega
theorem cntTo_same {x y : Nat} : ∀ k, (∀ i, i < k → x.testBit i = y.testBit i) → cntTo x k = cntTo y k
  | 0, _ => rfl
  | k + 1, h => by rw [cntTo, cntTo, h k (by omega), cntTo_same k fun i hi => h i (by omega)]
theorem cntTo_flip {x y j : Nat} : ∀ k, j < k → x.testBit j = true → y.testBit j = false → (∀ i, i ≠ j → x.testBit i = y.testBit i) → cntTo x k = cntTo y k + 1
  | 0, h, _, _, _ => by omega
  | k + 1, h, h1, h2, h3 => by
    rw [cntTo, cntTo]
    by_cases e : j = k
    · subst e
      rw [h1, h2, cntTo_same j fun i hi => h3 i (by omega)]; rfl
    · rw [cntTo_flip k (by omega) h1 h2 h3, h3 k (by omega)]; omega
theorem ones_step (x : Nat) (hx : x < 18446744073709551616) (h0 : x ≠ 0) : onesOf x = onesOf (x &&& (x - 1)) + 1 ∧ (x &&& (x - 1)) < x := by
  rcases low_bit x with rfl | ⟨j, m, rfl⟩
  · exact absurd rfl h0
  · have hj : j < 64 := by
      rcases Nat.lt_or_ge j 64 with h | h
      · exact h
      · have : 2 ^ 64 ≤ 2 ^ j := Nat.pow_le_pow_right (by omega) h
        have : 2 ^ j * 1 ≤ 2 ^ j * (2 * m + 1) := Nat.mul_le_mul_left _ (by omega)
        have h64 : (18446744073709551616 : Nat) = 2 ^ 64 := by decide
        omega
    have hp : 0 < 2 ^ j := Nat.two_pow_pos j
    have e : 2 ^ j * (2 * m + 1) - 1 = 2 ^ j * (2 * m) + (2 ^ j - 1) := by rw [Nat.mul_add]; omega
    have hb : ∀ i, (2 ^ j * (2 * m + 1) &&& (2 ^ j * (2 * m + 1) - 1)).testBit i = (decide (i ≠ j) && (2 ^ j * (2 * m + 1)).testBit i) := fun i => by
      rw [Nat.testBit_and, e, Nat.testBit_two_pow_mul_add _ (by omega), low_test]
      by_cases hij : i < j
      · have : ¬ j ≤ i := by omega
        simp [this]
      · rw [if_neg hij, odd_test]
        by_cases h : i - j = 0
        · have : i = j := by omega
          subst this
          simp
        · have h1 : i ≠ j := by omega
          rw [if_neg h]
          have h2 : (2 * m).testBit (i - j) = m.testBit (i - j - 1) := by
            obtain ⟨n, hn⟩ : ∃ n, i - j = n + 1 := ⟨i - j - 1, by omega⟩
            rw [hn, Nat.testBit_succ]; simp
          rw [h2]; simp [h1]
    have hbj : (2 ^ j * (2 * m + 1)).testBit j = true := by rw [low_test, odd_test]; simp
    refine ⟨cntTo_flip 64 hj hbj (by rw [hb]; simp) fun i hi => by rw [hb]; simp [hi], ?_⟩
    have h1 : (2 ^ j * (2 * m + 1) &&& (2 ^ j * (2 * m + 1) - 1)) ≤ 2 ^ j * (2 * m + 1) - 1 := Nat.and_le_right
    have h2 : 0 < 2 ^ j * (2 * m + 1) := Nat.mul_pos hp (by omega)
    omega
theorem ones_zero : onesOf 0 = 0 := by decide

set_option maxHeartbeats 400000 in
theorem ones_any (x : Nat) (w : World) (hx : x < 18446744073709551616) :
    Calls Try.prog 21 #[.int .u64 x] w fun e w' => e = .returned (.int .i64 (onesOf x)) ∧ w = w' := by
  obtain ⟨t, ht⟩ : ∃ t, Hid (onesOf x = t) := ⟨_, rfl⟩
  rw [ht.out]
  have ht64 : t ≤ 64 := by rw [← ht.out]; exact cntTo_le _ _
  go_enter Try.func21, Try.ntmps21
  go_wp2_with fail
  go_loop [0, 3] (fun v c => ∃ y n : Nat, v = .int .u64 y ∧ c = .int .i64 n ∧ Hid (y < 18446744073709551616) ∧ Hid (n + onesOf y = t)) (fun v _ => (intOf v).toNat)
  case atStart => exact ⟨x, 0, rfl, rfl, hx, by show 0 + onesOf x = t; rw [ht.out]; omega⟩
  case round =>
    obtain ⟨y, n, rfl, rfl, hy, hn⟩ := hrel
    by_cases h0 : y = 0
    · subst h0
      have hn0 : n = t := by have := hn.out; rw [ones_zero] at this; omega
      subst hn0
      go_wp2_with fail
      go_ret
      exact ⟨rfl, rfl⟩
    · obtain ⟨hs, hl⟩ := ones_step y hy.out h0
      have hyl := hy.out
      have hn1 : n + 1 ≤ 64 := by have := hn.out; omega
      have h0' : ¬ (y : Int) = 0 := by omega
      have hsub : IntKind.u64.wrap ((y : Int) - 1) = ((y - 1 : Nat) : Int) := by
        show ((y : Int) - 1) % 18446744073709551616 = _
        omega
      have hand := bits_and_u64_nat y (y - 1) hyl (by omega)
      have HY : Hid ((y &&& (y - 1)) < 18446744073709551616) := Nat.lt_trans hl hyl
      have HN : Hid (n + 1 + onesOf (y &&& (y - 1)) = t) := by have := hn.out; show n + 1 + onesOf (y &&& (y - 1)) = t; omega
      have hyi : (1 : Int) ≤ y := by omega
      clear hs
      generalize (y &&& (y - 1)) = z at *
      go_wp2_with fail
      go_round
      case rel => exact ⟨z, n + 1, rfl, by go_num, HY.out, HN.out⟩
      case measure => simp [intOf]; omega
end Go.Proofs.Ytmdhlpnieimdaaa

/- A map of counts by numbers: look-up, update. -/
namespace Go.Proofs.Ytmdhlpnieimdaaa
open Go.RowKit

structure EntN where
  k : Nat
  n : Nat
  b : Nat
def EntN.e (x : EntN) : MapEntry := { key := .int .u64 x.k, val := .int .i64 x.n, born := x.b }
def mObjN (l : List EntN) (c : Nat) : Obj := .map (l.map EntN.e).toArray c

def findN (k : Nat) : List EntN → Nat → Option (Nat × Value)
  | [], _ => none
  | e :: es, i => if k = e.k then some (i, .int .i64 e.n) else findN k es (i + 1)
theorem find_now (k : Nat) : ∀ (l : List EntN) (i : Nat), Instr.findNow (.int .u64) (.int .u64 k) (l.map EntN.e) i = some (findN k l i)
  | [], i => rfl
  | e :: l, i => by
    rw [List.map_cons, Instr.findNow, findN]
    by_cases h : k = e.k
    · subst h; simp [EntN.e, Instr.sameNow]
    · have : ((k : Int) == (e.k : Int)) = false := by rw [beq_eq_false_iff_ne]; omega
      simp [EntN.e, Instr.sameNow, this, h, find_now k l (i + 1)]
theorem run_findKeyN (w : World) (k : Nat) (l : List EntN) : (Instr.findKey 23 (.int .u64 k) (l.map EntN.e)).run Try.prog w = .ok (findN k l 0) w :=
  MapKept.run_findKey Try.underlying23 (find_now k l 0)
theorem findN_none {k : Nat} : ∀ {l : List EntN} {i : Nat}, (∀ e ∈ l, e.k ≠ k) → findN k l i = none
  | [], _, _ => rfl
  | e :: l, i, h => by rw [findN, if_neg (Ne.symm (h e (by simp)))]; exact findN_none fun x hx => h x (by simp [hx])
theorem findN_spec {k : Nat} : ∀ (l : List EntN) (i : Nat), (findN k l i = none ∧ ∀ e ∈ l, e.k ≠ k) ∨ ∃ (j : Nat) (h : j < l.length), findN k l i = some (i + j, .int .i64 l[j].n) ∧ l[j].k = k
  | [], _ => .inl ⟨rfl, by simp⟩
  | e :: l, i => by
    by_cases h : k = e.k
    · exact .inr ⟨0, by simp, by simp [findN, h], h.symm⟩
    · rcases findN_spec (k := k) l (i + 1) with ⟨h1, h2⟩ | ⟨j, hj, h1, h2⟩
      · refine .inl ⟨by rw [findN, if_neg h, h1], ?_⟩
        intro x hx
        rcases List.mem_cons.1 hx with rfl | hx
        · exact Ne.symm h
        · exact h2 x hx
      · exact .inr ⟨j + 1, by simpa using hj, by rw [findN, if_neg h, h1]; simp; omega, by simpa using h2⟩
theorem run_lookupN (w : World) (r : Nat) (l : List EntN) (c k : Nat) (hr : w.heap[r]? = some (mObjN l c)) :
    (Instr.lookup 25 (.map (some r)) (.int .u64 k) false).run Try.prog w = .ok (((findN k l 0).map (·.2)).getD (.int .i64 0)) w := by
  have hz : ∀ w, (zeroValue 3).run Try.prog w = .ok (.int .i64 0) w := fun w => by kernel_rfl
  have hg : (getObj r).run Try.prog w = .ok (mObjN l c) w := by simp [getObj, Sem.run, hr, mObjN]
  have hc : ∀ b, (Instr.checkKey b 10000 23 (.int .u64 k)).run Try.prog w = .ok () w := fun b => MapKept.run_checkKey Try.underlying23 (by simp [MapKept.IsKey]) b 9999
  simp only [Instr.lookup, Sem.run_bind, run_underlying Try.underlying25, Result.andThen_ok, hg, mObjN, Sem.run_pure, hc, run_findKeyN w k l]
  cases findN k l 0 <;> simp [hz]

theorem map_modN (l : List EntN) (j n : Nat) : (l.modify j fun e => { e with n := n }).map EntN.e = (l.map EntN.e).modify j fun e => { e with val := .int .i64 n } := by
  apply List.ext_getElem?
  intro i
  rw [List.getElem?_map, List.getElem?_modify, List.getElem?_modify, List.getElem?_map]
  cases l[i]? with
  | none => rfl
  | some x => by_cases h : j = i <;> simp [h, EntN.e]
theorem run_updateN_new (w : World) (r : Nat) (l : List EntN) (c k n : Nat) (hn : ∀ e ∈ l, e.k ≠ k) (hr : w.heap[r]? = some (mObjN l c)) :
    (Instr.mapUpdate 25 (.map (some r)) (.int .u64 k) (.int .i64 n)).run Try.prog w = .ok () (putB w r (mObjN (l ++ [⟨k, n, c⟩]) (c + 1))) := by
  have hg : (getObj r).run Try.prog w = .ok (mObjN l c) w := by simp [getObj, Sem.run, hr, mObjN]
  have hc : ∀ b, (Instr.checkKey b 10000 23 (.int .u64 k)).run Try.prog w = .ok () w := fun b => MapKept.run_checkKey Try.underlying23 (by simp [MapKept.IsKey]) b 9999
  simp only [Instr.mapUpdate, Sem.run_bind, run_underlying Try.underlying25, Result.andThen_ok, hg, mObjN, Sem.run_pure, hc, run_findKeyN w k l, findN_none hn]
  rw [MapKept.run_setObj_map _ hr]
  simp [mObjN, EntN.e, putB]
theorem run_updateN_old (w : World) (r : Nat) (l : List EntN) (c k n j : Nat) (hj : j < l.length) (hf : findN k l 0 = some (j, .int .i64 l[j].n)) (hkj : l[j].k = k) (hr : w.heap[r]? = some (mObjN l c)) :
    (Instr.mapUpdate 25 (.map (some r)) (.int .u64 k) (.int .i64 n)).run Try.prog w = .ok () (putB w r (mObjN (l.modify j fun e => { e with n := n }) c)) := by
  have hg : (getObj r).run Try.prog w = .ok (mObjN l c) w := by simp [getObj, Sem.run, hr, mObjN]
  have hc : ∀ b, (Instr.checkKey b 10000 23 (.int .u64 k)).run Try.prog w = .ok () w := fun b => MapKept.run_checkKey Try.underlying23 (by simp [MapKept.IsKey]) b 9999
  have he : ((l.map EntN.e).toArray[j]?) = some l[j].e := by simp [hj]
  have hek : l[j].e.key = .int .u64 k := by rw [← hkj]; rfl
  have hst : (Instr.keyThatStays (.int .u64 k) (.int .u64 k)).run Try.prog w = .ok (.int .u64 k) w := by simp [Instr.keyThatStays, Instr.sameBits]
  have hsame : (l.map EntN.e).toArray.modify j (fun e => { e with key := .int .u64 k, val := .int .i64 n }) = ((l.map EntN.e).modify j fun e => { e with val := .int .i64 n }).toArray := by
    apply Array.ext_getElem?
    intro i
    rw [Array.getElem?_modify, List.getElem?_toArray, List.getElem?_toArray, List.getElem?_modify]
    by_cases hi : j = i
    · subst hi
      have hx : (l.map EntN.e)[j]? = some l[j].e := by simp [hj]
      rw [if_pos rfl, hx]
      rw [← hek]; simp
    · rw [if_neg hi]
      cases (l.map EntN.e)[i]? with
      | none => rfl
      | some x => simp [hi]
  simp only [Instr.mapUpdate, Sem.run_bind, run_underlying Try.underlying25, Result.andThen_ok, hg, mObjN, Sem.run_pure, hc, run_findKeyN w k l, hf, he, Option.map_some, Option.getD_some, hek, hst, hsame]
  rw [MapKept.run_setObj_map _ hr]
  simp [mObjN, putB, map_modN]
end Go.Proofs.Ytmdhlpnieimdaaa

/- The map of counts as a function. -/
namespace Go.Proofs.Ytmdhlpnieimdaaa
open Go.RowKit

/-- Block r is a map that gives f; its keys, in the order in which they came, are K. -/
def CntN (w : World) (r : Nat) (f : Nat → Nat) (K : List Nat) : Prop :=
  ∃ l c, w.heap[r]? = some (mObjN l c) ∧ l.map EntN.k = K ∧ (∀ e ∈ l, e.b < c ∧ e.n = f e.k) ∧ (l.map EntN.b).Pairwise (· < ·) ∧ K.Nodup ∧ ∀ k, f k ≠ 0 → k ∈ K

theorem CntN.block {w w' : World} {r : Nat} {f : Nat → Nat} {K : List Nat} (h : CntN w r f K) (he : w'.heap[r]? = w.heap[r]?) : CntN w' r f K := by
  obtain ⟨l, c, h1, h2⟩ := h; exact ⟨l, c, he.trans h1, h2⟩
theorem CntN.look {w : World} {r : Nat} {f : Nat → Nat} {K : List Nat} (h : CntN w r f K) (k : Nat) :
    (Instr.lookup 25 (.map (some r)) (.int .u64 k) false).run Try.prog w = .ok (.int .i64 (f k)) w := by
  obtain ⟨l, c, h1, h2, h3, h4, h5, h6⟩ := h
  rw [run_lookupN w r l c k h1]
  rcases findN_spec (k := k) l 0 with ⟨e1, e2⟩ | ⟨j, hj, e1, e2⟩
  · have : f k = 0 := by
      rcases Nat.eq_zero_or_pos (f k) with h | h
      · exact h
      · have hm := h6 k (by omega)
        rw [← h2] at hm
        obtain ⟨e, he, hek⟩ := List.mem_map.1 hm
        exact absurd hek (e2 e he)
    rw [e1, this]; rfl
  · rw [e1]
    have := (h3 l[j] (List.getElem_mem hj)).2
    simp [this, e2]
theorem CntN.update {w : World} {r : Nat} {f : Nat → Nat} {K : List Nat} (h : CntN w r f K) (k n : Nat) :
    ∃ o, (Instr.mapUpdate 25 (.map (some r)) (.int .u64 k) (.int .i64 n)).run Try.prog w = .ok () (putB w r o) ∧ CntN (putB w r o) r (fun x => if x = k then n else f x) (if k ∈ K then K else K ++ [k]) := by
  obtain ⟨l, c, h1, h2, h3, h4, h5, h6⟩ := h
  rcases findN_spec (k := k) l 0 with ⟨e1, e2⟩ | ⟨j, hj, e1, e2⟩
  · have hk : k ∉ K := fun hm => by
      rw [← h2] at hm
      obtain ⟨e, he, hek⟩ := List.mem_map.1 hm
      exact e2 e he hek
    rw [if_neg hk]
    refine ⟨_, run_updateN_new w r l c k n e2 h1, l ++ [⟨k, n, c⟩], c + 1, putB_same _ _ _ _ h1, by simp [h2], fun e he => ?_, ?_, ?_, fun x hx => ?_⟩
    · rcases List.mem_append.1 he with he | he
      · have := h3 e he
        exact ⟨by omega, by simp only [if_neg (e2 e he)]; exact this.2⟩
      · simp at he; subst he; simp
    · rw [List.map_append, List.pairwise_append]
      refine ⟨h4, by simp, fun a ha b hb => ?_⟩
      obtain ⟨e, he, rfl⟩ := List.mem_map.1 ha
      simp at hb; subst hb
      exact (h3 e he).1
    · exact List.nodup_append.2 ⟨h5, by simp, fun a ha b hb e => by simp at hb; subst hb; subst e; exact hk ha⟩
    · by_cases e : x = k
      · subst e; simp
      · simp only [if_neg e] at hx; exact List.mem_append.2 (.inl (h6 x hx))
  · rw [Nat.zero_add] at e1
    have hk : k ∈ K := by rw [← h2, ← e2]; exact List.mem_map.2 ⟨l[j], List.getElem_mem hj, rfl⟩
    rw [if_pos hk]
    have hkm : ((l.modify j fun e => { e with n := n }).map EntN.k) = l.map EntN.k := by
      apply List.ext_getElem?
      intro i
      rw [List.getElem?_map, List.getElem?_modify, List.getElem?_map]
      cases l[i]? with
      | none => rfl
      | some x => by_cases h : j = i <;> simp [h]
    have hbm : ((l.modify j fun e => { e with n := n }).map EntN.b) = l.map EntN.b := by
      apply List.ext_getElem?
      intro i
      rw [List.getElem?_map, List.getElem?_modify, List.getElem?_map]
      cases l[i]? with
      | none => rfl
      | some x => by_cases h : j = i <;> simp [h]
    refine ⟨_, run_updateN_old w r l c k n j hj e1 e2 h1, _, c, putB_same _ _ _ _ h1, by rw [hkm]; exact h2, fun e he => ?_, by rw [hbm]; exact h4, h5, fun x hx => ?_⟩
    · obtain ⟨i, hi, rfl⟩ := List.mem_iff_getElem.1 he
      have hi' : i < l.length := by simpa using hi
      have q := h3 l[i] (List.getElem_mem hi')
      rw [List.getElem_modify]
      by_cases hji : j = i
      · subst hji; rw [if_pos rfl]
        exact ⟨q.1, by simp only [if_pos e2]⟩
      · rw [if_neg hji]
        refine ⟨q.1, ?_⟩
        have hne : l[i].k ≠ k := fun e => by
          have hnd : (l.map EntN.k).Nodup := by rw [h2]; exact h5
          have hp := List.pairwise_iff_getElem.1 hnd
          rcases Nat.lt_or_gt_of_ne hji with hlt | hgt
          · have := hp j i (by simpa using hj) (by simpa using hi') hlt
            simp at this; exact this (e2.trans e.symm)
          · have := hp i j (by simpa using hi') (by simpa using hj) hgt
            simp at this; exact this (e.trans e2.symm)
        simp only [if_neg hne]; exact q.2
    · by_cases e : x = k
      · subst e; exact hk
      · simp only [if_neg e] at hx; exact h6 x hx
end Go.Proofs.Ytmdhlpnieimdaaa

/- delete from the map of counts. -/
namespace Go.Proofs.Ytmdhlpnieimdaaa
open Go.RowKit

theorem eraseIdx_mapN {α β : Type} (f : α → β) : ∀ (l : List α) (j : Nat), (l.map f).eraseIdx j = (l.eraseIdx j).map f
  | [], _ => by simp
  | x :: l, 0 => rfl
  | x :: l, j + 1 => by simp [eraseIdx_mapN f l j]
theorem eraseIdx_findN {k : Nat} : ∀ {l : List EntN} {i j : Nat} {v : Value}, findN k l i = some (j, v) → ∃ m, j = i + m ∧ m < l.length ∧ (l.eraseIdx m).map EntN.k = (l.map EntN.k).erase k
  | [], _, _, _, h => by simp [findN] at h
  | e :: l, i, j, v, h => by
    by_cases he : k = e.k
    · rw [findN, if_pos he] at h
      simp only [Option.some.injEq, Prod.mk.injEq] at h
      exact ⟨0, by omega, by simp, by simp [he]⟩
    · rw [findN, if_neg he] at h
      obtain ⟨m, h1, h2, h3⟩ := eraseIdx_findN h
      refine ⟨m + 1, by omega, by simpa using h2, ?_⟩
      have : ¬ (e.k == k) = true := fun hh => he (by rw [beq_iff_eq] at hh; exact hh.symm)
      simp only [List.eraseIdx_cons_succ, List.map_cons, h3, List.erase_cons, this]
      simp
theorem CntN.del {w : World} {r : Nat} {f : Nat → Nat} {K : List Nat} (h : CntN w r f K) (k : Nat) (hk : k ∈ K) (h0 : f k = 0) :
    ∃ o, (∀ t, (Builtin.delete_ #[25, 23] t #[.map (some r), .int .u64 k]).run Try.prog w = .ok (.tuple #[]) (putB w r o)) ∧ CntN (putB w r o) r f (K.erase k) := by
  obtain ⟨l, c, h1, rfl, h3, h4, h5, h6⟩ := h
  rcases findN_spec (k := k) l 0 with ⟨_, e2⟩ | ⟨j, hj, hf, hjk⟩
  · obtain ⟨e, he, hek⟩ := List.mem_map.1 hk
    exact absurd hek (e2 e he)
  rw [Nat.zero_add] at hf
  obtain ⟨m, hm, hml, hme⟩ := eraseIdx_findN hf
  obtain rfl : j = m := by omega
  have hg : (getObj r).run Try.prog w = .ok (mObjN l c) w := by simp [getObj, Sem.run, h1, mObjN]
  have hc : ∀ b, (Instr.checkKey b 10000 23 (.int .u64 k)).run Try.prog w = .ok () w := fun b => MapKept.run_checkKey Try.underlying23 (by simp [MapKept.IsKey]) b 9999
  refine ⟨mObjN (l.eraseIdx j) c, fun t => ?_, l.eraseIdx j, c, putB_same _ _ _ _ h1, hme, fun e he => h3 e (List.mem_of_mem_eraseIdx he), ?_, h5.erase k, fun x hx => ?_⟩
  · simp only [Builtin.delete_]
    have hh : (setObj r (.map ((l.map EntN.e).eraseIdx j).toArray c)).run Try.prog w = .ok () (putB w r (mObjN (l.eraseIdx j) c)) := by
      rw [MapKept.run_setObj_map _ h1, eraseIdx_mapN]; rfl
    simp [Sem.run_bind, run_underlying Try.underlying25, hg, mObjN, hc, run_findKeyN w k l, hf]
    rw [hh]
    rfl
  · rw [← eraseIdx_mapN]
    exact h4.sublist (List.eraseIdx_sublist _ _)
  · have hne : x ≠ k := fun e => by subst e; exact hx h0
    exact (List.mem_erase_of_ne hne).2 (h6 x hx)
end Go.Proofs.Ytmdhlpnieimdaaa
