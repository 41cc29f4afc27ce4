/- Compare, Or, first: what Order compares by. -/
import Derived.Test.YthimpgnagjgmdaaH6
namespace Go.Proofs.Ythimpgnagjgmdaa
open Go.RowKit

def cmpI (a b : Int) : Int := if a < b then -1 else if b < a then 1 else 0
set_option maxRecDepth 100000 in
theorem nanI_any (a : Int) (w : World) : Calls Try.prog 35 #[.int .i64 a] w fun e w' => e = .returned (.bool false) ∧ w' = w := by
  go_enter Try.func35, Try.ntmps35
  go_wp2_with fail
  go_ret
  exact ⟨ret_bool (by simp), rfl⟩
set_option maxRecDepth 100000 in
theorem nanU_any (a : Int) (w : World) : Calls Try.prog 34 #[.int .u64 a] w fun e w' => e = .returned (.bool false) ∧ w' = w := by
  go_enter Try.func34, Try.ntmps34
  go_wp2_with fail
  go_ret
  exact ⟨ret_bool (by simp), rfl⟩
set_option maxRecDepth 100000 in
theorem cmpI_any (a b : Int) (w : World) : Calls Try.prog 25 #[.int .i64 a, .int .i64 b] w fun e w' => e = .returned (.int .i64 (cmpI a b)) ∧ w' = w := by
  have HC : Hid (cmpI a b = if a < b then -1 else if b < a then 1 else 0) := rfl
  generalize cmpI a b = z at *
  by_cases h1 : a < b
  · have HZ : Hid (z = -1) := by show _ = _; rw [HC.out, if_pos h1]
    go_enter Try.func25, Try.ntmps25
    go_wp2_with (go_at_call 35; (refine (nanI_any _ _).mono ?_); rintro e W2 ⟨rfl, rfl⟩)
    go_ret
    exact ⟨by rw [HZ.out]; rfl, rfl⟩
  · by_cases h2 : b < a
    · have HZ : Hid (z = 1) := by show _ = _; rw [HC.out, if_neg h1, if_pos h2]
      go_enter Try.func25, Try.ntmps25
      go_wp2_with (go_at_call 35; (refine (nanI_any _ _).mono ?_); rintro e W2 ⟨rfl, rfl⟩)
      go_ret
      exact ⟨by rw [HZ.out]; rfl, rfl⟩
    · have HZ : Hid (z = 0) := by show _ = _; rw [HC.out, if_neg h1, if_neg h2]
      go_enter Try.func25, Try.ntmps25
      go_wp2_with (go_at_call 35; (refine (nanI_any _ _).mono ?_); rintro e W2 ⟨rfl, rfl⟩)
      go_ret
      exact ⟨by rw [HZ.out]; rfl, rfl⟩
set_option maxRecDepth 100000 in
theorem cmpU_any (a b : Int) (w : World) : Calls Try.prog 24 #[.int .u64 a, .int .u64 b] w fun e w' => e = .returned (.int .i64 (cmpI a b)) ∧ w' = w := by
  have HC : Hid (cmpI a b = if a < b then -1 else if b < a then 1 else 0) := rfl
  generalize cmpI a b = z at *
  by_cases h1 : a < b
  · have HZ : Hid (z = -1) := by show _ = _; rw [HC.out, if_pos h1]
    go_enter Try.func24, Try.ntmps24
    go_wp2_with (go_at_call 34; (refine (nanU_any _ _).mono ?_); rintro e W2 ⟨rfl, rfl⟩)
    go_ret
    exact ⟨by rw [HZ.out]; rfl, rfl⟩
  · by_cases h2 : b < a
    · have HZ : Hid (z = 1) := by show _ = _; rw [HC.out, if_neg h1, if_pos h2]
      go_enter Try.func24, Try.ntmps24
      go_wp2_with (go_at_call 34; (refine (nanU_any _ _).mono ?_); rintro e W2 ⟨rfl, rfl⟩)
      go_ret
      exact ⟨by rw [HZ.out]; rfl, rfl⟩
    · have HZ : Hid (z = 0) := by show _ = _; rw [HC.out, if_neg h1, if_neg h2]
      go_enter Try.func24, Try.ntmps24
      go_wp2_with (go_at_call 34; (refine (nanU_any _ _).mono ?_); rintro e W2 ⟨rfl, rfl⟩)
      go_ret
      exact ⟨by rw [HZ.out]; rfl, rfl⟩
def orI : List Int → Int
  | [] => 0
  | x :: xs => if x ≠ 0 then x else orI xs
theorem orI_zero : ∀ (vs : List Int) (k : Nat), (∀ i (h : i < vs.length), i < k → vs[i] = 0) → orI vs = orI (vs.drop k)
  | [], k, _ => by simp
  | v :: vs, 0, _ => rfl
  | v :: vs, k + 1, h => by
    have h0 : v = 0 := h 0 (by simp) (by omega)
    rw [List.drop_succ_cons, ← orI_zero vs k fun i hi hk => h (i + 1) (by simpa using hi) (by omega)]
    simp [orI, h0]
set_option maxRecDepth 100000 in
theorem or_any (q : Option Addr) (n c : Nat) (vs : List Int) (w : World) (hn : vs.length = n) (hq : SlAt eI 1 w q vs) (hn3 : n ≤ 100) : Calls Try.prog 23 #[.slice q n c] w fun e w' => e = .returned (.int .i64 (orI vs)) ∧ w' = w := by
  have HN := Lib.hid hn
  have HQ := Lib.hid hq
  clear hn hq
  go_enter Try.func23, Try.ntmps23
  go_wp2_with fail
  go_loopw [8] (fun vi wr => ∃ i : Nat, i ≤ n ∧ vi = .int .i64 i ∧ Hid (∀ i' (h : i' < vs.length), i' < i → vs[i'] = 0) ∧ wr = w) (fun vi _ => n - (intOf vi).toNat)
  case atStart => exact ⟨0, Nat.zero_le _, rfl, fun _ _ h => by omega, rfl⟩
  case round =>
    obtain ⟨i, hi, rfl, HP, rfl⟩ := hrel
    by_cases h1 : i < n
    · have h1i : (i : Int) < n := by omega
      obtain ⟨b, o, rfl, hb, hr⟩ := HQ.out i (by rw [HN.out]; exact h1)
      obtain ⟨v, hv⟩ : ∃ v, v = vs[i]'(by rw [HN.out]; exact h1) := ⟨_, rfl⟩
      rw [← hv] at hr
      have hc : wr.cell? ⟨b, o + i, none⟩ = some (.int .i64 v) := by have := hr 0 _ rfl; simpa using this
      have HV := Lib.hid hv
      clear hv hr hb
      by_cases h0 : v = 0
      · subst h0
        go_wp2_with fail
        go_roundw
        case rel => exact ⟨i + 1, by omega, by go_num, fun i' h' h => by
          rcases (by omega : i' < i ∨ i' = i) with h | rfl
          · exact HP.out i' h' h
          · exact HV.out.symm, by first | rfl | trivial⟩
        case measure => simp [intOf]; omega
      · have HO : Hid (orI vs = v) := by
          show _ = _
          rw [orI_zero vs i HP.out, List.drop_eq_getElem_cons (by rw [HN.out]; exact h1), ← HV.out]
          simp [orI, h0]
        have f1 : (v != 0) = true := by simpa using h0
        go_wp2_with fail
        go_ret
        exact ⟨by rw [HO.out]; rfl, rfl⟩
    · have h1i : ¬ (i : Int) < n := by omega
      have HO : Hid (orI vs = 0) := by
        show _ = _
        rw [orI_zero vs i HP.out, List.drop_eq_nil_of_le (by rw [HN.out]; omega)]; rfl
      go_wp2_with fail
      go_ret
      exact ⟨by rw [HO.out]; rfl, rfl⟩
def firstI (x : Ca) : Int := if x.pub = true then 0 else 1
set_option maxRecDepth 100000 in
theorem first_any (x : Ca) (w : World) : Calls Try.prog 26 #[.agg (caC x).toArray] w fun e w' => e = .returned (.int .i64 (firstI x)) ∧ Below w.heap.size w w' := by
  have HB := Lib.hid (below_alloc1 w (.cells (caC x).toArray 42))
  have hc : (w.alloc (.cells (caC x).toArray 42)).cell? ⟨w.heap.size, 36, none⟩ = some (.bool x.pub) := by rw [cell_blk (heap_alloc_new _ _), List.getElem?_toArray]; exact ca_pub x
  have HF : Hid (firstI x = if x.pub = true then 0 else 1) := rfl
  generalize firstI x = z at *
  generalize x.pub = p at *
  cases p with
  | true =>
    have HZ : Hid (z = 0) := HF.out
    go_enter Try.func26, Try.ntmps26
    go_wp2_with fail
    go_ret
    exact ⟨by rw [HZ.out]; rfl, HB.out⟩
  | false =>
    have HZ : Hid (z = 1) := HF.out
    go_enter Try.func26, Try.ntmps26
    go_wp2_with fail
    go_ret
    exact ⟨by rw [HZ.out]; rfl, HB.out⟩
end Go.Proofs.Ythimpgnagjgmdaa
