/- plural.Of. -/
import Derived.Test.YtnambaiafailaaaDoorD7
namespace Go.Proofs.YtnambaiafailaaaDoor
open Go.RowKit

theorem fieldR (f : Fn) (a c : Array Value) (k : Int) (W : World) : (Instr.field 98 (.agg #[.func f a c, .int .u8 k]) 0).run Tryd.prog W = .ok (.func f a c) W := by kernel_rfl
theorem ite_le {p : Prop} [Decidable p] {a b m : Nat} (h1 : a ≤ m) (h2 : b ≤ m) : (if p then a else b) ≤ m := by split <;> assumption
theorem grpL_le (l : List UInt8) : grpL l ≤ 7 := by
  unfold grpL
  repeat (refine ite_le (by omega) ?_)
  omega
theorem tells_0 {W : World} {v : Value} (h : Tells 0 W v) : ∃ p q : Addr, v = .func (.func 66) #[] #[.pointer (some p), .pointer (some q)] ∧ W.cell? p = some (.func (.func 68) #[] #[]) ∧ W.cell? q = some (.func (.func 67) #[] #[]) := h
theorem grpL_cases (l : List UInt8) : grpL l = 0 ∨ grpL l = 1 ∨ grpL l = 2 ∨ grpL l = 3 ∨ grpL l = 4 ∨ grpL l = 5 ∨ grpL l = 6 ∨ grpL l = 7 := by
  have := grpL_le l
  omega
theorem onec_0 (n : Int) (p q : Addr) (w : World) (h0 : 0 ≤ n) (hp : w.cell? p = some (.func (.func 68) #[] #[])) (hq : w.cell? q = some (.func (.func 67) #[] #[])) : Calls Tryd.prog 66 #[.int .u64 n, .pointer (some p), .pointer (some q)] w fun e w' => e = .returned (.int .i64 (catI 0 n)) ∧ w = w' := one_0 n p q w h0 hp hq
theorem onec_2 (n : Int) (p q : Addr) (w : World) (h0 : 0 ≤ n) (hp : w.cell? p = some (.func (.func 71) #[] #[])) (hq : w.cell? q = some (.func (.func 67) #[] #[])) : Calls Tryd.prog 66 #[.int .u64 n, .pointer (some p), .pointer (some q)] w fun e w' => e = .returned (.int .i64 (catI 2 n)) ∧ w = w' := one_2 n p q w h0 hp hq
theorem onec_3 (n : Int) (p q : Addr) (w : World) (h0 : 0 ≤ n) (hp : w.cell? p = some (.func (.func 72) #[] #[])) (hq : w.cell? q = some (.func (.func 73) #[] #[])) : Calls Tryd.prog 66 #[.int .u64 n, .pointer (some p), .pointer (some q)] w fun e w' => e = .returned (.int .i64 (catI 3 n)) ∧ w = w' := one_3 n p q w h0 hp hq
theorem onec_4 (n : Int) (p q : Addr) (w : World) (h0 : 0 ≤ n) (hp : w.cell? p = some (.func (.func 68) #[] #[])) (hq : w.cell? q = some (.func (.func 73) #[] #[])) : Calls Tryd.prog 66 #[.int .u64 n, .pointer (some p), .pointer (some q)] w fun e w' => e = .returned (.int .i64 (catI 4 n)) ∧ w = w' := one_4 n p q w h0 hp hq
theorem onec_5 (n : Int) (p q : Addr) (w : World) (h0 : 0 ≤ n) (hp : w.cell? p = some (.func (.func 68) #[] #[])) (hq : w.cell? q = some (.func (.func 74) #[] #[])) : Calls Tryd.prog 66 #[.int .u64 n, .pointer (some p), .pointer (some q)] w fun e w' => e = .returned (.int .i64 (catI 5 n)) ∧ w = w' := one_5 n p q w h0 hp hq
theorem onec_7 (n : Int) (p q : Addr) (k : Addr) (w : World) (h0 : 0 ≤ n) (hp : w.cell? p = some (.func (.func 78) #[] #[.pointer (some k)])) (hq : w.cell? q = some (.func (.func 79) #[] #[.pointer (some k)])) (hk : w.cell? k = some (.func (.func 77) #[] #[])) : Calls Tryd.prog 66 #[.int .u64 n, .pointer (some p), .pointer (some q)] w fun e w' => e = .returned (.int .i64 (catI 7 n)) ∧ w = w' := one_7 n p q k w h0 hp hq hk
theorem arabc (n : Int) (w : World) (h0 : 0 ≤ n) : Calls Tryd.prog 76 #[.int .u64 n] w fun e w' => e = .returned (.int .i64 (catI 6 n)) ∧ w = w' := arabic_any n w h0
set_option maxRecDepth 100000 in
set_option maxHeartbeats 2000000 in
theorem pluralOf_any (b : List UInt8) (n : Int) (w : World) (hb : b.length = 10) (hmx : MX w) (h0 : 0 ≤ n) :
    Calls Tryd.prog 29 #[.agg (bC b), .int .u64 n] w fun e w' => e = .returned (.int .i64 (catI (grpL (langB b)) n)) ∧ Below w.heap.size w w' := by
  have HG0 : Hid ((w.alloc (.cells (bC b) 29)).heap[w.heap.size]? = some (.cells (bC b) 29 (0, 0))) := heap_alloc_new _ _
  have HB0 : Hid (Below w.heap.size w (w.alloc (.cells (bC b) 29))) := below_alloc1 _ _
  have HR : Hid (∀ W, Below w.heap.size w W → Calls Tryd.prog 56 #[.agg (bC b)] W fun e w' => RulePost (grpL (langB b)) W e w') := fun W hW => rule_any b W hb (hmx.below hW)
  have H10 := Lib.hid hb
  have hg := grpL_cases (langB b)
  have hfd := fieldR
  clear hb hmx
  generalize grpL (langB b) = g at *
  rcases hg with rfl | rfl | rfl | rfl | rfl | rfl | rfl | rfl
  · have HK : Hid (catI 0 n = catI 0 n) := rfl
    go_enter Tryd.func29, Tryd.ntmps29
    go_wp2_with (first
      | (with_reducible refine ld_T rfl _ rfl w.heap.size b H10.out rfl HG0.out ?_)
      | (go_at_call 56; (refine (HR.out _ HB0.out).mono ?_); rintro e w1 ⟨hb1, v, rfl, ht⟩; obtain ⟨p, q, rfl, c1, c2⟩ := tells_0 ht; clear ht; have HB1 := Lib.hid (HB0.out.trans (hb1.mono HB0.out.size)); clear hb1)
      | (go_at_call 66; (refine (onec_0 n p q _ h0 c1 c2).mono ?_); rintro e w2 ⟨rfl, rfl⟩))
    go_ret
    exact ⟨rfl, HB1.out⟩
  · have HK : Hid (catI 1 n = catI 1 n) := rfl
    go_enter Tryd.func29, Tryd.ntmps29
    go_wp2_with (first
      | (with_reducible refine ld_T rfl _ rfl w.heap.size b H10.out rfl HG0.out ?_)
      | (go_at_call 56; (refine (HR.out _ HB0.out).mono ?_); rintro e w1 ⟨hb1, v, rfl, ht⟩; obtain rfl := ht; have HB1 := Lib.hid (HB0.out.trans (hb1.mono HB0.out.size)); clear hb1)
      | (go_at_call 67; (refine (other_any n _).mono ?_); rintro e w2 ⟨rfl, rfl⟩))
    go_ret
    exact ⟨rfl, HB1.out⟩
  · have HK : Hid (catI 2 n = catI 2 n) := rfl
    go_enter Tryd.func29, Tryd.ntmps29
    go_wp2_with (first
      | (with_reducible refine ld_T rfl _ rfl w.heap.size b H10.out rfl HG0.out ?_)
      | (go_at_call 56; (refine (HR.out _ HB0.out).mono ?_); rintro e w1 ⟨hb1, v, rfl, ht⟩; obtain ⟨p, q, rfl, c1, c2⟩ := ht; have HB1 := Lib.hid (HB0.out.trans (hb1.mono HB0.out.size)); clear hb1)
      | (go_at_call 66; (refine (onec_2 n p q _ h0 c1 c2).mono ?_); rintro e w2 ⟨rfl, rfl⟩))
    go_ret
    exact ⟨rfl, HB1.out⟩
  · have HK : Hid (catI 3 n = catI 3 n) := rfl
    go_enter Tryd.func29, Tryd.ntmps29
    go_wp2_with (first
      | (with_reducible refine ld_T rfl _ rfl w.heap.size b H10.out rfl HG0.out ?_)
      | (go_at_call 56; (refine (HR.out _ HB0.out).mono ?_); rintro e w1 ⟨hb1, v, rfl, ht⟩; obtain ⟨p, q, rfl, c1, c2⟩ := ht; have HB1 := Lib.hid (HB0.out.trans (hb1.mono HB0.out.size)); clear hb1)
      | (go_at_call 66; (refine (onec_3 n p q _ h0 c1 c2).mono ?_); rintro e w2 ⟨rfl, rfl⟩))
    go_ret
    exact ⟨rfl, HB1.out⟩
  · have HK : Hid (catI 4 n = catI 4 n) := rfl
    go_enter Tryd.func29, Tryd.ntmps29
    go_wp2_with (first
      | (with_reducible refine ld_T rfl _ rfl w.heap.size b H10.out rfl HG0.out ?_)
      | (go_at_call 56; (refine (HR.out _ HB0.out).mono ?_); rintro e w1 ⟨hb1, v, rfl, ht⟩; obtain ⟨p, q, rfl, c1, c2⟩ := ht; have HB1 := Lib.hid (HB0.out.trans (hb1.mono HB0.out.size)); clear hb1)
      | (go_at_call 66; (refine (onec_4 n p q _ h0 c1 c2).mono ?_); rintro e w2 ⟨rfl, rfl⟩))
    go_ret
    exact ⟨rfl, HB1.out⟩
  · have HK : Hid (catI 5 n = catI 5 n) := rfl
    go_enter Tryd.func29, Tryd.ntmps29
    go_wp2_with (first
      | (with_reducible refine ld_T rfl _ rfl w.heap.size b H10.out rfl HG0.out ?_)
      | (go_at_call 56; (refine (HR.out _ HB0.out).mono ?_); rintro e w1 ⟨hb1, v, rfl, ht⟩; obtain ⟨p, q, rfl, c1, c2⟩ := ht; have HB1 := Lib.hid (HB0.out.trans (hb1.mono HB0.out.size)); clear hb1)
      | (go_at_call 66; (refine (onec_5 n p q _ h0 c1 c2).mono ?_); rintro e w2 ⟨rfl, rfl⟩))
    go_ret
    exact ⟨rfl, HB1.out⟩
  · have HK : Hid (catI 6 n = catI 6 n) := rfl
    go_enter Tryd.func29, Tryd.ntmps29
    go_wp2_with (first
      | (with_reducible refine ld_T rfl _ rfl w.heap.size b H10.out rfl HG0.out ?_)
      | (go_at_call 56; (refine (HR.out _ HB0.out).mono ?_); rintro e w1 ⟨hb1, v, rfl, ht⟩; obtain rfl := ht; have HB1 := Lib.hid (HB0.out.trans (hb1.mono HB0.out.size)); clear hb1)
      | (go_at_call 76; (refine (arabc n _ h0).mono ?_); rintro e w2 ⟨rfl, rfl⟩))
    go_ret
    exact ⟨rfl, HB1.out⟩
  · have HK : Hid (catI 7 n = catI 7 n) := rfl
    go_enter Tryd.func29, Tryd.ntmps29
    go_wp2_with (first
      | (with_reducible refine ld_T rfl _ rfl w.heap.size b H10.out rfl HG0.out ?_)
      | (go_at_call 56; (refine (HR.out _ HB0.out).mono ?_); rintro e w1 ⟨hb1, v, rfl, ht⟩; obtain ⟨p, q, k, rfl, c1, c2, c3⟩ := ht; have HB1 := Lib.hid (HB0.out.trans (hb1.mono HB0.out.size)); clear hb1)
      | (go_at_call 66; (refine (onec_7 n p q k _ h0 c1 c2 c3).mono ?_); rintro e w2 ⟨rfl, rfl⟩))
    go_ret
    exact ⟨rfl, HB1.out⟩
end Go.Proofs.YtnambaiafailaaaDoor
