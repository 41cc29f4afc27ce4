/- PluralOf: the walk. -/
import Derived.Test.YtnambaiafailaaaDoorN7
namespace Go.Proofs.YtnambaiafailaaaDoor
open Go.RowKit

theorem in_other (g : Nat) (hg : g = 0 ∨ g = 1 ∨ g = 2 ∨ g = 3 ∨ g = 4 ∨ g = 5 ∨ g = 6 ∨ g = 7) : inB g 5 = true := by
  rcases hg with rfl | rfl | rfl | rfl | rfl | rfl | rfl | rfl <;> decide
theorem in_cat (g : Nat) (n : Int) (hg : g = 0 ∨ g = 1 ∨ g = 2 ∨ g = 3 ∨ g = 4 ∨ g = 5 ∨ g = 6 ∨ g = 7) (h0 : 0 ≤ n) : inB g (catI g n) = true := by
  rcases hg with rfl | rfl | rfl | rfl | rfl | rfl | rfl | rfl
  · rw [cat_0]; repeat' split
    all_goals decide
  · show inB 1 5 = true; decide
  · rw [cat_2]; repeat' split
    all_goals decide
  · rw [cat_3]; repeat' split
    all_goals decide
  · rw [cat_4]; repeat' split
    all_goals decide
  · rw [cat_5]; repeat' split
    all_goals decide
  · rw [cat_6]; split
    · rcases (show n = 0 ∨ n = 1 ∨ n = 2 by omega) with rfl | rfl | rfl <;> decide
    · repeat' split
      all_goals decide
  · rw [cat_7]; repeat' split
    all_goals decide
theorem cat_ne (a : Int) (W : World) : (binOp .neq 3 (.int .i64 a) (.int .i64 a)).run Tryd.prog W = .ok (.bool false) W := by
  have h : (a != a) = false := by simp
  go_simp
set_option maxRecDepth 100000 in
set_option maxHeartbeats 8000000 in
theorem PluralOf_walkI (b : List UInt8) (n : Int) (w : World) (hb : b.length = 10) (hmx : MX w) (h0 : 0 ≤ n) (h1 : n ≤ 18446744073709551615) :
    Calls Tryd.prog 8 #[.agg (bC b), .int .u64 n] w fun e w' => e = .returned (.bool true) ∧ Below w.heap.size w w' := by
  have HG0 : Hid ((w.alloc (.cells (bC b) 29)).heap[w.heap.size]? = some (.cells (bC b) 29 (0, 0))) := heap_alloc_new _ _
  have HB0 : Hid (Below w.heap.size w (w.alloc (.cells (bC b) 29))) := below_alloc1 _ _
  have hlt : w.heap.size < (w.alloc (.cells (bC b) 29)).heap.size := by simp
  have HGr : Hid (∀ W : World, Calls Tryd.prog 27 #[.agg (bC b)] W fun e w' => e = .returned (.int .i64 ((grpL (langB b) : Nat) : Int)) ∧ Below W.heap.size W w') := fun W => group_any b W hb
  have HKn : Hid (∀ W, Below w.heap.size w W → Calls Tryd.prog 28 #[] W fun e w' => e = .returned (.bool true) ∧ Below W.heap.size W w') := fun W hW => known7_any W (hmx.below hW)
  have HOf : Hid (∀ (m : Int) (W : World), 0 ≤ m → Below w.heap.size w W → Calls Tryd.prog 29 #[.agg (bC b), .int .u64 m] W fun e w' => e = .returned (.int .i64 (catI (grpL (langB b)) m)) ∧ Below W.heap.size W w') := fun m W hm hW => pluralOf_any b m W hb (hmx.below hW) hm
  have HRo : Hid (∀ (m : Int) (W : World), 0 ≤ m → m ≤ 18446744073709551615 → Calls Tryd.prog 34 #[.int .i64 ((grpL (langB b) : Nat) : Int), .int .u64 m] W fun e w' => e = .returned (.int .i64 (catI (grpL (langB b)) m)) ∧ W = w') := fun m W hm hm1 => refOf_any _ m W (grpL_le _) hm hm1
  have HIn : Hid (∀ (c : Int) (W : World), inB (grpL (langB b)) c = true → Below w.heap.size w W → Calls Tryd.prog 35 #[.agg (bC b), .int .i64 c] W fun e w' => e = .returned (.bool true) ∧ Below W.heap.size W w') := fun c W hc hW => by
    have := in_any b c W hb (hmx.below hW)
    rwa [hc] at this
  have HI5 := Lib.hid (in_other _ (grpL_cases (langB b)))
  have HIc := Lib.hid (in_cat _ n (grpL_cases (langB b)) h0)
  have H10 := Lib.hid hb
  clear hb hmx
  generalize grpL (langB b) = g at *
  go_enter Tryd.func8, Tryd.ntmps8
  go_wp2_with (first
    | (with_reducible refine ld_T rfl _ rfl w.heap.size b H10.out rfl HG0.out ?_)
    | (go_at_call 27; (refine (HGr.out _).mono ?_); rintro e w1 ⟨rfl, hb1⟩; have HB1 := Lib.hid hb1; clear hb1))
  clear HGr
  go_loopw [6] (fun i wr => ∃ k : Nat, k ≤ 130 ∧ i = .int .u64 k ∧ Hid (Below (w.alloc (.cells (bC b) 29)).heap.size (w.alloc (.cells (bC b) 29)) wr)) (fun i _ => 130 - (intOf i).toNat)
  case atStart => exact ⟨0, by omega, rfl, HB1.out⟩
  case round =>
    obtain ⟨k, hk, rfl, HW⟩ := hrel
    have HGw : Hid (wr.heap[w.heap.size]? = some (.cells (bC b) 29 (0, 0))) := by show _ = _; rw [HW.out.block _ hlt]; exact HG0.out
    have HBw := Lib.hid (HB0.out.trans (HW.out.mono HB0.out.size))
    by_cases hl : k < 130
    · have HOk := Lib.hid (HOf.out (k : Int) wr (by omega) HBw.out)
      have HRk : Hid (∀ W : World, Calls Tryd.prog 34 #[.int .i64 (g : Int), .int .u64 (k : Int)] W fun e w' => e = .returned (.int .i64 (catI g (k : Int))) ∧ W = w') := fun W => HRo.out (k : Int) W (by omega) (by omega)
      clear HOf HRo HIn HI5 HIc
      generalize catI g (k : Int) = ck at *
      have hne := cat_ne ck
      go_wp2_with (first
        | (with_reducible refine ld_T rfl _ rfl w.heap.size b H10.out rfl HGw.out ?_)
        | (go_at_call 29; (refine HOk.out.mono ?_); rintro e w2 ⟨rfl, hb2⟩; have HB2 := Lib.hid hb2; clear hb2)
        | (go_at_call 34; (refine (HRk.out _).mono ?_); rintro e w3 ⟨rfl, rfl⟩))
      go_roundw
      case rel => exact ⟨k + 1, by omega, by go_num, HW.out.trans (HB2.out.mono HW.out.size)⟩
      case measure => simp [intOf]; omega
    · have HOk := Lib.hid (HOf.out n wr h0 HBw.out)
      have HRk : Hid (∀ W : World, Calls Tryd.prog 34 #[.int .i64 (g : Int), .int .u64 n] W fun e w' => e = .returned (.int .i64 (catI g n)) ∧ W = w') := fun W => HRo.out n W h0 h1
      have HC5 : Hid (∀ W, Below w.heap.size w W → Calls Tryd.prog 35 #[.agg (bC b), .int .i64 5] W fun e w' => e = .returned (.bool true) ∧ Below W.heap.size W w') := fun W hW => HIn.out 5 W HI5.out hW
      have HCc : Hid (∀ W, Below w.heap.size w W → Calls Tryd.prog 35 #[.agg (bC b), .int .i64 (catI g n)] W fun e w' => e = .returned (.bool true) ∧ Below W.heap.size W w') := fun W hW => HIn.out _ W HIc.out hW
      clear HOf HRo HIn HI5 HIc
      generalize catI g n = cn at *
      have heq : ∀ W : World, (binOp .eql 3 (.int .i64 cn) (.int .i64 cn)).run Tryd.prog W = .ok (.bool true) W := fun W => by
        have h : (cn == cn) = true := by simp
        go_simp
      go_wp2_with (first
        | (with_reducible refine ld_T rfl _ rfl w.heap.size b H10.out rfl HGw.out ?_)
        | (go_at_call 29; (refine HOk.out.mono ?_); rintro e w2 ⟨rfl, hb2⟩; have HB2 := Lib.hid (HBw.out.trans (hb2.mono HBw.out.size)); have HG2 : Hid (w2.heap[w.heap.size]? = some (.cells (bC b) 29 (0, 0))) := (by (show _ = _; rw [hb2.block _ (lt_heap HGw.out)]; exact HGw.out)); clear hb2)
        | (go_at_call 28; (refine (HKn.out _ HB2.out).mono ?_); rintro e w3 ⟨rfl, hb3⟩; have HB3 := Lib.hid (HB2.out.trans (hb3.mono HB2.out.size)); have HG3 : Hid (w3.heap[w.heap.size]? = some (.cells (bC b) 29 (0, 0))) := (by (show _ = _; rw [hb3.block _ (lt_heap HG2.out)]; exact HG2.out)); clear hb3)
        | (go_at_call 34; (refine (HRk.out _).mono ?_); rintro e w4 ⟨rfl, rfl⟩)
        | (with_reducible refine ld_T rfl _ rfl w.heap.size b H10.out rfl HG3.out ?_)
        | (go_at_call 35; (with_reducible refine (HCc.out _ HB3.out).mono ?_); rintro e w5 ⟨rfl, hb5⟩; have HB5 := Lib.hid (HB3.out.trans (hb5.mono HB3.out.size)); have HG5 : Hid (w5.heap[w.heap.size]? = some (.cells (bC b) 29 (0, 0))) := (by (show _ = _; rw [hb5.block _ (lt_heap HG3.out)]; exact HG3.out)); clear hb5)
        | (with_reducible refine ld_T rfl _ rfl w.heap.size b H10.out rfl HG5.out ?_)
        | (go_at_call 35; (with_reducible refine (HC5.out _ HB5.out).mono ?_); rintro e w6 ⟨rfl, hb6⟩; have HB6 := Lib.hid (HB5.out.trans (hb6.mono HB5.out.size)); clear hb6))
      go_ret
      exact ⟨rfl, HB6.out⟩
end Go.Proofs.YtnambaiafailaaaDoor
