/- PluralRounds: the walk. -/
import Derived.Test.YtnambaiafailaaaDoorJ7
import Derived.Test.YtnambaiafailaaaDoorM7
import Derived.Test.YtnambaiafailaaaDoorK7
namespace Go.Proofs.YtnambaiafailaaaDoor
open Go.RowKit

theorem rg_callB {W : World} {P : Program} {f : FuncId} {args : Array Value} {v : Value} (h : ∀ w, Below W.heap.size W w → Calls P f args w fun e w' => e = .returned v ∧ Below w.heap.size w w') (d : Nat) (os : Array Obj) :
    Calls P f args (Sort.grow (redrawn W d) os) fun e w'' => e = .returned v ∧ ∃ p : Regrown, w'' = Sort.grow (redrawn W p.d) p.os := Calls.regrown_of (h _ (below_regrown W d os))
theorem wq_T {W : World} {ops : Array Oper} {Q : Act → Prop} {a : Act} {o : Oper} {rest : List Oper} (hw : Region.wanted o (yielded ops a.tmps) = true) (x : Operand) (ho : o.op = .load 29 x) (g : Nat) (l : List UInt8) (hl : l.length = 10)
    (hx : a.eval x = .pointer (some ⟨g, 0, none⟩)) (hg : W.heap[g]? = some (.cells (bC l) 29 (0, 0)))
    (h : wpQuiet Tryd.prog ops (fun w' => ∃ p : Regrown, w' = Sort.grow (redrawn W p.d) p.os) Q rest (a.put o.dst (.agg (bC l)))) : wpQuiet Tryd.prog ops (fun w' => ∃ p : Regrown, w' = Sort.grow (redrawn W p.d) p.os) Q (o :: rest) a :=
  wq_ldr hw _ x ho g 0 (bC l).toList _ Tryd.underlying29 rfl (by rw [sizTag]; simp [bC, hl]) hx (range_whole (by simpa using hg)) (lt_heap hg) (by simpa using h)
theorem cat_round (g : Nat) (n : Int) (hg : g = 3 ∨ g = 4 ∨ g = 6 ∨ g = 7) (hn : 100 ≤ n) : catI g (n + 100) = catI g n := by
  have e1 : (n + 100) % 10 = n % 10 := by omega
  have e2 : (n + 100) % 100 = n % 100 := by omega
  rcases hg with rfl | rfl | rfl | rfl
  · rw [cat_3, cat_3, fewB, fewB, e1, e2]
  · rw [cat_4, cat_4, fewB, fewB, e1, e2, if_neg (show ¬ n + 100 = 1 by omega), if_neg (show ¬ n = 1 by omega)]
  · rw [cat_6, cat_6, e2, if_neg (show ¬ n + 100 < 3 by omega), if_neg (show ¬ n < 3 by omega)]
  · rw [cat_7, cat_7, teenB, teenB, e1, e2]
set_option maxRecDepth 100000 in
set_option maxHeartbeats 8000000 in
theorem PluralRounds_walkI (b : List UInt8) (n : Int) (w : World) (hb : b.length = 10) (hmx : MX w) (h0 : 0 ≤ n) (h1 : n ≤ 18446744073709551615) :
    Calls Tryd.prog 6 #[.agg (bC b), .int .u64 n] w fun e w' => e = .returned (.bool true) ∧ Below w.heap.size w w' := by
  have HG0 : Hid ((w.alloc (.cells (bC b) 29)).heap[w.heap.size]? = some (.cells (bC b) 29 (0, 0))) := heap_alloc_new _ _
  have HB0 : Hid (Below w.heap.size w (w.alloc (.cells (bC b) 29))) := below_alloc1 _ _
  have HGr : Hid (∀ W : World, Calls Tryd.prog 27 #[.agg (bC b)] W fun e w' => e = .returned (.int .i64 ((grpL (langB b) : Nat) : Int)) ∧ Below W.heap.size W w') := fun W => group_any b W hb
  have HKn : Hid (∀ W, Below w.heap.size w W → Calls Tryd.prog 28 #[] W fun e w' => e = .returned (.bool true) ∧ Below W.heap.size W w') := fun W hW => known7_any W (hmx.below hW)
  have HOf : Hid (∀ (m : Int) (W : World), 0 ≤ m → Below w.heap.size w W → Calls Tryd.prog 29 #[.agg (bC b), .int .u64 m] W fun e w' => e = .returned (.int .i64 (catI (grpL (langB b)) m)) ∧ Below W.heap.size W w') := fun m W hm hW => pluralOf_any b m W hb (hmx.below hW) hm
  have HRd : Hid (∀ g, (g = 3 ∨ g = 4 ∨ g = 6 ∨ g = 7) → 100 ≤ n → catI g (n + 100) = catI g n) := fun g hg hn => cat_round g n hg hn
  have H10 := Lib.hid hb
  have hg := grpL_cases (langB b)
  clear hb hmx
  generalize grpL (langB b) = g at *
  by_cases hn : n < 100
  · clear HOf HRd
    go_enter Tryd.func6, Tryd.ntmps6
    go_wp2_with (first
      | (with_reducible refine ld_T rfl _ rfl w.heap.size b H10.out rfl HG0.out ?_)
      | (go_at_call 27; (refine (HGr.out _).mono ?_); rintro e w1 ⟨rfl, hb1⟩; have HB1 := Lib.hid (HB0.out.trans (hb1.mono HB0.out.size)); clear hb1)
      | (go_at_call 28; (refine (HKn.out _ HB1.out).mono ?_); rintro e w2 ⟨rfl, hb2⟩; have HB2 := Lib.hid (HB1.out.trans (hb2.mono HB1.out.size)); clear hb2))
    go_ret
    exact ⟨rfl, HB2.out⟩
  · by_cases hx : 18446744073709551515 < n
    · clear HOf HRd
      go_enter Tryd.func6, Tryd.ntmps6
      go_wp2_with (first
        | (with_reducible refine ld_T rfl _ rfl w.heap.size b H10.out rfl HG0.out ?_)
        | (go_at_call 27; (refine (HGr.out _).mono ?_); rintro e w1 ⟨rfl, hb1⟩; have HB1 := Lib.hid (HB0.out.trans (hb1.mono HB0.out.size)); clear hb1)
        | (go_at_call 28; (refine (HKn.out _ HB1.out).mono ?_); rintro e w2 ⟨rfl, hb2⟩; have HB2 := Lib.hid (HB1.out.trans (hb2.mono HB1.out.size)); clear hb2))
      go_ret
      exact ⟨rfl, HB2.out⟩
    · rcases hg with rfl | rfl | rfl | rfl | rfl | rfl | rfl | rfl
      case' inr.inr.inr.inl => have HE := Lib.hid (HRd.out 3 (by omega) (by omega))
      case' inr.inr.inr.inr.inl => have HE := Lib.hid (HRd.out 4 (by omega) (by omega))
      case' inr.inr.inr.inr.inr.inr.inl => have HE := Lib.hid (HRd.out 6 (by omega) (by omega))
      case' inr.inr.inr.inr.inr.inr.inr => have HE := Lib.hid (HRd.out 7 (by omega) (by omega))
      all_goals
        clear HRd
        have hnn : (0 : Int) ≤ n + 100 := by omega
        go_enter Tryd.func6, Tryd.ntmps6
        go_wp2_with (first
          | (with_reducible refine ld_T rfl _ rfl w.heap.size b H10.out rfl HG0.out ?_)
          | (go_at_call 27; (refine (HGr.out _).mono ?_); rintro e w1 ⟨rfl, hb1⟩; have HB1 := Lib.hid (HB0.out.trans (hb1.mono HB0.out.size)); have HG1 : Hid (w1.heap[w.heap.size]? = some (.cells (bC b) 29 (0, 0))) := (by (show _ = _; rw [hb1.block _ (lt_heap HG0.out)]; exact HG0.out)); clear hb1)
          | (go_at_call 28; (refine (HKn.out _ HB1.out).mono ?_); rintro e w2 ⟨rfl, hb2⟩; have HB2 := Lib.hid (HB1.out.trans (hb2.mono HB1.out.size)); clear hb2))
        first
          | (go_ret
             exact ⟨rfl, HB2.out⟩)
          | (have HK2 : Hid (∀ W, Below w1.heap.size w1 W → Calls Tryd.prog 28 #[] W fun e w' => e = .returned (.bool true) ∧ Below W.heap.size W w') := fun W hW => HKn.out W (HB1.out.trans (hW.mono HB1.out.size))
             have HOa : Hid (∀ W, Below w1.heap.size w1 W → Calls Tryd.prog 29 #[.agg (bC b), .int .u64 n] W fun e w' => e = .returned (.int .i64 (catI _ n)) ∧ Below W.heap.size W w') := fun W hW => HOf.out n W h0 (HB1.out.trans (hW.mono HB1.out.size))
             have HOb : Hid (∀ W, Below w1.heap.size w1 W → Calls Tryd.prog 29 #[.agg (bC b), .int .u64 (n + 100)] W fun e w' => e = .returned (.int .i64 (catI _ (n + 100))) ∧ Below W.heap.size W w') := fun W hW => HOf.out (n + 100) W hnn (HB1.out.trans (hW.mono HB1.out.size))
             rw [HE.out] at HOb
             clear HE
             have hsum : IntKind.u64.wrap (n + 100) = n + 100 := IntWalk.u64_in _ ⟨by omega, by omega⟩
             refine wp_region_quiet_below (by kernel_rfl) (by kernel_rfl) ?_
             repeat (first
               | (with_reducible refine wq_T rfl _ rfl w.heap.size b H10.out rfl HG1.out ?_; simp only [Act.put, List.setIfInBounds_toArray, List.set_cons_zero, List.set_cons_succ])
               | go_big_quiet_step (first | (with_reducible exact rg_callB HK2.out _ _) | (with_reducible exact rg_callB HOa.out _ _) | (with_reducible exact rg_callB HOb.out _ _)))
             refine wpQuiet_nil ?_
             rintro _ ⟨⟨dq, osq⟩, rfl⟩
             go_wp2_with fail
             go_ret
             exact ⟨rfl, HB1.out.trans ((below_regrown w1 dq osq).mono HB1.out.size)⟩)
end Go.Proofs.YtnambaiafailaaaDoor
