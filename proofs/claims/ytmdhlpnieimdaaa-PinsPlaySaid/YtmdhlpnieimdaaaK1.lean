/- The chapter's example. -/
import Derived.Test.YtmdhlpnieimdaaaW4
namespace Go.Proofs.Ytmdhlpnieimdaaa
open Go.RowKit
/-- A fresh table's cells. -/
def freshC : Array Value := tabC 0 (List.replicate 64 0) none
theorem zero27 (w : World) : (zeroValue 27).run Try.prog w = .ok (.agg freshC) w := by kernel_rfl
theorem fresh_tab (w : World) : TabP (w.alloc (.cells freshC 27)) w.heap.size PS.empty none :=
  ⟨⟨⟨heap_alloc_new _ _, by decide, rfl⟩, rfl, rfl⟩, PS.empty_ok⟩
/-- Pin at a table that has its map. -/
theorem pin_on (tp r k t : Nat) (s : PS) (w : World) (h : TabP w tp s (some r)) (hk : k < 64) (h0 : s.used.testBit k = false) (hb : botOf (notW s.used) = k) :
    Calls Try.prog 8 #[.pointer (some ⟨tp, 0, none⟩), .int .u64 t] w fun e w' => e = .returned (.tuple #[.int .i64 k, .int .i64 0]) ∧ Turn [tp, r] w w' ∧ TabP w' tp (s.pin k t) (some r) :=
  (pin_room tp (some r) k t s w h hk h0 hb).mono fun e w' ⟨he, r', _, h2, h3, h4⟩ => by
    obtain rfl := h2 r rfl
    exact ⟨he, h3, h4⟩
theorem pin_first (tp k t : Nat) (s : PS) (w : World) (h : TabP w tp s none) (hk : k < 64) (h0 : s.used.testBit k = false) (hb : botOf (notW s.used) = k) :
    Calls Try.prog 8 #[.pointer (some ⟨tp, 0, none⟩), .int .u64 t] w fun e w' => e = .returned (.tuple #[.int .i64 k, .int .i64 0]) ∧ Turn [tp, w.heap.size] w w' ∧ TabP w' tp (s.pin k t) (some w.heap.size) :=
  (pin_room tp none k t s w h hk h0 hb).mono fun e w' ⟨he, r', h1, _, h3, h4⟩ => by
    obtain rfl := h1 rfl
    exact ⟨he, h3, h4⟩
def s1 : PS := PS.empty.pin 0 7
def s2 : PS := s1.pin 1 3
def s3 : PS := s2.pin 2 7
theorem s3_K : s3.K = [7, 3] := by decide
theorem s3_u : s3.un 0 = ⟨clearB 7 0, s3.times.set 0 0, setF s3.f 7 1, s3.K⟩ := by
  have h1 : hasL s3.used 0 = true := by decide
  have h2 : s3.at1 0 = 7 := by decide
  have h3 : s3.f 7 = 2 := by decide
  rw [PS.un, if_pos h1, show (0 : Int).toNat = 0 from rfl, h2, h3]; rfl
theorem times_of (tp r x y : Nat) (s : PS) (w : World) (h : TabP w tp s (some r)) (hK : s.K = [x, y]) : Calls Try.prog 17 #[.pointer (some ⟨tp, 0, none⟩)] w (TimesPost x y w) :=
  times_two tp s.used r x y s.times s.f w (hK ▸ h.1)
theorem count_of (tp r t : Nat) (s : PS) (w : World) (h : TabP w tp s (some r)) : Calls Try.prog 10 #[.pointer (some ⟨tp, 0, none⟩), .int .u64 t] w fun e w' => e = .returned (.int .i64 (s.f t)) ∧ w = w' :=
  count_tab tp s.used s.times r t s.f s.K w h.1.1 h.1.2.2
theorem tn {P : Program} {f : FuncId} {args : Array Value} {w : World} {R R' : Ending → World → Prop} (h : Calls P f args w R) (hr : ∀ e w', R e w' → R' e w') : Calls P f args w R' := h.mono hr

set_option maxRecDepth 100000 in
set_option maxHeartbeats 2000000 in
theorem known_any (w : World) : Calls Try.prog 11 #[] w fun e w' => e = .returned (.bool true) ∧ Below w.heap.size w w' := by
  have hz := zero27
  have HT0 := Lib.hid (fresh_tab w)
  have HB0 : Hid (Below w.heap.size w (w.alloc (.cells freshC 27))) := below_alloc1 _ _
  have HP1 : Hid (∀ W, TabP W w.heap.size PS.empty none → Calls Try.prog 8 #[.pointer (some ⟨w.heap.size, 0, none⟩), .int .u64 7] W fun e w' => e = .returned (.tuple #[.int .i64 0, .int .i64 0]) ∧ Turn [w.heap.size, W.heap.size] W w' ∧ TabP w' w.heap.size s1 (some W.heap.size)) :=
    fun W h => pin_first _ 0 7 _ W h (by omega) (by decide) (by decide)
  have HP2 : Hid (∀ W r, TabP W w.heap.size s1 (some r) → Calls Try.prog 8 #[.pointer (some ⟨w.heap.size, 0, none⟩), .int .u64 3] W fun e w' => e = .returned (.tuple #[.int .i64 1, .int .i64 0]) ∧ Turn [w.heap.size, r] W w' ∧ TabP w' w.heap.size s2 (some r)) :=
    fun W r h => pin_on _ r 1 3 _ W h (by omega) (by decide) (by decide)
  have HP3 : Hid (∀ W r, TabP W w.heap.size s2 (some r) → Calls Try.prog 8 #[.pointer (some ⟨w.heap.size, 0, none⟩), .int .u64 7] W fun e w' => e = .returned (.tuple #[.int .i64 2, .int .i64 0]) ∧ Turn [w.heap.size, r] W w' ∧ TabP w' w.heap.size s3 (some r)) :=
    fun W r h => pin_on _ r 2 7 _ W h (by omega) (by decide) (by decide)
  have HUn : Hid (∀ W r b, TabP W w.heap.size s3 (some r) → W.heap[b]? = some (.cells #[.int .i64 0] 3) → b ≠ w.heap.size → Calls Try.prog 7 #[.pointer (some ⟨w.heap.size, 0, none⟩), .slice (some ⟨b, 0, none⟩) 1 1] W fun e w' => e = .returned (.int .i64 1) ∧ Turn [w.heap.size, r] W w' ∧ TabP w' w.heap.size (s3.un 0) (some r)) :=
    fun W r b h hb hne => (unpin_any _ b 1 [0] s3 (some r) W h hb rfl (by omega) hne).mono fun e w' ⟨he, h2, h3⟩ => ⟨he.trans (by rfl), h2, h3⟩
  have HC : Hid (∀ W r, TabP W w.heap.size (s3.un 0) (some r) → Calls Try.prog 10 #[.pointer (some ⟨w.heap.size, 0, none⟩), .int .u64 7] W fun e w' => e = .returned (.int .i64 1) ∧ W = w') :=
    fun W r h => (count_of _ r 7 _ W h).mono fun e w' ⟨he, h2⟩ => ⟨he.trans (by rw [s3_u]; rfl), h2⟩
  go_enter Try.func11, Try.ntmps11
  go_upto_region 3 with (go_at_call 8; (refine (HP1.out _ HT0.out).mono ?_); rintro e w1 ⟨rfl, ht1, hp1⟩)
  have HB1 : Hid (Below w.heap.size w w1) := HB0.out.trans (ht1.below (fun k hk => by have := HB0.out.size; simp at hk; omega) HB0.out.size)
  have hr0 : w.heap.size ≤ (w.alloc (.cells freshC 27)).heap.size := HB0.out.size
  have HQ1 := Lib.hid hp1
  clear ht1 hp1 HT0
  generalize (w.alloc (.cells freshC 27)).heap.size = r at *
  go_upto_region 5 with (first
    | (go_at_call 8; (with_reducible refine (HP2.out _ r HQ1.out).mono ?_); rintro e w2 ⟨rfl, ht2, hp2⟩; have HQ2 := Lib.hid hp2)
    | (go_at_call 8; (with_reducible refine (HP3.out _ r HQ2.out).mono ?_); rintro e w3 ⟨rfl, ht3, hp3⟩; have HQ3 := Lib.hid hp3))
  have HB3 : Hid (Below w.heap.size w w3) := HB1.out.trans ((ht2.trans ht3).below (fun k hk => by simp at hk; omega) HB1.out.size)
  clear ht2 hp2 ht3 hp3
  go_upto_region 6 with (go_at_call 17; (refine (times_of _ r 7 3 _ _ HQ3.out s3_K).mono ?_); rintro e w4 ⟨hb4, g, cap, rfl, hg, h24⟩)
  have hc0 := h24.c0
  have hc1 := h24.c1
  have HQ4 : Hid (TabP w4 w.heap.size s3 (some r)) := HQ3.out.below hb4
  have HQ5 : Hid (TabP (w4.alloc (.cells #[.int .i64 0] 3)) w.heap.size s3 (some r)) := HQ4.out.below (below_alloc1 _ _)
  have HB5 : Hid (Below w.heap.size w (w4.alloc (.cells #[.int .i64 0] 3))) := (HB3.out.trans (hb4.mono HB3.out.size)).alloc (Nat.le_trans HB3.out.size hb4.size) _
  have hne : w4.heap.size ≠ w.heap.size := by have := HB3.out.size; have := hb4.size; have := HQ4.out.lt; omega
  have hl4 := h24.lt
  clear hb4 h24
  go_wp2_with (first
    | (go_at_call 7; (refine (HUn.out _ r _ HQ5.out (heap_alloc_new _ _) hne).mono ?_); rintro e w6 ⟨rfl, ht6, hp6⟩)
    | (go_at_call 10; (refine (HC.out _ r hp6).mono ?_); rintro e w7 ⟨rfl, rfl⟩))
  go_ret
  exact ⟨rfl, HB5.out.trans (ht6.below (fun k hk => by simp at hk; omega) HB5.out.size)⟩
end Go.Proofs.Ytmdhlpnieimdaaa
