/- choosePivot at words. -/
import Derived.Test.YtmdhlpnieimdaaaZ6
namespace Go.Proofs.Ytmdhlpnieimdaaa
open Go.RowKit

/-- The row, and how many swaps were counted. -/
structure SwS (W : World) (g sb : Nat) (d : Array Nat) (s : Nat) : Prop where
  m : SM W g d
  s : W.heap[sb]? = some (.cells #[.int .i64 (s : Int)] 3 (0, 0))
theorem SwS.turn {W W' : World} {g sb : Nat} {d : Array Nat} {s s' : Nat} (h : SwS W g sb d s) (hne : g ≠ sb) (hg : g < W.heap.size) (ht : Turn [sb] W W') (hs : W'.heap[sb]? = some (.cells #[.int .i64 (s' : Int)] 3 (0, 0))) : SwS W' g sb d s' :=
  ⟨h.m.block (ht.block g hg (by simpa using hne)), hs⟩
set_option maxRecDepth 100000 in
set_option maxHeartbeats 4000000 in
theorem order2_any (g sb n a b s cap : Nat) (d : Array Nat) (w : World) (h : SwS w g sb d s) (hne : g ≠ sb) (hn : d.size = n) (ha : a < n) (hb : b < n) (hs : s ≤ 100) (hn2 : n ≤ 900) :
    Calls Try.prog 45 #[.slice (some ⟨g, 0, none⟩) n cap, .int .i64 (a : Int), .int .i64 (b : Int), .pointer (some ⟨sb, 0, none⟩)] w fun e w' => e = .returned (.tuple #[.int .i64 ((Sort.order2 ltN d a b s).1 : Nat), .int .i64 ((Sort.order2 ltN d a b s).2.1 : Nat)]) ∧ Turn [sb] w w' ∧ SwS w' g sb d (Sort.order2 ltN d a b s).2.2 := by
  have HH := Lib.hid h
  have hc1 := h.m.c b (by omega)
  have hc2 := h.m.c a (by omega)
  obtain ⟨x, hx⟩ : ∃ x, d[b]! = x := ⟨_, rfl⟩
  obtain ⟨y, hy⟩ : ∃ y, d[a]! = y := ⟨_, rfl⟩
  have HR : Hid (Sort.order2 ltN d a b s = if ltN x y = true then (b, a, s + 1) else (a, b, s)) := by show _ = _; unfold Sort.order2; rw [hx, hy]
  rw [hx] at hc1
  rw [hy] at hc2
  have hfr := h.m.f
  have hl := h.m.lt (by omega)
  have haI : (a : Int) < (n : Int) := by omega
  have hbI : (b : Int) < (n : Int) := by omega
  obtain ⟨R, hR⟩ : ∃ R, Sort.order2 ltN d a b s = R := ⟨_, rfl⟩
  rw [hR]
  rw [hR] at HR
  clear h hx hy hR
  by_cases hxy : x < y
  · have hd : decide (x < y) = true := by simpa using hxy
    have HD : Hid (R = (b, a, s + 1)) := by show _ = _; rw [HR.out, if_pos (by simpa [ltN] using hxy)]
    clear HR
    go_enter Try.func45, Try.ntmps45
    go_wp2_with fail
    go_quiet ((go_at_call 34; refine Calls.quiet_of_same ((less_any _ _ _).mono fun _ _ h => ⟨h.1, h.2.symm⟩)))
    have H2 : Hid (Turn [sb] w (w.drewN nq) ∧ SwS (w.drewN nq) g sb d s) := ⟨turn_drewN (Turn.refl _ _) _, HH.out.m.block rfl, HH.out.s⟩
    clear HH hc1 hc2 hfr hl
    generalize w.drewN nq = W at *
    have hcs : W.cell? ⟨sb, 0, none⟩ = some (.int .i64 (s : Int)) := by rw [cell_of_tab H2.out.2.s]; rfl
    have hfs : W.frozen? ⟨sb, 0, none⟩ = false := by simp [World.frozen?, H2.out.2.s]
    have H3 : Hid (Turn [sb] w (W.setCell ⟨sb, 0, none⟩ (.int .i64 ((s : Int) + 1))) ∧ SwS (W.setCell ⟨sb, 0, none⟩ (.int .i64 ((s : Int) + 1))) g sb d (s + 1)) := by
      have ht := Turn.setCell sb 0 (.int .i64 ((s : Int) + 1)) W
      refine ⟨H2.out.1.trans ht, H2.out.2.turn hne (H2.out.2.m.lt (by omega)) ht ?_⟩
      have := heap_setCell_self (i := 0) (.int .i64 ((s : Int) + 1)) H2.out.2.s
      simpa using this
    have hws : IntKind.i64.wrap ((s : Int) + 1) = (s : Int) + 1 := by rw [IntWalk.i64_in _ (by omega)]
    go_wp2_with fail
    refine bodyPost_ret (results_tmp2 rfl _ _ _) rfl ?_
    exact ⟨by rw [HD.out]; rfl, H3.out.1, by rw [HD.out]; exact H3.out.2⟩
  · have hd : decide (x < y) = false := by simpa using hxy
    have HD : Hid (R = (a, b, s)) := by show _ = _; rw [HR.out, if_neg (by simpa [ltN] using hxy)]
    clear HR
    go_enter Try.func45, Try.ntmps45
    go_wp2_with fail
    go_quiet ((go_at_call 34; refine Calls.quiet_of_same ((less_any _ _ _).mono fun _ _ h => ⟨h.1, h.2.symm⟩)))
    have H2 : Hid (Turn [sb] w (w.drewN nq) ∧ SwS (w.drewN nq) g sb d s) := ⟨turn_drewN (Turn.refl _ _) _, HH.out.m.block rfl, HH.out.s⟩
    clear HH hc1 hc2 hfr hl
    generalize w.drewN nq = W at *
    go_wp2_with fail
    refine bodyPost_ret (results_tmp2 rfl _ _ _) rfl ?_
    exact ⟨by rw [HD.out]; rfl, H2.out.1, by rw [HD.out]; exact H2.out.2⟩
theorem order2_bd (d : Array Nat) (a b s n : Nat) (ha : a < n) (hb : b < n) : (Sort.order2 ltN d a b s).1 < n ∧ (Sort.order2 ltN d a b s).2.1 < n ∧ (Sort.order2 ltN d a b s).2.2 ≤ s + 1 := by
  unfold Sort.order2
  split <;> simp [ha, hb]
set_option maxRecDepth 100000 in
set_option maxHeartbeats 4000000 in
theorem median_any (g sb n a b c s cap : Nat) (d : Array Nat) (w : World) (h : SwS w g sb d s) (hne : g ≠ sb) (hn : d.size = n) (ha : a < n) (hb : b < n) (hc : c < n) (hs : s ≤ 90) (hn2 : n ≤ 900) :
    Calls Try.prog 43 #[.slice (some ⟨g, 0, none⟩) n cap, .int .i64 (a : Int), .int .i64 (b : Int), .int .i64 (c : Int), .pointer (some ⟨sb, 0, none⟩)] w fun e w' => e = .returned (.int .i64 ((Sort.median ltN d a b c s).1 : Nat)) ∧ Turn [sb] w w' ∧ SwS w' g sb d (Sort.median ltN d a b c s).2 := by
  obtain ⟨r1, h1⟩ : ∃ r, Sort.order2 ltN d a b s = r := ⟨_, rfl⟩
  obtain ⟨r2, h2⟩ : ∃ r, Sort.order2 ltN d r1.2.1 c r1.2.2 = r := ⟨_, rfl⟩
  obtain ⟨r3, h3⟩ : ∃ r, Sort.order2 ltN d r1.1 r2.1 r2.2.2 = r := ⟨_, rfl⟩
  have HR : Hid (Sort.median ltN d a b c s = (r3.2.1, r3.2.2)) := by show _ = _; unfold Sort.median; simp only [h1, h2, h3]
  have b1 := order2_bd d a b s n ha hb
  rw [h1] at b1
  have b2 := order2_bd d r1.2.1 c r1.2.2 n b1.2.1 hc
  rw [h2] at b2
  have b3 := order2_bd d r1.1 r2.1 r2.2.2 n b1.1 b2.1
  rw [h3] at b3
  have HH := Lib.hid h
  have K1 : Hid (∀ W, SwS W g sb d s → Calls Try.prog 45 #[.slice (some ⟨g, 0, none⟩) n cap, .int .i64 (a : Int), .int .i64 (b : Int), .pointer (some ⟨sb, 0, none⟩)] W fun e w' => e = .returned (.tuple #[.int .i64 (r1.1 : Nat), .int .i64 (r1.2.1 : Nat)]) ∧ Turn [sb] W w' ∧ SwS w' g sb d r1.2.2) := fun W hW => by have := order2_any g sb n a b s cap d W hW hne hn ha hb (by omega) hn2; rwa [h1] at this
  have K2 : Hid (∀ W, SwS W g sb d r1.2.2 → Calls Try.prog 45 #[.slice (some ⟨g, 0, none⟩) n cap, .int .i64 (r1.2.1 : Int), .int .i64 (c : Int), .pointer (some ⟨sb, 0, none⟩)] W fun e w' => e = .returned (.tuple #[.int .i64 (r2.1 : Nat), .int .i64 (r2.2.1 : Nat)]) ∧ Turn [sb] W w' ∧ SwS w' g sb d r2.2.2) := fun W hW => by have := order2_any g sb n r1.2.1 c r1.2.2 cap d W hW hne hn b1.2.1 hc (by omega) hn2; rwa [h2] at this
  have K3 : Hid (∀ W, SwS W g sb d r2.2.2 → Calls Try.prog 45 #[.slice (some ⟨g, 0, none⟩) n cap, .int .i64 (r1.1 : Int), .int .i64 (r2.1 : Int), .pointer (some ⟨sb, 0, none⟩)] W fun e w' => e = .returned (.tuple #[.int .i64 (r3.1 : Nat), .int .i64 (r3.2.1 : Nat)]) ∧ Turn [sb] W w' ∧ SwS w' g sb d r3.2.2) := fun W hW => by have := order2_any g sb n r1.1 r2.1 r2.2.2 cap d W hW hne hn b1.1 b2.1 (by omega) hn2; rwa [h3] at this
  clear h h1 h2 h3 b1 b2 b3
  go_enter Try.func43, Try.ntmps43
  go_upto_region 2 with (go_at_call 45; (refine (K1.out _ HH.out).mono ?_); rintro e W1 ⟨rfl, ht, hs1⟩; have H1 : Hid (Turn [sb] w W1 ∧ SwS W1 g sb d r1.2.2) := ⟨ht, hs1⟩; clear ht hs1)
  go_upto_region 3 with (go_at_call 45; (refine (K2.out _ H1.out.2).mono ?_); rintro e W2 ⟨rfl, ht, hs1⟩; have H2 : Hid (Turn [sb] w W2 ∧ SwS W2 g sb d r2.2.2) := ⟨H1.out.1.trans ht, hs1⟩; clear ht hs1)
  go_wp2_with (go_at_call 45; (refine (K3.out _ H2.out.2).mono ?_); rintro e W3 ⟨rfl, ht, hs1⟩; have H3 : Hid (Turn [sb] w W3 ∧ SwS W3 g sb d r3.2.2) := ⟨H2.out.1.trans ht, hs1⟩; clear ht hs1)
  go_ret
  exact ⟨by rw [HR.out]; rfl, H3.out.1, by rw [HR.out]; exact H3.out.2⟩
theorem median_bd (d : Array Nat) (a b c s n : Nat) (ha : a < n) (hb : b < n) (hc : c < n) : (Sort.median ltN d a b c s).1 < n ∧ (Sort.median ltN d a b c s).2 ≤ s + 3 := by
  unfold Sort.median
  simp only
  have b1 := order2_bd d a b s n ha hb
  have b2 := order2_bd d (Sort.order2 ltN d a b s).2.1 c (Sort.order2 ltN d a b s).2.2 n b1.2.1 hc
  have b3 := order2_bd d (Sort.order2 ltN d a b s).1 (Sort.order2 ltN d (Sort.order2 ltN d a b s).2.1 c (Sort.order2 ltN d a b s).2.2).1 (Sort.order2 ltN d (Sort.order2 ltN d a b s).2.1 c (Sort.order2 ltN d a b s).2.2).2.2 n b1.1 b2.1
  exact ⟨b3.2.1, by omega⟩
set_option maxRecDepth 100000 in
set_option maxHeartbeats 4000000 in
theorem medAdj_any (g sb n a s cap : Nat) (d : Array Nat) (w : World) (h : SwS w g sb d s) (hne : g ≠ sb) (hn : d.size = n) (ha0 : 1 ≤ a) (ha : a + 1 < n) (hs : s ≤ 90) (hn2 : n ≤ 900) :
    Calls Try.prog 42 #[.slice (some ⟨g, 0, none⟩) n cap, .int .i64 (a : Int), .pointer (some ⟨sb, 0, none⟩)] w fun e w' => e = .returned (.int .i64 ((Sort.medianAdjacent ltN d a s).1 : Nat)) ∧ Turn [sb] w w' ∧ SwS w' g sb d (Sort.medianAdjacent ltN d a s).2 := by
  obtain ⟨a1, h1⟩ : ∃ k, a - 1 = k := ⟨_, rfl⟩
  obtain ⟨a2, h2⟩ : ∃ k, a + 1 = k := ⟨_, rfl⟩
  have K := median_any g sb n a1 a a2 s cap d w h hne hn (by omega) (by omega) (by omega) hs hn2
  unfold Sort.medianAdjacent
  rw [h1, h2]
  obtain ⟨R, hR⟩ : ∃ R, Sort.median ltN d a1 a a2 s = R := ⟨_, rfl⟩
  rw [hR] at K ⊢
  have KK := Lib.hid K
  have hw1 : IntKind.i64.wrap ((a : Int) - 1) = (a1 : Int) := by rw [IntWalk.i64_in _ (by omega)]; omega
  have hw2 : IntKind.i64.wrap ((a : Int) + 1) = (a2 : Int) := by rw [IntWalk.i64_in _ (by omega)]; omega
  clear K h hR h1 h2
  go_enter Try.func42, Try.ntmps42
  go_wp2_with (go_at_call 43; (refine KK.out.mono ?_); rintro e W1 ⟨rfl, ht, hs1⟩; have H1 := Lib.hid (And.intro ht hs1); clear ht hs1)
  go_ret
  exact ⟨rfl, H1.out⟩
end Go.Proofs.Ytmdhlpnieimdaaa
