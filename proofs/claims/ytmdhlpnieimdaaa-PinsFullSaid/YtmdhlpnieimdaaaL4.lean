/- PROVED: for every time and every number the law PinsFull returns true. No condition. -/
import Derived.Test.YtmdhlpnieimdaaaF
namespace Go.Proofs.Ytmdhlpnieimdaaa
open Go.ChangeShapes Go.WideShapes Go.ChangeAt Go.RowKit

/-- A table behind k pins. -/
def fS (t : Nat → Nat) : Nat → PS
  | 0 => PS.empty
  | k + 1 => (fS t k).pin k (t k)
theorem fS_bit (t : Nat → Nat) : ∀ k i, (fS t k).used.testBit i = decide (i < k)
  | 0, i => by simp [fS, PS.empty]
  | k + 1, i => by
    show ((fS t k).used ||| 2 ^ k).testBit i = _
    rw [or_test, fS_bit t k i]
    by_cases h : i < k
    · simp [h]; omega
    · by_cases e : i = k
      · simp [e]
      · have : ¬ i < k + 1 := by omega
        simp [h, e, this]
theorem fS_ok (t : Nat → Nat) : ∀ k, k ≤ 64 → (fS t k).Ok
  | 0, _ => PS.empty_ok
  | k + 1, h => PS.pin_ok (fS_ok t k (by omega)) (by omega) (by rw [fS_bit]; simp) _
theorem bot_at {u k : Nat} (hu : u < 18446744073709551616) (hk : k < 64) (h0 : u.testBit k = false) (h1 : ∀ i, i < k → u.testBit i = true) : botOf (notW u) = (k : Int) := by
  rcases room_or u hu with ⟨_, h⟩ | ⟨k', hk', g0, g1, g2⟩
  · rw [h k hk] at h0; cases h0
  · rw [g2]
    have h2 : ¬ k' < k := fun h => by rw [h1 k' h] at g0; cases g0
    have h3 : ¬ k < k' := fun h => by rw [g1 k h] at h0; cases h0
    omega
theorem bot_full {u : Nat} (hu : u < 18446744073709551616) (h1 : ∀ i, i < 64 → u.testBit i = true) : botOf (notW u) = -1 := by
  rcases room_or u hu with ⟨h, _⟩ | ⟨k', hk', g0, _, _⟩
  · exact h
  · rw [h1 k' hk'] at g0; cases g0
theorem cntP_all {p : Nat → Bool} : ∀ n, (∀ i, i < n → p i = true) → cntP p n = n
  | 0, _ => rfl
  | n + 1, h => by rw [cntP, cntP_all n fun i hi => h i (by omega), h n (by omega)]; rfl
/-- The k-th pin's time. -/
def tmf (t : Nat) (k : Nat) : Nat := (IntKind.u64.wrap ((t : Int) - (k : Int) % 3)).toNat
theorem tmf_eq (t k : Nat) : IntKind.u64.wrap ((t : Int) - (k : Int) % 3) = ((tmf t k : Nat) : Int) := by
  have : 0 ≤ IntKind.u64.wrap ((t : Int) - (k : Int) % 3) := by
    show 0 ≤ ((t : Int) - (k : Int) % 3) % 18446744073709551616
    omega
  unfold tmf; omega
/-- Full, one out, one in. -/
def gS (t : Nat → Nat) (j x : Nat) : PS := ((fS t 64).un j).pin j x
theorem un64 (t : Nat → Nat) (j : Nat) (hj : j < 64) (i : Nat) : ((fS t 64).un (j : Int)).used.testBit i = (decide (i < 64) && decide (i ≠ j)) := by
  have hh : hasL (fS t 64).used (j : Int) = true := by
    simp only [hasL, Int.toNat_natCast, fS_bit]; simp; omega
  rw [un_eq hh]
  show (clearB (fS t 64).used j).testBit i = _
  rw [clearB_test (fS_ok t 64 (by omega)).hu hj, fS_bit]
theorem g_ones (t : Nat → Nat) (j x : Nat) (hj : j < 64) : onesOf (gS t j x).used = 64 := by
  rw [onesOf, cntTo_eq]
  refine cntP_all 64 fun i hi => ?_
  show (((fS t 64).un (j : Int)).used ||| 2 ^ j).testBit i = true
  rw [or_test, un64 t j hj]
  by_cases e : i = j <;> simp [e, hi]

set_option maxRecDepth 100000 in
set_option maxHeartbeats 2000000 in
theorem PinsFull_walk (time : Int) (ht : Lit.wf (.int .u64 time)) (id : Int) (hid : Lit.wf (.int .i64 id)) (w : World) :
    Calls Try.prog 4 #[.int .u64 time, .int .i64 id] w fun e w' => e = .returned (.bool true) ∧ Below w.heap.size w w' := by
  obtain ⟨t, rfl⟩ : ∃ t : Nat, time = t := ⟨time.toNat, by
    have h0 : 0 ≤ time ∧ time ≤ IntKind.u64.max := by simpa [Lit.wf, show IntKind.u64.min = 0 from rfl] using ht
    omega⟩
  clear ht
  have hw0 : 0 ≤ IntKind.u64.wrap id := by
    show 0 ≤ id % 18446744073709551616
    omega
  obtain ⟨j, hj0⟩ : ∃ j : Nat, IntKind.u64.wrap id % 64 = (j : Int) := ⟨(IntKind.u64.wrap id % 64).toNat, by omega⟩
  have hj64 : j < 64 := by omega
  have hj64' : (j : Int) < 64 := by omega
  have hj : (IntKind.u64.wrap id).tmod 64 = (j : Int) := by rw [Int.tmod_eq_emod_of_nonneg hw0, hj0]
  clear hid hw0 hj0
  have hz := zero27
  have HT0 := Lib.hid (fresh_tab w)
  have HB0 : Hid (Below w.heap.size w (w.alloc (.cells freshC 27))) := below_alloc1 _ _
  go_enter Try.func4, Try.ntmps4
  go_wp2_with fail
  generalize w.alloc (.cells freshC 27) = W0 at *
  go_loopw [4, 6] (fun rv i wr => rv = .bool false ∧ ∃ (k : Nat) (o : Option Nat), k ≤ 64 ∧ i = .int .i64 k ∧ Hid (TabP wr w.heap.size (fS (tmf t) k) o) ∧ Hid (Below w.heap.size w wr) ∧ Hid (∀ r, o = some r → w.heap.size ≤ r)) (fun _ i _ => 64 - (intOf i).toNat)
  case atStart => exact ⟨rfl, 0, none, by omega, rfl, HT0.out, HB0.out, fun r h => by cases h⟩
  case round =>
    obtain ⟨rfl, k, o, hk, rfl, HP, HB, HR⟩ := hrel
    by_cases hlt : k < 64
    · have hk3 : (k : Int) < 64 := by omega
      have htk := tmf_eq t k
      have HPin : Hid (Calls Try.prog 8 #[.pointer (some ⟨w.heap.size, 0, none⟩), .int .u64 (tmf t k : Nat)] wr (PinRoom w.heap.size o k (tmf t k) (fS (tmf t) k) wr)) :=
        pin_room _ o k _ _ wr HP.out hlt (by rw [fS_bit]; simp) (bot_at HP.out.2.hu hlt (by rw [fS_bit]; simp) fun i hi => by rw [fS_bit]; simp [hi])
      go_wp2_with (go_at_call 8; (refine HPin.out.mono ?_); rintro e w1 ⟨rfl, r, hr1, hr2, ht1, hp1⟩)
      have hwr : w.heap.size ≤ wr.heap.size := HB.out.size
      have hrl : w.heap.size ≤ r := by
        cases o with
        | none => rw [hr1 rfl]; exact hwr
        | some r0 => rw [hr2 r0 rfl]; exact HR.out r0 rfl
      go_roundw
      case rel => exact ⟨rfl, k + 1, some r, by omega, by go_num, hp1, HB.out.trans (ht1.below (fun x hx => by simp at hx; omega) hwr), fun r' h => by cases h; exact hrl⟩
      case measure => simp [intOf]; omega
    · obtain rfl : k = 64 := by omega
      have hu64 : ∀ i, i < 64 → (fS (tmf t) 64).used.testBit i = true := fun i hi => by rw [fS_bit]; simp [hi]
      obtain ⟨r, rfl⟩ : ∃ r, o = some r := by
        cases o with
        | some r => exact ⟨r, rfl⟩
        | none =>
          have := has_none HP.out 0
          simp [hasL, hu64] at this
      have hrl := HR.out r rfl
      have hh : hasL (fS (tmf t) 64).used (j : Int) = true := by simp [hasL, hu64 j hj64, hj64']
      have HFull : Hid (Calls Try.prog 8 #[.pointer (some ⟨w.heap.size, 0, none⟩), .int .u64 t] wr fun e w' => e = .returned (.tuple #[.int .i64 0, .int .i64 6]) ∧ wr = w') := pin_nix _ (some r) t _ wr HP.out (bot_full HP.out.2.hu hu64)
      have HUn : Hid (Calls Try.prog 7 #[.pointer (some ⟨w.heap.size, 0, none⟩), .slice (some ⟨wr.heap.size, 0, none⟩) 1 1] (wr.alloc (.cells #[.int .i64 j] 3)) fun e w' => e = .returned (.int .i64 1) ∧ Turn [w.heap.size, r] (wr.alloc (.cells #[.int .i64 j] 3)) w' ∧ TabP w' w.heap.size ((fS (tmf t) 64).un j) (some r)) :=
        (unpin_any _ wr.heap.size 1 [(j : Int)] _ (some r) _ (HP.out.below (below_alloc1 _ _)) (heap_alloc_new _ _) rfl (by omega) (by have := HP.out.lt; omega)).mono fun e w' ⟨he, h2, h3⟩ => ⟨he.trans (by simp [unN, hh]), h2, h3⟩
      have HB2 : Hid (Below w.heap.size w (wr.alloc (.cells #[.int .i64 j] 3))) := HB.out.alloc HB.out.size _
      have HUt : Hid (∀ i, ((fS (tmf t) 64).un (j : Int)).used.testBit i = (decide (i < 64) && decide (i ≠ j))) := un64 (tmf t) j hj64
      have HOn : Hid (onesOf (gS (tmf t) j t).used = 64) := g_ones (tmf t) j t hj64
      clear hu64 hh HP HR
      have hgS : gS (tmf t) j t = ((fS (tmf t) 64).un (j : Int)).pin j t := rfl
      rw [hgS] at HOn
      clear hgS
      generalize (fS (tmf t) 64).un (j : Int) = sU at *
      have HPn : Hid (∀ W, TabP W w.heap.size sU (some r) → Calls Try.prog 8 #[.pointer (some ⟨w.heap.size, 0, none⟩), .int .u64 t] W fun e w' => e = .returned (.tuple #[.int .i64 j, .int .i64 0]) ∧ Turn [w.heap.size, r] W w' ∧ TabP w' w.heap.size (sU.pin j t) (some r)) := fun W hW =>
        pin_on _ r j t _ W hW hj64 (by rw [HUt.out]; simp) (bot_at hW.2.hu hj64 (by rw [HUt.out]; simp) fun i hi => by rw [HUt.out]; simp; omega)
      have HLen : Hid (∀ W, TabP W w.heap.size (sU.pin j t) (some r) → Calls Try.prog 12 #[.pointer (some ⟨w.heap.size, 0, none⟩)] W fun e w' => e = .returned (.int .i64 64) ∧ W = w') := fun W hW =>
        (len_tab _ _ _ _ W hW.1.1).mono fun e w' ⟨he, h2⟩ => ⟨he.trans (by rw [HOn.out]; rfl), h2⟩
      go_wp2_with (first
        | (go_at_call 8; (with_reducible refine HFull.out.mono ?_); rintro e w1 ⟨rfl, rfl⟩)
        | (go_at_call 7; (with_reducible refine HUn.out.mono ?_); rintro e w2 ⟨rfl, ht2, hp2⟩)
        | (go_at_call 8; (with_reducible refine (HPn.out _ hp2).mono ?_); rintro e w3 ⟨rfl, ht3, hp3⟩)
        | (go_at_call 11; (with_reducible refine (known_any _).mono ?_); rintro e w4 ⟨rfl, hb4⟩; have hp4 := hp3.below hb4)
        | (go_at_call 12; (with_reducible refine (HLen.out _ hp4).mono ?_); rintro e w5 ⟨rfl, rfl⟩))
      go_ret
      have hb3 : Below w.heap.size w w3 := HB2.out.trans ((ht2.trans ht3).below (fun x hx => by simp at hx; omega) HB2.out.size)
      exact ⟨rfl, hb3.trans (hb4.mono hb3.size)⟩

set_option maxRecDepth 100000 in
theorem PinsFull_lifted (os : Os) (started : os.Started) (H : Type) (enc : TypeId × Value → H) :
    ReturnsInHanded {} Try.checked os 4 .any (Rows.pinsFullSpec.pre6 enc Try.prog Try.f4 Rows.pinsFullRow.domain false) (Rows.pinsFullSpec.post enc Try.prog Try.f4 false true false false) := by
  refine returnsInHanded_of_change (C := Try.checked) own started (by kernel_rfl) Try.func4
    (ChangeSpec.witness6 (enc := enc) (C := Try.checked) false ⟨#[], #[.int .u64 0, .int .i64 0], []⟩ 8 (by kernel_rfl) (by kernel_rfl) (by kernel_rfl) (by kernel_rfl)) ?_
  intro W base args ds gs before hval0 hW hcnd hroom
  have hval : ∀ (j : Nat) t v, Try.f4.params[j]? = some t → args[j]? = some v → Value.okWide Try.prog W .any base t v := hval0
  have hW' := hW
  obtain ⟨p, q, hA0, hV, rfl, hfz, hnd⟩ := hW
  have hA : DataW.TrodAll enc Try.prog W 0 (fun _ => true) true Try.f4.params.toList args.toList ds p := hA0
  rw [Try.params4] at hA hval
  obtain ⟨v0, vs0, d0, ds0, p0, q0, hargs, rfl, rfl, h0, r0⟩ := trodAll_cons hA
  obtain ⟨v1, vs1, d1, ds1, p1, q1, rfl, rfl, rfl, h1, r1⟩ := trodAll_cons r0
  obtain ⟨rfl, rfl, rfl⟩ := trodAll_nil r1
  obtain rfl : args = #[v0, v1] := by cases args; simp_all
  obtain ⟨rfl, rfl⟩ := trodVars_none hV
  have k0 := h0
  have lt0 : ∀ x ∈ p0, x.block < W.heap.size := by obtain ⟨m, hm⟩ := k0; exact DataW.trod_lt m _ _ _ hm
  have k1 := h1
  have lt1 : ∀ x ∈ p1, x.block < W.heap.size := by obtain ⟨m, hm⟩ := k1; exact DataW.trod_lt m _ _ _ hm
  obtain ⟨a0, rfl, rfl, rfl, w0⟩ := open_int Try.underlying23 (hval 0 23 v0 rfl rfl) h0
  obtain ⟨a1, rfl, rfl, rfl, w1⟩ := open_int Try.underlying3 (hval 1 3 v1 rfl rfl) h1
  clear hA0 hval0
  refine (PinsFull_walk a0 w0 a1 w1 W).mono fun e W' ⟨he, bel⟩ => ?_
  subst he
  exact ⟨_, rfl, _, _, _, [], _, [], hW', trodAll_mk1 (shut_bool Try.underlying4 _), (trodAll_cons_mk (Below.trod laidOut (by kernel_rfl) (of_decide_eq_true (by kernel_rfl)) k0 bel lt0) (trodAll_cons_mk (Below.trod laidOut (by kernel_rfl) (of_decide_eq_true (by kernel_rfl)) k1 bel lt1) trodAll_mk0)), rfl, bel.frame _, fun h => by cases h⟩

theorem PinsFull_holds : Rows.PinsFullSaid :=
  OpenClaim.holds_of_wide 4 Try.f4 rfl rfl rfl rfl rfl rfl rfl ⟨rfl, rfl, rfl, rfl, rfl⟩ rfl rfl rfl rfl rfl (by kernel_rfl) Try.func4 (by kernel_rfl)
    (of_decide_eq_true (by kernel_rfl)) (by unfold Func.isWrapper; first | (rw [if_pos (by decide +kernel)]; kernel_rfl) | (rw [if_neg (by decide +kernel)]; exact ⟨rfl, rfl⟩))
    (fun os started H enc _ => PinsFull_lifted os started H enc)

end Go.Proofs.Ytmdhlpnieimdaaa
