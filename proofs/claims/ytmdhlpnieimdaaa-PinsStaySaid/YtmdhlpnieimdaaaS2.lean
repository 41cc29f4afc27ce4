/- PROVED: for all slices of acts and every time the law PinsStay returns true and leaves its arguments as they were. No condition. -/
import Derived.Test.YtmdhlpnieimdaaaS1
namespace Go.Proofs.Ytmdhlpnieimdaaa
open Go.ChangeShapes Go.WideShapes Go.ChangeAt Go.RowKit Go.Deep

theorem cellB {B : Nat} {w w' : World} (hb : Below B w w') {b i : Nat} (h : b < B) : w'.cell? ⟨b, i, none⟩ = w.cell? ⟨b, i, none⟩ := hb.cell (p := ⟨b, i, none⟩) h

set_option maxRecDepth 100000 in
set_option maxHeartbeats 4000000 in
theorem PinsStay_walkI (q1 q2 : Option Addr) (n1 c1 n2 c2 t : Nat) (w : World) (hq1 : ActsIn w q1 n1) (hc1 : n1 ≤ c1) (hm1 : c1 ≤ maxLen) (hq2 : ActsIn w q2 n2) (hc2 : n2 ≤ c2) (hm2 : c2 ≤ maxLen) :
    Calls Try.prog 3 #[.slice q1 n1 c1, .slice q2 n2 c2, .int .u64 t] w fun e w' => e = .returned (.bool true) ∧ Below w.heap.size w w' := by
  unfold maxLen at hm1 hm2
  have hz := zero27
  have HA1 := Lib.hid hq1
  have HA2 := Lib.hid hq2
  have HT0 : Hid (TB w (w.alloc (.cells freshC 27)) w.heap.size PS.empty none) := ⟨fresh_tab w, below_alloc1 _ _, fun r h => by cases h⟩
  clear hq1 hq2
  go_enter Try.func3, Try.ntmps3
  go_wp2_with fail
  generalize w.alloc (.cells freshC 27) = W0 at *
  go_loopw [8] (fun i wr => ∃ (k : Nat) (o : Option Nat) (s : PS), k ≤ n1 ∧ k ≤ 30 ∧ i = .int .i64 k ∧ Hid (TB w wr w.heap.size s o) ∧ Hid (onesOf s.used ≤ k)) (fun i _ => n1 - (intOf i).toNat)
  case atStart => exact ⟨0, none, PS.empty, by omega, by omega, rfl, HT0.out, by show onesOf 0 ≤ 0; decide⟩
  case round =>
    obtain ⟨k, o, s, hk, hk30, rfl, HT, HO⟩ := hrel
    by_cases hgo : k < n1 ∧ k < 30
    · obtain ⟨hlt, hl30⟩ := hgo
      have hlt' : (k : Int) < n1 := by omega
      have hl30' : (k : Int) < 30 := by omega
      obtain ⟨b, ob, kd, id, tm, rfl, hb, hk0, hk1, hk2⟩ := HA1.out k hlt
      rw [← cellB HT.out.b hb] at hk0 hk1 hk2
      by_cases hkd : kd = 0
      · subst hkd
        have HU := Lib.hid (un_gen w w.heap.size o id s wr HT.out)
        have hou : onesOf (s.un id).used ≤ k + 1 := by have := ones_un HT.out.ok id; have := HO.out; omega
        have HOU := Lib.hid hou
        clear hou
        go_wp2_with (go_at_call 7; (refine HU.out.mono ?_); rintro e w1 ⟨rfl, ht1⟩)
        go_roundw
        case rel => exact ⟨k + 1, o, s.un id, by omega, by omega, by go_num, ht1, HOU.out⟩
        case measure => simp [intOf]; omega
      · have HP := Lib.hid (pin_gen w w.heap.size o tm s wr HT.out)
        go_wp2_with (go_at_call 8; (refine HP.out.mono ?_); rintro e w1 ⟨a, b', o', s', rfl, ht1, _, ho1, _⟩)
        go_roundw
        case rel => exact ⟨k + 1, o', s', by omega, by omega, by go_num, ht1, Nat.le_trans ho1 (by have := HO.out; omega)⟩
        case measure => simp [intOf]; omega
    · have HP := Lib.hid (pin_first30 w w.heap.size o t s wr HT.out (by have := HO.out; omega))
      have HOut : Hid (∀ (j r : Nat) (s' : PS) (W : World), TB w W w.heap.size s' (some r) → j < 64 → JP s' j t → True) := fun _ _ _ _ _ _ _ => trivial
      rcases (show k = n1 ∨ (k = 30 ∧ (30 : Int) < n1) by omega) with rfl | ⟨rfl, hlt'⟩
      all_goals
        go_upto_region 9 with (go_at_call 8; (refine HP.out.mono ?_); rintro e w1 ⟨j, r, s', hj, rfl, ht1, hJ1⟩)
        have HT1 := Lib.hid ht1
        have HJ1 := Lib.hid hJ1
        clear HT HO HP ht1 hJ1 HOut HA1
        have hj' : (j : Int) < 64 := by omega
        go_wp2_with fail
        go_loopw [11] (fun i wr => ∃ (k : Nat) (s : PS), k ≤ n2 ∧ k ≤ 30 ∧ i = .int .i64 k ∧ Hid (TB w wr w.heap.size s (some r)) ∧ Hid (JP s j t)) (fun i _ => n2 - (intOf i).toNat)
        case atStart => exact ⟨0, s', by omega, by omega, rfl, HT1.out, HJ1.out⟩
        case round =>
          obtain ⟨m, s2, hm, hm30, rfl, HT2, HJ2⟩ := hrel
          by_cases hgo : m < n2 ∧ m < 30
          · obtain ⟨hlt, hl30⟩ := hgo
            have hlt' : (m : Int) < n2 := by omega
            have hl30' : (m : Int) < 30 := by omega
            obtain ⟨b, ob, kd, id, tm, rfl, hb, hk0, hk1, hk2⟩ := HA2.out m hlt
            rw [← cellB HT2.out.b hb] at hk0 hk1 hk2
            have HAt : Hid (∀ W s3, TB w W w.heap.size s3 (some r) → JP s3 j t → Calls Try.prog 9 #[.pointer (some ⟨w.heap.size, 0, none⟩), .int .i64 j] W fun e w' => e = .returned (.tuple #[.int .u64 t, .bool true]) ∧ W = w') := fun W s3 h hJ => at_gen w _ j t _ s3 W h hj hJ
            have HCt : Hid (∀ W s3, TB w W w.heap.size s3 (some r) → JP s3 j t → Calls Try.prog 10 #[.pointer (some ⟨w.heap.size, 0, none⟩), .int .u64 t] W fun e w' => ∃ m : Nat, 1 ≤ m ∧ m ≤ 64 ∧ e = .returned (.int .i64 m) ∧ W = w') := fun W s3 h hJ => count_gen w _ j t r s3 W h hj hJ
            by_cases hkd : kd = 0
            · subst hkd
              by_cases hij : id = j
              · subst hij
                go_wp2_with (first
                  | (go_at_call 9; (with_reducible refine (HAt.out _ _ HT2.out HJ2.out).mono ?_); rintro e w3 ⟨rfl, rfl⟩)
                  | (go_at_call 10; (with_reducible refine (HCt.out _ _ HT2.out HJ2.out).mono ?_); rintro e w3 ⟨z, hz1, hz2, rfl, rfl⟩; have hz1' : (1 : Int) ≤ z := by omega))
                go_roundw
                case rel => exact ⟨m + 1, s2, by omega, by omega, by go_num, HT2.out, HJ2.out⟩
                case measure => simp [intOf]; omega
              · have HU := Lib.hid (un_gen w w.heap.size (some r) id s2 wr HT2.out)
                have HJ3 : Hid (JP (s2.un id) j t) := HJ2.out.un HT2.out.ok id hij
                go_wp2_with (first
                  | (go_at_call 7; (with_reducible refine HU.out.mono ?_); rintro e w2 ⟨rfl, ht2⟩)
                  | (go_at_call 9; (with_reducible refine (HAt.out _ _ ht2 HJ3.out).mono ?_); rintro e w3 ⟨rfl, rfl⟩)
                  | (go_at_call 10; (with_reducible refine (HCt.out _ _ ht2 HJ3.out).mono ?_); rintro e w3 ⟨z, hz1, hz2, rfl, rfl⟩; have hz1' : (1 : Int) ≤ z := by omega))
                go_roundw
                case rel => exact ⟨m + 1, s2.un id, by omega, by omega, by go_num, ht2, HJ3.out⟩
                case measure => simp [intOf]; omega
            · have HP := Lib.hid (pin_gen w w.heap.size (some r) tm s2 wr HT2.out)
              go_wp2_with (first
                | (go_at_call 8; (with_reducible refine HP.out.mono ?_); rintro e w2 ⟨a, b', o', s3, rfl, ht2, ho2, _, hJ3⟩; have ho3 := ho2 rfl; subst ho3; have hJ4 := hJ3 _ _ HJ2.out)
                | (go_at_call 9; (with_reducible refine (HAt.out _ _ ht2 hJ4).mono ?_); rintro e w3 ⟨rfl, rfl⟩)
                | (go_at_call 10; (with_reducible refine (HCt.out _ _ ht2 hJ4).mono ?_); rintro e w3 ⟨z, hz1, hz2, rfl, rfl⟩; have hz1' : (1 : Int) ≤ z := by omega))
              go_roundw
              case rel => exact ⟨m + 1, s3, by omega, by omega, by go_num, ht2, hJ4⟩
              case measure => simp [intOf]; omega
          · have HU : Hid (∀ W, TB w W w.heap.size s2 (some r) → Calls Try.prog 7 #[.pointer (some ⟨w.heap.size, 0, none⟩), .slice (some ⟨W.heap.size, 0, none⟩) 1 1] (W.alloc (.cells #[.int .i64 j] 3)) fun e w' => e = .returned (.int .i64 1) ∧ TB w w' w.heap.size (s2.un j) (some r)) := fun W hW =>
              (un_gen w w.heap.size (some r) j s2 W hW).mono fun e w' ⟨he, h⟩ => ⟨he.trans (by rw [HJ2.out.has hj]; rfl), h⟩
            rcases (show m = n2 ∨ (m = 30 ∧ (30 : Int) < n2) by omega) with rfl | ⟨rfl, hlt2'⟩
            all_goals
              go_wp2_with (first
                | (go_at_call 11; (with_reducible refine (known_any _).mono ?_); rintro e w4 ⟨rfl, hb4⟩; have ht4 := HT2.out.below hb4)
                | (go_at_call 7; (with_reducible refine (HU.out _ ht4).mono ?_); rintro e w5 ⟨rfl, ht5⟩))
              go_ret
              exact ⟨rfl, ht5.b⟩

theorem PinsStay_walk (v0 : Value) {H : Type} {enc : TypeId × Value → H} {w : World} {d0 d1 : DataW H} {p0 p1 : List MemPlace} {base : Nat} (h0 : DataW.Trod enc Try.prog w base (fun _ => true) true 22 v0 d0 p0) (hv0 : Value.okWide Try.prog w .any base 22 v0)
    (v1 : Value) (h1 : DataW.Trod enc Try.prog w base (fun _ => true) true 22 v1 d1 p1) (hv1 : Value.okWide Try.prog w .any base 22 v1) (time : Int) (ht : Lit.wf (.int .u64 time)) :
    Calls Try.prog 3 #[v0, v1, .int .u64 time] w fun e w' => e = .returned (.bool true) ∧ Below w.heap.size w w' := by
  obtain ⟨t, rfl⟩ : ∃ t : Nat, time = t := ⟨time.toNat, by
    have h0 : 0 ≤ time ∧ time ≤ IntKind.u64.max := by simpa [Lit.wf, show IntKind.u64.min = 0 from rfl] using ht
    omega⟩
  obtain ⟨q1, n1, c1, rfl, hc1, hm1, ha1⟩ := open_acts hv0 h0
  obtain ⟨q2, n2, c2, rfl, hc2, hm2, ha2⟩ := open_acts hv1 h1
  exact PinsStay_walkI q1 q2 n1 c1 n2 c2 t w ha1 hc1 hm1 ha2 hc2 hm2

set_option maxRecDepth 100000 in
theorem PinsStay_lifted (os : Os) (started : os.Started) (H : Type) (enc : TypeId × Value → H) :
    ReturnsInHanded {} Try.checked os 3 .any (Rows.pinsStaySpec.pre6 enc Try.prog Try.f3 Rows.pinsStayRow.domain false) (Rows.pinsStaySpec.post enc Try.prog Try.f3 false true false false) := by
  refine returnsInHanded_of_change (C := Try.checked) own started (by kernel_rfl) Try.func3
    (ChangeSpec.witness6 (enc := enc) (C := Try.checked) false ⟨#[], #[.slice none 0 0, .slice none 0 0, .int .u64 0], []⟩ 8 (by kernel_rfl) (by kernel_rfl) (by kernel_rfl) (by kernel_rfl)) ?_
  intro W base args ds gs before hval0 hW hcnd hroom
  have hval : ∀ (j : Nat) t v, Try.f3.params[j]? = some t → args[j]? = some v → Value.okWide Try.prog W .any base t v := hval0
  have hW' := hW
  obtain ⟨p, q, hA0, hV, rfl, hfz, hnd⟩ := hW
  have hA : DataW.TrodAll enc Try.prog W 0 (fun _ => true) true Try.f3.params.toList args.toList ds p := hA0
  rw [Try.params3] at hA hval
  obtain ⟨v0, vs0, d0, ds0, p0, q0, hargs, rfl, rfl, h0, r0⟩ := trodAll_cons hA
  obtain ⟨v1, vs1, d1, ds1, p1, q1, rfl, rfl, rfl, h1, r1⟩ := trodAll_cons r0
  obtain ⟨v2, vs2, d2, ds2, p2, q2, rfl, rfl, rfl, h2, r2⟩ := trodAll_cons r1
  obtain ⟨rfl, rfl, rfl⟩ := trodAll_nil r2
  obtain rfl : args = #[v0, v1, v2] := by cases args; simp_all
  obtain ⟨rfl, rfl⟩ := trodVars_none hV
  have k0 := h0
  have lt0 : ∀ x ∈ p0, x.block < W.heap.size := by obtain ⟨m, hm⟩ := k0; exact DataW.trod_lt m _ _ _ hm
  have k1 := h1
  have lt1 : ∀ x ∈ p1, x.block < W.heap.size := by obtain ⟨m, hm⟩ := k1; exact DataW.trod_lt m _ _ _ hm
  have k2 := h2
  have lt2 : ∀ x ∈ p2, x.block < W.heap.size := by obtain ⟨m, hm⟩ := k2; exact DataW.trod_lt m _ _ _ hm
  obtain ⟨a2, rfl, rfl, rfl, w2⟩ := open_int Try.underlying23 (hval 2 23 v2 rfl rfl) h2
  clear hA0 hval0
  refine (PinsStay_walk v0 h0 (hval 0 22 v0 rfl rfl) v1 h1 (hval 1 22 v1 rfl rfl) a2 w2).mono fun e W' ⟨he, bel⟩ => ?_
  subst he
  exact ⟨_, rfl, _, _, _, [], _, [], hW', trodAll_mk1 (shut_bool Try.underlying4 _), (trodAll_cons_mk (Below.trod laidOut (by kernel_rfl) (of_decide_eq_true (by kernel_rfl)) k0 bel lt0) (trodAll_cons_mk (Below.trod laidOut (by kernel_rfl) (of_decide_eq_true (by kernel_rfl)) k1 bel lt1) (trodAll_cons_mk (Below.trod laidOut (by kernel_rfl) (of_decide_eq_true (by kernel_rfl)) k2 bel lt2) trodAll_mk0))), rfl, bel.frame _, fun h => by cases h⟩

theorem PinsStay_holds : Rows.PinsStaySaid :=
  OpenClaim.holds_of_wide 3 Try.f3 rfl rfl rfl rfl rfl rfl rfl ⟨rfl, rfl, rfl, rfl, rfl⟩ rfl rfl rfl rfl rfl (by kernel_rfl) Try.func3 (by kernel_rfl)
    (of_decide_eq_true (by kernel_rfl)) (by unfold Func.isWrapper; first | (rw [if_pos (by decide +kernel)]; kernel_rfl) | (rw [if_neg (by decide +kernel)]; exact ⟨rfl, rfl⟩))
    (fun os started H enc _ => PinsStay_lifted os started H enc)

end Go.Proofs.Ytmdhlpnieimdaaa
