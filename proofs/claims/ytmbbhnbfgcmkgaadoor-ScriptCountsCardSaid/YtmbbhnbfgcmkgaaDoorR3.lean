/- The document's place, bytes. -/
import Derived.Test.YtmbbhnbfgcmkgaaDoorR2
import Derived.Deep.QuietTactic
namespace Go.Proofs.YtmbbhnbfgcmkgaaDoor
open Go.RowKit

def plv (c : UInt8) : Int := if hv c < 0 then 16 else hv c
theorem hx_ix64 (m : Nat) (hm : m < 16) (W : World) : (Instr.index 9 (.string ⟨#[48, 49, 50, 51, 52, 53, 54, 55, 56, 57, 97, 98, 99, 100, 101, 102]⟩) (.int .i64 (m : Int))).run Tryd.prog W = .ok (.int .u8 ((hx m).toNat : Int)) W := by
  obtain rfl | rfl | rfl | rfl | rfl | rfl | rfl | rfl | rfl | rfl | rfl | rfl | rfl | rfl | rfl | rfl : m = 0 ∨ m = 1 ∨ m = 2 ∨ m = 3 ∨ m = 4 ∨ m = 5 ∨ m = 6 ∨ m = 7 ∨ m = 8 ∨ m = 9 ∨ m = 10 ∨ m = 11 ∨ m = 12 ∨ m = 13 ∨ m = 14 ∨ m = 15 := by omega
  all_goals kernel_rfl
theorem plv_hit {c : UInt8} {k : Nat} (hk : k < 16) (h : hx k = c) : plv c = k := by
  have := hv_hx ⟨k, hk⟩
  simp only at this
  unfold plv
  rw [← h, this, if_neg (by omega)]
theorem plv_miss {c : UInt8} (h : ∀ j, j < 16 → hx j ≠ c) : plv c = 16 := by
  unfold plv
  by_cases h0 : hv c < 0
  · rw [if_pos h0]
  · exfalso
    have := hv_in c
    exact h (hv c).toNat (by omega) (hx_hv c (by omega))
theorem plv_rng (c : UInt8) : 0 ≤ plv c ∧ plv c ≤ 16 := by
  have := hv_in c
  unfold plv
  split <;> omega
set_option maxRecDepth 100000 in
set_option maxHeartbeats 4000000 in
theorem place_any (c : UInt8) (w : World) :
    Calls Tryd.prog 50 #[.int .u8 (c.toNat : Int)] w fun e w' => e = .returned (.int .i64 (plv c)) ∧ w' = w := by
  go_enter Tryd.func50, Tryd.ntmps50
  go_wp2_with fail
  go_loopw [3] (fun i wr => wr = w ∧ ∃ k : Nat, k ≤ 16 ∧ i = .int .i64 k ∧ Hid (∀ j, j < k → hx j ≠ c)) (fun i _ => 16 - (intOf i).toNat)
  case atStart => exact ⟨rfl, 0, Nat.zero_le _, rfl, fun j h => absurd h (Nat.not_lt_zero j)⟩
  case round =>
    obtain ⟨rfl, k, hk, rfl, HA⟩ := hrel
    by_cases hlt : k < 16
    · have hli : (k : Int) < 16 := by omega
      have hix := fun W => hx_ix64 k hlt W
      by_cases he : hx k = c
      · have HR := Lib.hid (plv_hit hlt he)
        have h1 : (((hx k).toNat : Int) != (c.toNat : Int)) = false := by rw [he]; simp
        have h2 : (((hx k).toNat : Int) == (c.toNat : Int)) = true := by rw [he]; simp
        clear he
        generalize hx k = d at *
        go_wp2_with fail
        go_ret
        exact ⟨by rw [HR.out]; rfl, rfl⟩
      · have hne : ((hx k).toNat : Int) ≠ (c.toNat : Int) := fun e => he (UInt8.toNat_inj.1 (by omega))
        have h1 : (((hx k).toNat : Int) != (c.toNat : Int)) = true := by simpa using hne
        have h2 : (((hx k).toNat : Int) == (c.toNat : Int)) = false := by simpa using hne
        have HA2 : Hid (∀ j, j < k + 1 → hx j ≠ c) := fun j hj => by
          rcases Nat.lt_or_eq_of_le (Nat.le_of_lt_succ hj) with h | rfl
          · exact HA.out j h
          · exact he
        clear he hne
        generalize hx k = d at *
        go_wp2_with fail
        go_roundw
        case rel => exact ⟨trivial, k + 1, by omega, by go_num, HA2.out⟩
        case measure => simp [intOf]; omega
    · obtain rfl : k = 16 := by omega
      have HR := Lib.hid (plv_miss HA.out)
      go_wp2_with fail
      go_ret
      exact ⟨by rw [HR.out]; rfl, rfl⟩
def outB (l : List UInt8) (j : Nat) : List UInt8 := (List.range j).map fun i => UInt8.ofNat (16 * hn l (2 * i) + hn l (2 * i + 1))
theorem outB_succ (l : List UInt8) (j : Nat) : outB l (j + 1) = outB l j ++ [UInt8.ofNat (16 * hn l (2 * j) + hn l (2 * j + 1))] := by
  unfold outB; rw [List.range_succ, List.map_append, List.map_singleton]
theorem outB_len (l : List UInt8) (j : Nat) : (outB l j).length = j := by simp [outB]
theorem outB_all (l : List UInt8) (m : Nat) : partB l m (2 * m) = outB l m := by
  unfold partB outB
  apply List.map_congr_left
  intro i hi
  have := List.mem_range.1 hi
  unfold pB
  rw [if_pos (by omega)]
theorem plv_ok {c : UInt8} (h : ¬ 15 < plv c) : 0 ≤ hv c ∧ plv c = hv c := by
  unfold plv at h ⊢
  by_cases h0 : hv c < 0
  · rw [if_pos h0] at h; omega
  · rw [if_neg h0]; exact ⟨by omega, rfl⟩
theorem plv_bad {c : UInt8} (h : 15 < plv c) : hv c < 0 := by
  have := hv_in c
  unfold plv at h
  by_cases h0 : hv c < 0
  · exact h0
  · rw [if_neg h0] at h; omega
set_option maxRecDepth 100000 in
set_option maxHeartbeats 8000000 in
theorem refBytes_any (l : List UInt8) (w : World) (hm : l.length ≤ 1000000) :
    Calls Tryd.prog 45 #[.string ⟨l.toArray⟩] w fun e w' => e = .returned (.tuple #[.string ⟨(bytesL l).1.toArray⟩, .int .i64 (bytesL l).2]) ∧ Below w.heap.size w w' := by
  have hs := ba_size l
  by_cases h1 : l = [45]
  · subst h1
    go_enter Tryd.func45, Tryd.ntmps45
    go_wp2_with fail
    go_ret2
    exact ⟨rfl, Below.refl _ _⟩
  by_cases h0 : l = []
  · subst h0
    go_enter Tryd.func45, Tryd.ntmps45
    go_wp2_with fail
    go_ret2
    exact ⟨rfl, Below.refl _ _⟩
  have hx1 : (l == [45]) = false := by simpa using h1
  have hx0 : l.isEmpty = false := by simpa using h0
  by_cases h2 : l.length % 2 = 1
  · have HE : Hid (bytesL l = ([], 3)) := by show _ = _; unfold bytesL; rw [if_neg h1, if_pos (Or.inr h2)]
    have ht : ((l.length : Nat) : Int).tmod 2 = 1 := by rw [Int.tmod_eq_emod_of_nonneg (by omega)]; omega
    go_enter Tryd.func45, Tryd.ntmps45
    go_wp2_with fail
    go_ret2
    rw [HE.out]
    exact ⟨rfl, Below.refl _ _⟩
  have ht : ((l.length : Nat) : Int).tmod 2 = 0 := by rw [Int.tmod_eq_emod_of_nonneg (by omega)]; omega
  obtain ⟨m, hlm⟩ : ∃ m, l.length = 2 * m := ⟨l.length / 2, by omega⟩
  have HE : Hid (bytesL l = if ∃ j, j < l.length ∧ hv (l.getD j 0) < 0 then ([], 3) else if 1300 < m then ([], 2) else (outB l m, 0)) := by
    show _ = _
    unfold bytesL
    rw [if_neg h1, if_neg (by rintro (h | h); exact h0 h; exact h2 h), show l.length / 2 = m from by omega, ← outB_all, hlm]
  have HLm := Lib.hid hlm
  have hmm : m ≤ 500000 := by omega
  clear h0 h1 h2
  go_enter Tryd.func45, Tryd.ntmps45
  go_wp2_with fail
  clear hlm
  go_loopw [4, 5] (fun v i wr => ∃ j : Nat, j ≤ m ∧ i = .int .i64 (2 * (j : Int)) ∧ Hid (OwnE enc1 5 1 wr w.heap.size v (outB l j)) ∧ Hid (Below w.heap.size w wr) ∧ Hid (∀ i, i < 2 * j → 0 ≤ hv (l.getD i 0))) (fun _ i _ => l.length - (intOf i).toNat)
  case atStart => exact ⟨0, Nat.zero_le _, rfl, OwnE.nil _ _, Below.refl _ _, fun j h => by omega⟩
  case round =>
    obtain ⟨j, hj, rfl, HO, HW, HA⟩ := hrel
    by_cases hlt : j < m
    · have hk1 : 2 * j < l.length := by have := HLm.out; omega
      have hk2 : 2 * j + 1 < l.length := by have := HLm.out; omega
      have hix1 : ∀ W, (Instr.index 9 (.string ⟨l.toArray⟩) (.int .i64 (2 * (j : Int)))).run Tryd.prog W = .ok (.int .u8 ((l[2 * j]).toNat : Int)) W := fun W => by have := ix_any l (2 * j) hk1 W; simpa using this
      have hix2 : ∀ W, (Instr.index 9 (.string ⟨l.toArray⟩) (.int .i64 (2 * (j : Int) + 1))).run Tryd.prog W = .ok (.int .u8 ((l[2 * j + 1]).toNat : Int)) W := fun W => by have := ix_any l (2 * j + 1) hk2 W; simpa using this
      have hg1 : l.getD (2 * j) 0 = l[2 * j] := by simp [List.getD_eq_getElem?_getD, hk1]
      have hg2 : l.getD (2 * j + 1) 0 = l[2 * j + 1] := by simp [List.getD_eq_getElem?_getD, hk2]
      have hli : 2 * (j : Int) + 1 < l.length := by omega
      have hww : IntKind.i64.wrap (2 * (j : Int) + 1) = 2 * (j : Int) + 1 := by simp [IntKind.wrap, IntKind.bits, IntKind.signed]; omega
      rw [← hg1] at hix1
      rw [← hg2] at hix2
      clear hg1 hg2
      have HGe : Hid (hn l (2 * j) = (hv (l.getD (2 * j) 0)).toNat ∧ hn l (2 * j + 1) = (hv (l.getD (2 * j + 1) 0)).toNat) := ⟨rfl, rfl⟩
      have HBad : Hid (hv (l.getD (2 * j) 0) < 0 ∨ hv (l.getD (2 * j + 1) 0) < 0 → bytesL l = ([], 3)) := fun h => by
        rw [HE.out, if_pos]
        rcases h with h | h
        · exact ⟨_, hk1, h⟩
        · exact ⟨_, hk2, h⟩
      have HA2 : Hid (0 ≤ hv (l.getD (2 * j) 0) → 0 ≤ hv (l.getD (2 * j + 1) 0) → ∀ i, i < 2 * (j + 1) → 0 ≤ hv (l.getD i 0)) := fun h1 h2 i hi => by
        rcases Nat.lt_or_ge i (2 * j) with h | h
        · exact HA.out i h
        · obtain rfl | rfl : i = 2 * j ∨ i = 2 * j + 1 := by omega
          · exact h1
          · exact h2
      clear HA
      generalize l.getD (2 * j) 0 = c1 at *
      generalize l.getD (2 * j + 1) 0 = c2 at *
      have KP : Hid (∀ (c : UInt8) W, Calls Tryd.prog 50 #[.int .u8 (c.toNat : Int)] W fun e w' => e = .returned (.int .i64 (plv c)) ∧ w' = W) := fun c W => place_any c W
      have hp1 := plv_rng c1
      have hp2 := plv_rng c2
      have HWd : Hid (∀ n, Below w.heap.size w (wr.drewN n)) := fun n => HW.out.trans ⟨rfl, rfl, rfl, Nat.le_refl _, fun _ _ => rfl⟩
      have HOd : Hid (∀ n, OwnE enc1 5 1 (wr.drewN n) w.heap.size u4 (outB l j)) := fun n => HO.out.below ⟨rfl, rfl, rfl, Nat.le_refl _, fun _ _ => rfl⟩
      go_upto_region 9 with fail
      go_quiet (first | (go_at_call 50; refine Calls.quiet_of_same (KP.out _ _)))
      have HW2 := Lib.hid (HWd.out nq)
      have HO2 := Lib.hid (HOd.out nq)
      clear HW HO HWd HOd KP hix1 hix2
      generalize wr.drewN nq = W2 at *
      by_cases hb1 : 15 < plv c1
      · have HR := Lib.hid (HBad.out (Or.inl (plv_bad hb1)))
        clear HBad HA2 HGe
        generalize plv c1 = v1 at *
        generalize plv c2 = v2 at *
        go_wp2_with fail
        go_ret2
        exact ⟨by rw [HR.out]; rfl, HW2.out⟩
      by_cases hb2 : 15 < plv c2
      · have HR := Lib.hid (HBad.out (Or.inr (plv_bad hb2)))
        clear HBad HA2 HGe
        generalize plv c1 = v1 at *
        generalize plv c2 = v2 at *
        go_wp2_with fail
        go_ret2
        exact ⟨by rw [HR.out]; rfl, HW2.out⟩
      have hv1 := plv_ok hb1
      have hv2 := plv_ok hb2
      have HA3 := Lib.hid (HA2.out hv1.1 hv2.1)
      have HT := Lib.hid (outB_succ l j)
      have e1 : plv c1 = ((hn l (2 * j) : Nat) : Int) := by rw [HGe.out.1]; omega
      have e2 : plv c2 = ((hn l (2 * j + 1) : Nat) : Int) := by rw [HGe.out.2]; omega
      have n1 := hn_lt l (2 * j)
      have n2 := hn_lt l (2 * j + 1)
      rw [e1] at hb1
      rw [e2] at hb2
      rw [e1, e2]
      clear HBad HA2 HGe e1 e2 hv1 hv2 hp1 hp2
      have hol : (outB l j).length ≤ 1000000 := by rw [outB_len]; omega
      generalize hn l (2 * j) = x1 at *
      generalize hn l (2 * j + 1) = x2 at *
      generalize outB l j = ob at *
      have hu8 : IntKind.u8.wrap (16 * (x1 : Int) + (x2 : Int)) = (((UInt8.ofNat (16 * x1 + x2)).toNat : Nat) : Int) := by
        have : (UInt8.ofNat (16 * x1 + x2)).toNat = 16 * x1 + x2 := by simp; omega
        rw [this]; simp [IntKind.wrap, IntKind.bits, IntKind.signed]; omega
      have HOA : Hid (OwnE enc1 5 1 (W2.alloc (.cells #[.int .u8 (((UInt8.ofNat (16 * x1 + x2)).toNat : Nat) : Int)] 5)) w.heap.size u4 ob) := HO2.out.below (below_alloc1 _ _)
      have HBA : Hid (Below w.heap.size w (W2.alloc (.cells #[.int .u8 (((UInt8.ofNat (16 * x1 + x2)).toNat : Nat) : Int)] 5))) := HW2.out.alloc HW2.out.size _
      generalize UInt8.ofNat (16 * x1 + x2) = by1 at *
      go_wp2_with (refine wl_app rfl 34 5 1 (.int .u8 0) Tryd.underlying34 infoU8 rfl (by omega) enc1_len enc1_one _ _ rfl w.heap.size u4 ob rfl HOA.out (some ⟨W2.heap.size, 0, none⟩) 1 1 [by1] rfl rfl (one_at (heap_alloc_new _ _)) (fun e => by cases e) (by omega) (by unfold maxLen; omega) HBA.out.size (fun v' wA hoA hgA _ => ?_); have HOB := Lib.hid hoA; have HBB := Lib.hid (HBA.out.trans (grown_below hgA (fun g hg => (HOA.out.lt g hg).1) HBA.out.size)); clear hoA hgA)
      go_roundw
      case rel => exact ⟨j + 1, by omega, by go_num, by rw [HT.out]; exact HOB.out, HBB.out, HA3.out⟩
      case measure => simp [intOf]; omega
    · obtain rfl : j = m := by omega
      have HE2 : Hid (bytesL l = if 1300 < j then ([], 2) else (outB l j, 0)) := by
        show _ = _
        rw [HE.out, if_neg]
        rintro ⟨i, hi, h⟩
        have := HA.out i (by have := HLm.out; omega)
        omega
      have hli : ¬ 2 * (j : Int) + 1 < l.length := by have := HLm.out; omega
      obtain ⟨q, cap, hv', hle, hmx, hsl, hnew⟩ := HO.out.at enc1_len
      rw [outB_len] at hv' hle
      subst hv'
      by_cases h13 : 1300 < j
      · have h13i : (1300 : Int) < j := by omega
        have HR : Hid (bytesL l = ([], 2)) := by show _ = _; rw [HE2.out, if_pos h13]
        clear hsl hnew
        go_wp2_with fail
        go_ret2
        exact ⟨by rw [HR.out]; rfl, HW.out⟩
      · have h13i : ¬ (1300 : Int) < j := by omega
        have HR : Hid (bytesL l = (outB l j, 0)) := by show _ = _; rw [HE2.out, if_neg h13]
        have hcv := conv_any wr q cap (outB l j) hsl
        rw [outB_len] at hcv
        clear hsl hnew
        go_wp2_with fail
        go_ret2
        exact ⟨by rw [HR.out]; rfl, HW.out⟩
end Go.Proofs.YtmbbhnbfgcmkgaaDoor
