/- The document's number, place. -/
import Derived.Test.YtmbbhnbfgcmkgaaDoorR1
namespace Go.Proofs.YtmbbhnbfgcmkgaaDoor
open Go.RowKit

theorem decD_len : ∀ (k n : Nat), n < 10 ^ (k + 1) → (Lib.decDigits n).length ≤ k + 1
  | 0, n, h => by rw [decD_lt n (by simpa using h)]; simp
  | k + 1, n, h => by
    by_cases h9 : n < 10
    · rw [decD_lt n h9]; simp
    · rw [decD_ge n h9, List.length_append, List.length_singleton]
      have := decD_len k (n / 10) (by rw [Nat.pow_succ] at h; omega)
      omega
theorem numL_none {l : List UInt8} {most : Int} (h : dgs 0 l = none) : numL l most = (0, 3) := by
  unfold numL; rw [h]; split <;> rfl
theorem num_end {l : List UInt8} {n : Nat} {most : Int} (h0 : l ≠ []) (h4 : l.length ≤ 4) (hd : dgs 0 l = some n) :
    (Lib.decDigits n = l → numL l most = if most < (n : Int) then (0, 5) else ((n : Int), 0)) ∧ (Lib.decDigits n ≠ l → numL l most = (0, 3)) := by
  have key : (1 < l.length ∧ l[0]? = some 48) ∨ (¬ (1 < l.length ∧ l[0]? = some 48) ∧ Lib.decDigits n = l) := by
    by_cases hz : 1 < l.length ∧ l[0]? = some 48
    · exact Or.inl hz
    refine Or.inr ⟨hz, ?_⟩
    match l, h0, h4, hd, hz with
    | [a], _, _, hd, _ =>
      simp only [dgs] at hd
      split at hd
      · cases hd
      simp only [Option.some.injEq] at hd
      rw [decD_lt n (by omega), ← u8_dig (c := a) (k := n) (by omega)]
    | [a, b], _, _, hd, hz =>
      have ha' : a.toNat ≠ 48 := fun e => hz ⟨by simp, congrArg some (UInt8.toNat_inj.1 e)⟩
      simp only [dgs] at hd
      split at hd
      · cases hd
      split at hd
      · cases hd
      simp only [Option.some.injEq] at hd
      rw [decD_ge n (by omega), decD_lt (n / 10) (by omega), ← u8_dig (c := a) (k := n / 10) (by omega), ← u8_dig (c := b) (k := n % 10) (by omega)]; rfl
    | [a, b, c], _, _, hd, hz =>
      have ha' : a.toNat ≠ 48 := fun e => hz ⟨by simp, congrArg some (UInt8.toNat_inj.1 e)⟩
      simp only [dgs] at hd
      split at hd
      · cases hd
      split at hd
      · cases hd
      split at hd
      · cases hd
      simp only [Option.some.injEq] at hd
      rw [decD_ge n (by omega), decD_ge (n / 10) (by omega), decD_lt (n / 10 / 10) (by omega), ← u8_dig (c := a) (k := n / 10 / 10) (by omega), ← u8_dig (c := b) (k := n / 10 % 10) (by omega), ← u8_dig (c := c) (k := n % 10) (by omega)]; rfl
    | [a, b, c, d], _, _, hd, hz =>
      have ha' : a.toNat ≠ 48 := fun e => hz ⟨by simp, congrArg some (UInt8.toNat_inj.1 e)⟩
      simp only [dgs] at hd
      split at hd
      · cases hd
      split at hd
      · cases hd
      split at hd
      · cases hd
      split at hd
      · cases hd
      simp only [Option.some.injEq] at hd
      rw [decD_ge n (by omega), decD_ge (n / 10) (by omega), decD_ge (n / 10 / 10) (by omega), decD_lt (n / 10 / 10 / 10) (by omega), ← u8_dig (c := a) (k := n / 10 / 10 / 10) (by omega), ← u8_dig (c := b) (k := n / 10 / 10 % 10) (by omega), ← u8_dig (c := c) (k := n / 10 % 10) (by omega), ← u8_dig (c := d) (k := n % 10) (by omega)]; rfl
    | a :: b :: c :: d :: e :: r, _, h4, _, _ => simp at h4
  rcases key with hz | ⟨hz, he⟩
  · have hb : numL l most = (0, 3) := numL_bad (Or.inr (Or.inr hz))
    refine ⟨fun he => ?_, fun _ => hb⟩
    exfalso
    match l, h0, h4, hd, hz with
    | [a], _, _, _, hz => simp at hz
    | [a, b], _, _, hd, hz =>
      have ha : a = 48 := by simpa using hz.2
      subst ha
      simp only [dgs] at hd
      split at hd
      · cases hd
      split at hd
      · cases hd
      simp only [Option.some.injEq] at hd
      have h48 : (48 : UInt8).toNat = 48 := rfl
      have := decD_len 0 n (by omega)
      rw [he] at this; simp at this
    | [a, b, c], _, _, hd, hz =>
      have ha : a = 48 := by simpa using hz.2
      subst ha
      simp only [dgs] at hd
      split at hd
      · cases hd
      split at hd
      · cases hd
      split at hd
      · cases hd
      simp only [Option.some.injEq] at hd
      have h48 : (48 : UInt8).toNat = 48 := rfl
      have := decD_len 1 n (by omega)
      rw [he] at this; simp at this
    | [a, b, c, d], _, _, hd, hz =>
      have ha : a = 48 := by simpa using hz.2
      subst ha
      simp only [dgs] at hd
      split at hd
      · cases hd
      split at hd
      · cases hd
      split at hd
      · cases hd
      split at hd
      · cases hd
      simp only [Option.some.injEq] at hd
      have h48 : (48 : UInt8).toNat = 48 := rfl
      have := decD_len 2 n (by omega)
      rw [he] at this; simp at this
    | a :: b :: c :: d :: e :: r, _, h4, _, _ => simp at h4
  · refine ⟨fun _ => ?_, fun h => absurd he h⟩
    rw [numL_ok (by rintro (h | h | h); exact h0 h; omega; exact hz h), hd]
theorem numL_long {l : List UInt8} {most : Int} (h : 4 < l.length) : numL l most = (0, 3) := numL_bad (Or.inr (Or.inl h))
set_option maxRecDepth 100000 in
set_option maxHeartbeats 8000000 in
theorem refNumber_any (l : List UInt8) (most : Int) (w : World) (hm : l.length ≤ 1000000) :
    Calls Tryd.prog 44 #[.string ⟨l.toArray⟩, .int .i64 most] w fun e w' => e = .returned (.tuple #[.int .i64 (numL l most).1, .int .i64 (numL l most).2]) ∧ w' = w := by
  have hs := ba_size l
  go_enter Tryd.func44, Tryd.ntmps44
  go_wp2_with fail
  go_loopw [6, 7] (fun v i wr => wr = w ∧ ∃ (k n : Nat), k ≤ l.length ∧ k ≤ 4 ∧ i = .int .i64 k ∧ v = .int .i64 n ∧ n < 10 ^ k ∧ Hid (dgs n (l.drop k) = dgs 0 l)) (fun _ i _ => l.length - (intOf i).toNat)
  case atStart => exact ⟨rfl, 0, 0, Nat.zero_le _, Nat.zero_le _, rfl, rfl, by simp, rfl⟩
  case round =>
    obtain ⟨rfl, k, n, hk, hk4, rfl, rfl, hn, HP⟩ := hrel
    have hnb : n ≤ 10000 := Nat.le_of_lt (Nat.lt_of_lt_of_le hn (Nat.pow_le_pow_right (show 10 > 0 by omega) hk4))
    by_cases hlt : k < l.length
    · have hli : (k : Int) < l.length := by omega
      have hix : ∀ W, (Instr.index 9 (.string ⟨l.toArray⟩) (.int .i64 (k : Int))).run Tryd.prog W = .ok (.int .u8 ((l[k]).toNat : Int)) W := fun W => ix_any l k hlt W
      rw [List.drop_eq_getElem_cons hlt] at HP
      generalize l[k] = c at *
      have hcb := c.toNat_lt
      by_cases h4 : k = 4
      · have HE : Hid (numL l most = (0, 3)) := numL_long (by omega)
        have h4i : (3 : Int) < k := by omega
        clear h4
        go_wp2_with fail
        go_ret2
        exact ⟨by rw [HE.out]; rfl, rfl⟩
      have h4i : ¬ (3 : Int) < k := by omega
      by_cases hb1 : c.toNat < 48
      · have hb1i : (c.toNat : Int) < 48 := by omega
        have HE : Hid (numL l most = (0, 3)) := numL_none (by rw [← HP.out, dgs, if_pos (Or.inl hb1)])
        go_wp2_with fail
        go_ret2
        exact ⟨by rw [HE.out]; rfl, rfl⟩
      have hb1i : ¬ (c.toNat : Int) < 48 := by omega
      by_cases hb2 : 57 < c.toNat
      · have hb2i : (57 : Int) < c.toNat := by omega
        have HE : Hid (numL l most = (0, 3)) := numL_none (by rw [← HP.out, dgs, if_pos (Or.inr hb2)])
        go_wp2_with fail
        go_ret2
        exact ⟨by rw [HE.out]; rfl, rfl⟩
      have hb2i : ¬ (57 : Int) < c.toNat := by omega
      have HN : Hid (dgs (10 * n + (c.toNat - 48)) (l.drop (k + 1)) = dgs 0 l) := by show _ = _; rw [← HP.out]; conv => rhs; rw [dgs, if_neg (by omega)]
      have hpw : 10 * n + (c.toNat - 48) < 10 ^ (k + 1) := by rw [Nat.pow_succ]; omega
      clear HP
      go_wp2_with fail
      go_roundw
      case rel => exact ⟨trivial, k + 1, 10 * n + (c.toNat - 48), by omega, by omega, by go_num, by go_num, hpw, HN.out⟩
      case measure => simp [intOf]; omega
    · obtain rfl : k = l.length := by omega
      have hli : ¬ (l.length : Int) < l.length := by omega
      have HN : Hid (dgs 0 l = some n) := by show _ = _; rw [← HP.out, List.drop_length]; rfl
      by_cases h0 : l = []
      · subst h0
        have HE : Hid (numL [] most = (0, 3)) := numL_bad (Or.inl rfl)
        go_wp2_with fail
        go_ret2
        exact ⟨by rw [HE.out]; rfl, rfl⟩
      have hpos : 0 < l.length := List.length_pos_iff.2 h0
      have hpi : ((l.length : Int) == 0) = false := by rw [beq_eq_false_iff_ne]; omega
      have KD : Hid (∀ W, Calls Tryd.prog 37 #[.int .i64 (n : Int)] W fun e w' => e = .returned (.string ⟨(Lib.decDigits n).toArray⟩) ∧ w' = W) := fun W => decimal_any n W (by omega)
      have hne := num_end (most := most) h0 hk4 HN.out
      have heq := eqT (Lib.decDigits n) l
      clear h0 hs
      by_cases hd : Lib.decDigits n = l
      · have HE := Lib.hid (hne.1 hd)
        rw [decide_eq_true hd] at heq
        have heq2 : ((⟨(Lib.decDigits n).toArray⟩ : ByteArray).toList != (⟨l.toArray⟩ : ByteArray).toList) = false := by rw [bne, heq]; rfl
        have hsz := ba_size l
        clear hd hne
        generalize (⟨(Lib.decDigits n).toArray⟩ : ByteArray) = DD at *
        generalize (⟨l.toArray⟩ : ByteArray) = LL at *
        by_cases hmo : most < n
        · go_wp2_with (go_at_call 37; (refine (KD.out _).mono ?_); rintro e W1 ⟨rfl, rfl⟩)
          go_ret2
          exact ⟨by rw [HE.out]; simp only [if_pos hmo]; rfl, rfl⟩
        · have HF : Hid ((if most < (n : Int) then ((0 : Int), (5 : Int)) else ((n : Int), 0)) = ((n : Int), 0)) := if_neg hmo
          go_wp2_with (go_at_call 37; (refine (KD.out _).mono ?_); rintro e W1 ⟨rfl, rfl⟩)
          go_ret2
          exact ⟨by rw [HE.out, HF.out]; rfl, rfl⟩
      · have HE := Lib.hid (hne.2 hd)
        rw [decide_eq_false hd] at heq
        have heq2 : ((⟨(Lib.decDigits n).toArray⟩ : ByteArray).toList != (⟨l.toArray⟩ : ByteArray).toList) = true := by rw [bne, heq]; rfl
        have hsz := ba_size l
        clear hd hne
        generalize (⟨(Lib.decDigits n).toArray⟩ : ByteArray) = DD at *
        generalize (⟨l.toArray⟩ : ByteArray) = LL at *
        go_wp2_with (go_at_call 37; (refine (KD.out _).mono ?_); rintro e W1 ⟨rfl, rfl⟩)
        go_ret2
        exact ⟨by rw [HE.out]; rfl, rfl⟩
end Go.Proofs.YtmbbhnbfgcmkgaaDoor
