/- The program's number. -/
import Derived.Test.YtmbbhnbfgcmkgaaDoorD5
namespace Go.Proofs.YtmbbhnbfgcmkgaaDoor
open Go.RowKit
/-- A number's digits read. -/
def dgs : Nat → List UInt8 → Option Nat
  | n, [] => some n
  | n, c :: r => if c.toNat < 48 ∨ 57 < c.toNat then none else dgs (10 * n + (c.toNat - 48)) r
def numL (s : List UInt8) (most : Int) : Int × Int :=
  if s = [] ∨ 4 < s.length ∨ (1 < s.length ∧ s[0]? = some 48) then (0, 3) else
  match dgs 0 s with
  | none => (0, 3)
  | some n => if most < n then (0, 5) else (n, 0)
theorem numL_bad {s : List UInt8} {most : Int} (h : s = [] ∨ 4 < s.length ∨ (1 < s.length ∧ s[0]? = some 48)) : numL s most = (0, 3) := by unfold numL; rw [if_pos h]
theorem numL_ok {s : List UInt8} {most : Int} (h : ¬ (s = [] ∨ 4 < s.length ∨ (1 < s.length ∧ s[0]? = some 48))) : numL s most = match dgs 0 s with
  | none => (0, 3)
  | some n => if most < n then (0, 5) else (n, 0) := by unfold numL; rw [if_neg h]
theorem ix_any (l : List UInt8) (k : Nat) (hk : k < l.length) (W : World) : (Instr.index 9 (.string ⟨l.toArray⟩) (.int .i64 (k : Int))).run Tryd.prog W = .ok (.int .u8 ((l[k]).toNat : Int)) W := by
  have hs := ba_size l
  simp [go_sem, hk, hs]; rfl
set_option maxRecDepth 100000 in
set_option maxHeartbeats 4000000 in
theorem number_any (l : List UInt8) (most : Int) (w : World) (hm : l.length ≤ 1000000) :
    Calls Tryd.prog 41 #[.string ⟨l.toArray⟩, .int .i64 most] w fun e w' => e = .returned (.tuple #[.int .i64 (numL l most).1, .int .i64 (numL l most).2]) ∧ w' = w := by
  have hs := ba_size l
  by_cases h0 : l = []
  · subst h0
    have HE := Lib.hid (numL_bad (s := []) (most := most) (Or.inl rfl))
    go_enter Tryd.func41, Tryd.ntmps41
    go_wp2_with fail
    go_ret2
    exact ⟨by rw [HE.out]; rfl, rfl⟩
  have h1 : l.isEmpty = false := by simpa using h0
  by_cases h4 : 4 < l.length
  · have HE := Lib.hid (numL_bad (s := l) (most := most) (Or.inr (Or.inl h4)))
    have h4i : (4 : Int) < l.length := by omega
    go_enter Tryd.func41, Tryd.ntmps41
    go_wp2_with fail
    go_ret2
    exact ⟨by rw [HE.out]; rfl, rfl⟩
  have h4i : ¬ (4 : Int) < l.length := by omega
  have hpos : 0 < l.length := List.length_pos_iff.2 h0
  have hi0 : ∀ W, (Instr.index 9 (.string ⟨l.toArray⟩) (.int .i64 0)).run Tryd.prog W = .ok (.int .u8 ((l[0]).toNat : Int)) W := fun W => ix_any l 0 hpos W
  by_cases hz : 1 < l.length ∧ l[0]? = some 48
  · have HE := Lib.hid (numL_bad (s := l) (most := most) (Or.inr (Or.inr hz)))
    have hz1 : (1 : Int) < l.length := by omega
    have hz2 : l[0] = 48 := by have := hz.2; rw [List.getElem?_eq_getElem hpos] at this; exact Option.some.inj this
    rw [hz2] at hi0
    clear hz
    go_enter Tryd.func41, Tryd.ntmps41
    go_wp2_with fail
    go_ret2
    exact ⟨by rw [HE.out]; rfl, rfl⟩
  have HE := Lib.hid (numL_ok (s := l) (most := most) (fun h => h.elim h0 fun h => h.elim h4 hz))
  have hcase : (¬ (1 : Int) < l.length) ∨ ((1 : Int) < l.length ∧ ((l[0].toNat : Int) == 48) = false) := by
    by_cases h : 1 < l.length
    · refine Or.inr ⟨by omega, ?_⟩
      rw [beq_eq_false_iff_ne]
      intro e
      apply hz
      refine ⟨h, ?_⟩
      rw [List.getElem?_eq_getElem hpos]
      exact congrArg some (UInt8.toNat_inj.1 (show l[0].toNat = 48 by omega))
    · exact Or.inl (by omega)
  clear hz
  generalize l[0] = c0 at *
  rcases hcase with hc1 | ⟨hc1, hc2⟩
  all_goals
    go_enter Tryd.func41, Tryd.ntmps41
    go_wp2_with fail
    go_loopw [6, 27] (fun v i wr => wr = w ∧ ∃ (k n : Nat), k ≤ l.length ∧ i = .int .i64 k ∧ v = .int .i64 n ∧ n < 10 ^ k ∧ Hid (dgs n (l.drop k) = dgs 0 l)) (fun _ i _ => l.length - (intOf i).toNat)
    case atStart => exact ⟨rfl, 0, 0, Nat.zero_le _, rfl, rfl, by simp, rfl⟩
    case round =>
      obtain ⟨rfl, k, n, hk, rfl, rfl, hn, HP⟩ := hrel
      have hnb : n < 10000 := Nat.lt_of_lt_of_le hn (Nat.pow_le_pow_right (show 10 > 0 by omega) (show k ≤ 4 by omega))
      by_cases hlt : k < l.length
      · have hli : (k : Int) < l.length := by omega
        have hix : ∀ W, (Instr.index 9 (.string ⟨l.toArray⟩) (.int .i64 (k : Int))).run Tryd.prog W = .ok (.int .u8 ((l[k]).toNat : Int)) W := fun W => ix_any l k hlt W
        rw [List.drop_eq_getElem_cons hlt] at HP
        generalize l[k] = c at *
        have hcb := c.toNat_lt
        by_cases hb1 : c.toNat < 48
        · have hb1i : (c.toNat : Int) < 48 := by omega
          have HN : Hid (dgs 0 l = none) := by show _ = _; rw [← HP.out, dgs, if_pos (Or.inl hb1)]
          go_wp2_with fail
          go_ret2
          exact ⟨by rw [HE.out, HN.out]; rfl, rfl⟩
        · have hb1i : ¬ (c.toNat : Int) < 48 := by omega
          by_cases hb2 : 57 < c.toNat
          · have hb2i : (57 : Int) < c.toNat := by omega
            have HN : Hid (dgs 0 l = none) := by show _ = _; rw [← HP.out, dgs, if_pos (Or.inr hb2)]
            go_wp2_with fail
            go_ret2
            exact ⟨by rw [HE.out, HN.out]; rfl, rfl⟩
          · have hb2i : ¬ (57 : Int) < c.toNat := by omega
            have HN : Hid (dgs (10 * n + (c.toNat - 48)) (l.drop (k + 1)) = dgs 0 l) := by show _ = _; rw [← HP.out]; conv => rhs; rw [dgs, if_neg (by omega)]
            have hpw : 10 * n + (c.toNat - 48) < 10 ^ (k + 1) := by rw [Nat.pow_succ]; omega
            clear HP
            go_wp2_with fail
            go_roundw
            case rel => exact ⟨trivial, k + 1, 10 * n + (c.toNat - 48), by omega, by go_num, by go_num, hpw, HN.out⟩
            case measure => simp [intOf]; omega
      · obtain rfl : k = l.length := by omega
        have HN : Hid (dgs 0 l = some n) := by show _ = _; rw [← HP.out, List.drop_length]; rfl
        by_cases hmo : most < n
        · go_wp2_with fail
          go_ret2
          exact ⟨by rw [HE.out, HN.out]; simp only [if_pos hmo]; rfl, rfl⟩
        · have HF : Hid ((if most < (n : Int) then ((0 : Int), (5 : Int)) else ((n : Int), 0)) = ((n : Int), 0)) := if_neg hmo
          go_wp2_with fail
          go_ret2
          exact ⟨by rw [HE.out, HN.out]; simp only [HF.out]; rfl, rfl⟩
end Go.Proofs.YtmbbhnbfgcmkgaaDoor
