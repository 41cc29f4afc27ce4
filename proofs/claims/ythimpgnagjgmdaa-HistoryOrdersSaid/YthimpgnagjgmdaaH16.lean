/- Rotation of a row of ints. -/
import Derived.Test.YthimpgnagjgmdaaH15
namespace Go.Proofs.Ythimpgnagjgmdaa
open Go.RowKit Go.Sort

set_option maxRecDepth 100000 in
set_option maxHeartbeats 8000000 in
theorem rotI_any (g cap n a m b : Nat) (fv : Value) (d : Array Int) (tail : List Value) (T : TypeId) (w : World) (hd : IRow w g d tail T) (hn : d.size = n) (ham : a < m) (hmb : m < b) (hb : b ≤ n) (hsz : n ≤ 1000000) :
    Calls Try.prog 38 #[.slice (some ⟨g, 0, none⟩) n cap, .int .i64 a, .int .i64 m, .int .i64 b, fv] w fun e w' =>
      e = .returned (.tuple #[]) ∧ ∃ d', (d'.size = n ∧ ∀ k, d'[k]! = rotF a m b d k) ∧ IRow w' g d' tail T ∧ Turn [g] w w' := by
  have HD := Lib.hid hd
  have HN := Lib.hid hn
  clear hd hn
  have KS : Hid (∀ (W : World) (dk : Array Int) (s t u : Nat) (s' t' u' : Int), s' = s → t' = t → u' = u → IRow W g dk tail T → dk.size = n → s + u ≤ t → t + u ≤ n →
      Calls Try.prog 39 #[.slice (some ⟨g, 0, none⟩) n cap, .int .i64 s', .int .i64 t', .int .i64 u', fv] W fun e w' =>
      e = .returned (.tuple #[]) ∧ ∃ d', SwR s t u dk d' ∧ IRow w' g d' tail T ∧ Turn [g] W w') := fun W dk s t u s' t' u' h1 h2 h3 h4 h5 h6 h7 => by
    subst h1; subst h2; subst h3
    exact swapI_any g cap n s t u fv dk tail T W h4 h5 h6 h7 hsz
  go_enter Try.func38, Try.ntmps38
  go_wp2_with fail
  go_loopw [10, 11] (fun vi vj wr => ∃ (i j : Nat) (dk : Array Int), vi = .int .i64 i ∧ vj = .int .i64 j ∧ 0 < i ∧ 0 < j ∧ i ≤ m ∧ m + j ≤ n ∧ Hid (dk.size = n) ∧ Hid (∀ k, rotF (m - i) m (m + j) dk k = rotF a m b d k) ∧ Hid (IRow wr g dk tail T) ∧ Hid (Turn [g] w wr)) (fun vi vj _ => (intOf vi).toNat + (intOf vj).toNat)
  case atStart => exact ⟨m - a, b - m, d, by go_num, by go_num, by omega, by omega, by omega, by omega, HN, (fun k => by rw [show m - (m - a) = a by omega, show m + (b - m) = b by omega]), HD, Turn.refl _ _⟩
  case round =>
    obtain ⟨i, j, dk, rfl, rfl, hi0, hj0, him, hjn, HSk, HRk, HWk, HTk⟩ := hrel
    by_cases heq : i = j
    · subst heq
      have hcd : ((i : Int) != (i : Int)) = false := by simp
      go_wp2_with (go_at_call 39; (refine (KS.out _ dk (m - i) m i _ _ _ (by omega) rfl rfl HWk.out HSk.out (by omega) (by omega)).mono ?_); rintro e W2 ⟨rfl, d2, hs2, hw2, ht2⟩; have HS2 := Lib.hid hs2; have HW2 := Lib.hid hw2; have HT2 := Lib.hid ht2; clear hs2 hw2 ht2)
      go_end0
      exact ⟨rfl, d2, ⟨by rw [HS2.out.1]; exact HSk.out, fun k => by rw [← HRk.out]; exact rot_even him HS2.out k⟩, HW2.out, HTk.out.trans HT2.out⟩
    · have heqi : ¬ (i : Int) = (j : Int) := by omega
      by_cases hlt : j < i
      · go_wp2_with (go_at_call 39; (refine (KS.out _ dk (m - i) m j _ _ _ (by omega) rfl rfl HWk.out HSk.out (by omega) (by omega)).mono ?_); rintro e W2 ⟨rfl, d2, hs2, hw2, ht2⟩; have HS2 := Lib.hid hs2; have HW2 := Lib.hid hw2; have HT2 := Lib.hid ht2; clear hs2 hw2 ht2)
        go_roundw
        case rel => exact ⟨i - j, j, d2, by go_num, rfl, by omega, hj0, by omega, hjn, by rw [HS2.out.1]; exact HSk.out, (fun k => by rw [← HRk.out]; exact rot_left hlt him HS2.out k), HW2, HTk.out.trans HT2.out⟩
        case measure => simp [intOf]; omega
      · have hij : i < j := by omega
        go_wp2_with (go_at_call 39; (refine (KS.out _ dk (m - i) (m + j - i) i _ _ _ (by omega) (by omega) rfl HWk.out HSk.out (by omega) (by omega)).mono ?_); rintro e W2 ⟨rfl, d2, hs2, hw2, ht2⟩; have HS2 := Lib.hid hs2; have HW2 := Lib.hid hw2; have HT2 := Lib.hid ht2; clear hs2 hw2 ht2)
        go_roundw
        case rel => exact ⟨i, j - i, d2, rfl, by go_num, hi0, by omega, him, by omega, by rw [HS2.out.1]; exact HSk.out, (fun k => by rw [← HRk.out]; exact rot_right hij him HS2.out k), HW2, HTk.out.trans HT2.out⟩
        case measure => simp [intOf]; omega
end Go.Proofs.Ythimpgnagjgmdaa
