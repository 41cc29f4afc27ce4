/- The reference's Text. -/
import Derived.Test.YtpnmficlebnajaaQ
namespace Go.Proofs.Ytpnmficlebnajaa
open Go.RowKit

theorem front_take : ∀ (l : List UInt8) (k : Nat), k ≤ l.length → (∀ i (_ : i < k) (h2 : i < l.length), l[i] ≠ 0) → (k = l.length ∨ ∀ h : k < l.length, l[k] = 0) → front l = l.take k
  | [], k, _, _, _ => by simp [front]
  | b :: l, 0, _, _, h => by
    rcases h with h | h
    · simp at h
    · have : b = 0 := h (by simp)
      simp [front, this]
  | b :: l, k + 1, hk, ha, h => by
    have hb : b ≠ 0 := ha 0 (by omega) (by simp)
    have ih := front_take l k (by simpa using hk) (fun i hi h2 => ha (i + 1) (by omega) (by simp; omega)) (by
      rcases h with h | h
      · exact .inl (by simpa using h)
      · exact .inr fun h2 => h (by simp; omega))
    rw [List.take_succ_cons, ← ih]
    simp [front, hb]

set_option maxRecDepth 100000 in
set_option maxHeartbeats 400000 in
theorem refText_any (l : List UInt8) (w : World) (hl : l.length = 12) :
    Calls Try.prog 43 #[.agg (bC l)] w fun e w' => e = .returned (.string ⟨(textL l).toArray⟩) ∧ Below w.heap.size w w' := by
  have HL := Lib.hid hl
  go_enter Try.func43, Try.ntmps43
  go_wp2_with fail
  go_loop [3] (fun i => ∃ k : Nat, k ≤ 12 ∧ i = .int .i64 k ∧ Hid (∀ i (h : i < k) (h2 : i < l.length), l[i] ≠ 0)) (fun i => 12 - (intOf i).toNat)
  case atStart => exact ⟨0, Nat.zero_le _, rfl, fun i h => by omega⟩
  case round =>
    obtain ⟨k, hk, rfl, HA⟩ := hrel
    have hcell : ∀ h : k < l.length, (w.alloc (.cells (bC l) 39)).cell? ⟨w.heap.size, k, none⟩ = some (.int .u8 (l[k].toNat : Int)) := fun h => by
      have := row_of_block (heap_alloc_new w (.cells (bC l) 39)) k h
      simpa using this
    by_cases hgo : ∃ hlt : k < l.length, l[k] ≠ 0
    · obtain ⟨hlt, hz⟩ := hgo
      have hc := hcell hlt
      have h12 : k < 12 := by omega
      clear hcell
      have hz' : ((l[k]'hlt).toNat : Int) ≠ 0 := fun h => hz (by apply UInt8.toNat_inj.1; simpa using h)
      have HZ := Lib.hid hz; clear hz
      go_wp2_with fail
      go_round
      case rel =>
        refine ⟨k + 1, by omega, by go_num, fun i h h2 => ?_⟩
        by_cases e : i = k
        · subst e; exact HZ.out
        · exact HA.out i (by omega) h2
      case measure => simp [intOf]; omega
    · have hft : front l = l.take k := front_take l k (by omega) HA.out (by
        by_cases e : k = l.length
        · exact .inl e
        · exact .inr fun h => Classical.byContradiction fun hz => hgo ⟨h, hz⟩)
      have hcv := run_bytes_string (w.alloc (.cells (bC l) 39)) w.heap.size 0 k 12 l (row_of_block (heap_alloc_new _ _)) (by omega)
      rw [← hft] at hcv
      have hz : ∀ h : k < l.length, (l[k].toNat : Int) = 0 := fun h => by
        have : l[k] = 0 := Classical.byContradiction fun hz => hgo ⟨h, hz⟩
        rw [this]; rfl
      clear hgo
      have HF := Lib.hid hft; clear hft
      have hk' : (k : Int) ≤ 12 := by omega
      by_cases hlt : k < 12
      all_goals
        try (have hc := hcell (by omega); rw [hz (by omega)] at hc)
        clear hcell hz
        go_wp2_with fail
        cases hn : isName (front l)
        · have HN := Lib.hid hn
          have hi : ∀ W : World, Calls Try.prog 32 #[.string ⟨(front l).toArray⟩] W fun e w' => e = .returned (.bool false) ∧ W = w' := fun W => hn ▸ is_any ⟨(front l).toArray⟩ W (front_small HL.out)
          clear hn
          refine wp_region_quiet_below (by kernel_rfl) (by kernel_rfl) ?_
          repeat (go_big_quiet_step (exact rg_call0 hi _ _))
          refine wpQuiet_nil ?_
          rintro _ ⟨⟨dq, osq⟩, rfl⟩
          go_wp2_with fail
          go_ret
          exact ⟨by rw [textL, rightB, HN.out]; rfl, (below_alloc1 _ _).trans ((below_regrown _ dq osq).mono (by simp))⟩
        · have HN := Lib.hid hn
          have hi : ∀ W : World, Calls Try.prog 32 #[.string ⟨(front l).toArray⟩] W fun e w' => e = .returned (.bool true) ∧ W = w' := fun W => hn ▸ is_any ⟨(front l).toArray⟩ W (front_small HL.out)
          have hp : ∀ W : World, Calls Try.prog 34 #[.string ⟨(front l).toArray⟩] W fun e w' => e = .returned (.agg (bC (pad (front l)))) ∧ Below W.heap.size W w' := fun W => pad_any ⟨(front l).toArray⟩ W (front_small HL.out)
          have hneq := neq22 (xs := pad (front l)) (ys := l) (hx := pad_length _) (hy := HL.out)
          clear hn
          refine wp_region_quiet_below (by kernel_rfl) (by kernel_rfl) ?_
          repeat (first
            | (with_reducible refine wq_load22 _ w.heap.size l (0, 0) rfl rfl rfl (heap_alloc_new _ _) HL.out ?_; simp only [Act.put, List.setIfInBounds_toArray, List.set_cons_zero, List.set_cons_succ])
            | go_big_quiet_step (first | exact rg_call0 hi _ _ | exact rg_call hp _ _))
          refine wpQuiet_nil ?_
          rintro _ ⟨⟨dq, osq⟩, rfl⟩
          cases he : pad (front l) == l
          · have HQ := Lib.hid he; clear he
            go_wp2_with fail
            go_ret
            exact ⟨by rw [textL, rightB, HN.out, HQ.out]; rfl, (below_alloc1 _ _).trans ((below_regrown _ dq osq).mono (by simp))⟩
          · have HQ := Lib.hid he; clear he
            go_wp2_with fail
            go_ret
            exact ⟨by rw [textL, rightB, HN.out, HQ.out]; rfl, (below_alloc1 _ _).trans ((below_regrown _ dq osq).mono (by simp))⟩

end Go.Proofs.Ytpnmficlebnajaa
