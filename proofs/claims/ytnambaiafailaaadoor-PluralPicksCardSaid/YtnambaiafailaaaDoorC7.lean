/- oneIf; categories as bits. -/
import Derived.Test.YtnambaiafailaaaDoorB7
namespace Go.Proofs.YtnambaiafailaaaDoor
open Go.RowKit

set_option maxRecDepth 100000 in
theorem oneIf_any (is rest : Value) (w : World) (h1 : ∃ k cs, is = .func (.func k) #[] cs) (h2 : ∃ k cs, rest = .func (.func k) #[] cs) :
    Calls Tryd.prog 65 #[is, rest] w fun e w' => e = .returned (.func (.func 66) #[] #[.pointer (some ⟨w.heap.size, 0, none⟩), .pointer (some ⟨w.heap.size + 1, 0, none⟩)]) ∧ Below w.heap.size w w' ∧ w'.cell? ⟨w.heap.size, 0, none⟩ = some is ∧ w'.cell? ⟨w.heap.size + 1, 0, none⟩ = some rest := by
  obtain ⟨k1, c1, rfl⟩ := h1
  obtain ⟨k2, c2, rfl⟩ := h2
  go_enter Tryd.func65, Tryd.ntmps65
  go_wp2
  go_ret
  refine ⟨rfl, below_alloc2 _ _ _, ?_, ?_⟩
  · rw [cell_blk (heap_alloc2_old _ _ _)]; rfl
  · rw [cell_blk (heap_alloc2_new _ _ _)]; rfl
def tb_o : Nat → Int
  | 0 => 0
  | 1 => 32
  | _ => 0
set_option maxRecDepth 100000 in
theorem bits_o (b : Nat) (w : World) (h : w.heap[b]? = some (.cells #[.int .i64 5] 3 (0, 0))) :
    Calls Tryd.prog 70 #[.slice (some ⟨b, 0, none⟩) 1 1] w fun e w' => e = .returned (.int .u8 32) ∧ w = w' := by
  have c0 : w.cell? ⟨b, 0, none⟩ = some (.int .i64 5) := by rw [cell_blk h]; rfl
  clear h
  go_enter Tryd.func70, Tryd.ntmps70
  go_wp2_with fail
  go_loop [3, 8] (fun t i => ∃ k : Nat, k ≤ 1 ∧ i = .int .i64 k ∧ t = .int .u8 (tb_o k)) (fun _ i => 1 - (intOf i).toNat)
  case atStart => exact ⟨0, by omega, rfl, rfl⟩
  case round =>
    obtain ⟨k, hk, rfl, rfl⟩ := hrel
    rcases (show k = 0 ∨ k = 1 by omega) with rfl | rfl
    · simp only [tb_o]
      go_wp2_with fail
      go_round
      case rel => exact ⟨1, by omega, rfl, rfl⟩
      case measure => simp [intOf]
    · simp only [tb_o]
      go_wp2_with fail
      go_ret
      exact ⟨rfl, rfl⟩
def tb_fr : Nat → Int
  | 0 => 0
  | 1 => 2
  | 2 => 34
  | _ => 0
set_option maxRecDepth 100000 in
theorem bits_fr (b : Nat) (w : World) (h : w.heap[b]? = some (.cells #[.int .i64 1, .int .i64 5] 3 (0, 0))) :
    Calls Tryd.prog 70 #[.slice (some ⟨b, 0, none⟩) 2 2] w fun e w' => e = .returned (.int .u8 34) ∧ w = w' := by
  have c0 : w.cell? ⟨b, 0, none⟩ = some (.int .i64 1) := by rw [cell_blk h]; rfl
  have c1 : w.cell? ⟨b, 1, none⟩ = some (.int .i64 5) := by rw [cell_blk h]; rfl
  clear h
  go_enter Tryd.func70, Tryd.ntmps70
  go_wp2_with fail
  go_loop [3, 8] (fun t i => ∃ k : Nat, k ≤ 2 ∧ i = .int .i64 k ∧ t = .int .u8 (tb_fr k)) (fun _ i => 2 - (intOf i).toNat)
  case atStart => exact ⟨0, by omega, rfl, rfl⟩
  case round =>
    obtain ⟨k, hk, rfl, rfl⟩ := hrel
    rcases (show k = 0 ∨ k = 1 ∨ k = 2 by omega) with rfl | rfl | rfl
    · simp only [tb_fr]
      go_wp2_with fail
      go_round
      case rel => exact ⟨1, by omega, rfl, rfl⟩
      case measure => simp [intOf]
    · simp only [tb_fr]
      go_wp2_with fail
      go_round
      case rel => exact ⟨2, by omega, rfl, rfl⟩
      case measure => simp [intOf]
    · simp only [tb_fr]
      go_wp2_with fail
      go_ret
      exact ⟨rfl, rfl⟩
def tb_ru : Nat → Int
  | 0 => 0
  | 1 => 2
  | 2 => 10
  | 3 => 26
  | 4 => 58
  | _ => 0
set_option maxRecDepth 100000 in
theorem bits_ru (b : Nat) (w : World) (h : w.heap[b]? = some (.cells #[.int .i64 1, .int .i64 3, .int .i64 4, .int .i64 5] 3 (0, 0))) :
    Calls Tryd.prog 70 #[.slice (some ⟨b, 0, none⟩) 4 4] w fun e w' => e = .returned (.int .u8 58) ∧ w = w' := by
  have c0 : w.cell? ⟨b, 0, none⟩ = some (.int .i64 1) := by rw [cell_blk h]; rfl
  have c1 : w.cell? ⟨b, 1, none⟩ = some (.int .i64 3) := by rw [cell_blk h]; rfl
  have c2 : w.cell? ⟨b, 2, none⟩ = some (.int .i64 4) := by rw [cell_blk h]; rfl
  have c3 : w.cell? ⟨b, 3, none⟩ = some (.int .i64 5) := by rw [cell_blk h]; rfl
  clear h
  go_enter Tryd.func70, Tryd.ntmps70
  go_wp2_with fail
  go_loop [3, 8] (fun t i => ∃ k : Nat, k ≤ 4 ∧ i = .int .i64 k ∧ t = .int .u8 (tb_ru k)) (fun _ i => 4 - (intOf i).toNat)
  case atStart => exact ⟨0, by omega, rfl, rfl⟩
  case round =>
    obtain ⟨k, hk, rfl, rfl⟩ := hrel
    rcases (show k = 0 ∨ k = 1 ∨ k = 2 ∨ k = 3 ∨ k = 4 by omega) with rfl | rfl | rfl | rfl | rfl
    · simp only [tb_ru]
      go_wp2_with fail
      go_round
      case rel => exact ⟨1, by omega, rfl, rfl⟩
      case measure => simp [intOf]
    · simp only [tb_ru]
      go_wp2_with fail
      go_round
      case rel => exact ⟨2, by omega, rfl, rfl⟩
      case measure => simp [intOf]
    · simp only [tb_ru]
      go_wp2_with fail
      go_round
      case rel => exact ⟨3, by omega, rfl, rfl⟩
      case measure => simp [intOf]
    · simp only [tb_ru]
      go_wp2_with fail
      go_round
      case rel => exact ⟨4, by omega, rfl, rfl⟩
      case measure => simp [intOf]
    · simp only [tb_ru]
      go_wp2_with fail
      go_ret
      exact ⟨rfl, rfl⟩
def tb_cs : Nat → Int
  | 0 => 0
  | 1 => 2
  | 2 => 10
  | 3 => 42
  | _ => 0
set_option maxRecDepth 100000 in
theorem bits_cs (b : Nat) (w : World) (h : w.heap[b]? = some (.cells #[.int .i64 1, .int .i64 3, .int .i64 5] 3 (0, 0))) :
    Calls Tryd.prog 70 #[.slice (some ⟨b, 0, none⟩) 3 3] w fun e w' => e = .returned (.int .u8 42) ∧ w = w' := by
  have c0 : w.cell? ⟨b, 0, none⟩ = some (.int .i64 1) := by rw [cell_blk h]; rfl
  have c1 : w.cell? ⟨b, 1, none⟩ = some (.int .i64 3) := by rw [cell_blk h]; rfl
  have c2 : w.cell? ⟨b, 2, none⟩ = some (.int .i64 5) := by rw [cell_blk h]; rfl
  clear h
  go_enter Tryd.func70, Tryd.ntmps70
  go_wp2_with fail
  go_loop [3, 8] (fun t i => ∃ k : Nat, k ≤ 3 ∧ i = .int .i64 k ∧ t = .int .u8 (tb_cs k)) (fun _ i => 3 - (intOf i).toNat)
  case atStart => exact ⟨0, by omega, rfl, rfl⟩
  case round =>
    obtain ⟨k, hk, rfl, rfl⟩ := hrel
    rcases (show k = 0 ∨ k = 1 ∨ k = 2 ∨ k = 3 by omega) with rfl | rfl | rfl | rfl
    · simp only [tb_cs]
      go_wp2_with fail
      go_round
      case rel => exact ⟨1, by omega, rfl, rfl⟩
      case measure => simp [intOf]
    · simp only [tb_cs]
      go_wp2_with fail
      go_round
      case rel => exact ⟨2, by omega, rfl, rfl⟩
      case measure => simp [intOf]
    · simp only [tb_cs]
      go_wp2_with fail
      go_round
      case rel => exact ⟨3, by omega, rfl, rfl⟩
      case measure => simp [intOf]
    · simp only [tb_cs]
      go_wp2_with fail
      go_ret
      exact ⟨rfl, rfl⟩
def tb_ar : Nat → Int
  | 0 => 0
  | 1 => 1
  | 2 => 3
  | 3 => 7
  | 4 => 15
  | 5 => 31
  | 6 => 63
  | _ => 0
set_option maxRecDepth 100000 in
theorem bits_ar (b : Nat) (w : World) (h : w.heap[b]? = some (.cells #[.int .i64 0, .int .i64 1, .int .i64 2, .int .i64 3, .int .i64 4, .int .i64 5] 3 (0, 0))) :
    Calls Tryd.prog 70 #[.slice (some ⟨b, 0, none⟩) 6 6] w fun e w' => e = .returned (.int .u8 63) ∧ w = w' := by
  have c0 : w.cell? ⟨b, 0, none⟩ = some (.int .i64 0) := by rw [cell_blk h]; rfl
  have c1 : w.cell? ⟨b, 1, none⟩ = some (.int .i64 1) := by rw [cell_blk h]; rfl
  have c2 : w.cell? ⟨b, 2, none⟩ = some (.int .i64 2) := by rw [cell_blk h]; rfl
  have c3 : w.cell? ⟨b, 3, none⟩ = some (.int .i64 3) := by rw [cell_blk h]; rfl
  have c4 : w.cell? ⟨b, 4, none⟩ = some (.int .i64 4) := by rw [cell_blk h]; rfl
  have c5 : w.cell? ⟨b, 5, none⟩ = some (.int .i64 5) := by rw [cell_blk h]; rfl
  clear h
  go_enter Tryd.func70, Tryd.ntmps70
  go_wp2_with fail
  go_loop [3, 8] (fun t i => ∃ k : Nat, k ≤ 6 ∧ i = .int .i64 k ∧ t = .int .u8 (tb_ar k)) (fun _ i => 6 - (intOf i).toNat)
  case atStart => exact ⟨0, by omega, rfl, rfl⟩
  case round =>
    obtain ⟨k, hk, rfl, rfl⟩ := hrel
    rcases (show k = 0 ∨ k = 1 ∨ k = 2 ∨ k = 3 ∨ k = 4 ∨ k = 5 ∨ k = 6 by omega) with rfl | rfl | rfl | rfl | rfl | rfl | rfl
    · simp only [tb_ar]
      go_wp2_with fail
      go_round
      case rel => exact ⟨1, by omega, rfl, rfl⟩
      case measure => simp [intOf]
    · simp only [tb_ar]
      go_wp2_with fail
      go_round
      case rel => exact ⟨2, by omega, rfl, rfl⟩
      case measure => simp [intOf]
    · simp only [tb_ar]
      go_wp2_with fail
      go_round
      case rel => exact ⟨3, by omega, rfl, rfl⟩
      case measure => simp [intOf]
    · simp only [tb_ar]
      go_wp2_with fail
      go_round
      case rel => exact ⟨4, by omega, rfl, rfl⟩
      case measure => simp [intOf]
    · simp only [tb_ar]
      go_wp2_with fail
      go_round
      case rel => exact ⟨5, by omega, rfl, rfl⟩
      case measure => simp [intOf]
    · simp only [tb_ar]
      go_wp2_with fail
      go_round
      case rel => exact ⟨6, by omega, rfl, rfl⟩
      case measure => simp [intOf]
    · simp only [tb_ar]
      go_wp2_with fail
      go_ret
      exact ⟨rfl, rfl⟩
end Go.Proofs.YtnambaiafailaaaDoor
