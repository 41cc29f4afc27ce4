/- The document's pad. -/
import Derived.Test.YtnambaiafailaaaDoorX5
namespace Go.Proofs.YtnambaiafailaaaDoor
open Go.RowKit

def padK (n : Nat) (l : List UInt8) (k : Nat) : List UInt8 := l.take k ++ List.replicate (n - k) 0
theorem padK_next (n : Nat) (l : List UInt8) (k : Nat) (hk : k < l.length) (hn : k < n) : (padK n l k).set k l[k] = padK n l (k + 1) := by
  unfold padK
  apply List.ext_getElem?
  intro i
  rw [List.getElem?_set]
  by_cases e : k = i
  · subst e
    rw [if_pos rfl, if_pos (by simp; omega), List.getElem?_append_left (by simp; omega), List.getElem?_take_of_lt (by omega)]
    simp [hk]
  · rw [if_neg e]
    by_cases hi : i < k
    · rw [List.getElem?_append_left (by simp; omega), List.getElem?_append_left (by simp; omega), List.getElem?_take_of_lt hi, List.getElem?_take_of_lt (by omega)]
    · rw [List.getElem?_append_right (by simp; omega), List.getElem?_append_right (by simp; omega), List.length_take, List.length_take, List.getElem?_replicate, List.getElem?_replicate]
      by_cases h10 : i < n
      · rw [if_pos (by omega), if_pos (by omega)]
      · rw [if_neg (by omega), if_neg (by omega)]
theorem padK_full {n : Nat} {l : List UInt8} (h : l.length ≤ n) : padK n l l.length = padTo n l := by
  have _ := h
  unfold padK padTo
  rw [List.take_of_length_le (Nat.le_refl _)]
theorem padK_len {n : Nat} {l : List UInt8} {k : Nat} (_ : k ≤ l.length) (_ : k ≤ n) : (padK n l k).length = n := by
  unfold padK; simp; omega
set_option maxRecDepth 100000 in
set_option maxHeartbeats 2000000 in
theorem pad_3 (l : List UInt8) (w : World) (hl : l.length ≤ 3) :
    Calls Tryd.prog 57 #[.string ⟨l.toArray⟩, .int .i64 3] w fun e w' => e = .returned (.slice (some ⟨w.heap.size, 0, none⟩) 3 3) ∧ w' = w.alloc (.cells (bC (padTo 3 l)) 5) := by
  have HF := Lib.hid (padK_full hl)
  have hmk : ∀ W : World, (Instr.makeSlice 85 (.int .i64 3) (.int .i64 3)).run Tryd.prog W = .ok (.slice (some ⟨W.heap.size, 0, none⟩) 3 3) (W.alloc (.cells (bC (padK 3 l 0)) 5)) := fun W => by kernel_rfl
  go_enter Tryd.func57, Tryd.ntmps57
  go_wp2_with fail
  clear hmk
  go_loopw [6] (fun i wr => ∃ k : Nat, k ≤ l.length ∧ i = .int .i64 k ∧ wr = w.alloc (.cells (bC (padK 3 l k)) 5)) (fun i _ => l.length - (intOf i).toNat)
  case atStart => exact ⟨0, by omega, rfl, rfl⟩
  case round =>
    obtain ⟨k, hk, rfl, rfl⟩ := hrel
    by_cases hlt : k < l.length
    · have hkn : (k : Int) < 3 := by omega
      have hkn' : k < 3 := by omega
      have HJ := Lib.hid (padK_next 3 l k hlt hkn')
      have hc := bC_get (padK 3 l k) k (by rw [padK_len hk (by omega)]; omega)
      have hs : (⟨l.toArray⟩ : ByteArray).size = l.length := ba_size l
      go_wp2_with fail
      go_roundw
      case rel => exact ⟨k + 1, by omega, by go_num, by rw [← HJ.out, ← bC_set]; rfl⟩
      case measure => simp [intOf]; omega
    · obtain rfl : k = l.length := by omega
      have hs : (⟨l.toArray⟩ : ByteArray).size = l.length := ba_size l
      go_wp2_with fail
      go_ret
      exact ⟨rfl, by rw [HF.out]⟩
set_option maxRecDepth 100000 in
set_option maxHeartbeats 2000000 in
theorem pad_4 (l : List UInt8) (w : World) (hl : l.length ≤ 4) :
    Calls Tryd.prog 57 #[.string ⟨l.toArray⟩, .int .i64 4] w fun e w' => e = .returned (.slice (some ⟨w.heap.size, 0, none⟩) 4 4) ∧ w' = w.alloc (.cells (bC (padTo 4 l)) 5) := by
  have HF := Lib.hid (padK_full hl)
  have hmk : ∀ W : World, (Instr.makeSlice 85 (.int .i64 4) (.int .i64 4)).run Tryd.prog W = .ok (.slice (some ⟨W.heap.size, 0, none⟩) 4 4) (W.alloc (.cells (bC (padK 4 l 0)) 5)) := fun W => by kernel_rfl
  go_enter Tryd.func57, Tryd.ntmps57
  go_wp2_with fail
  clear hmk
  go_loopw [6] (fun i wr => ∃ k : Nat, k ≤ l.length ∧ i = .int .i64 k ∧ wr = w.alloc (.cells (bC (padK 4 l k)) 5)) (fun i _ => l.length - (intOf i).toNat)
  case atStart => exact ⟨0, by omega, rfl, rfl⟩
  case round =>
    obtain ⟨k, hk, rfl, rfl⟩ := hrel
    by_cases hlt : k < l.length
    · have hkn : (k : Int) < 4 := by omega
      have hkn' : k < 4 := by omega
      have HJ := Lib.hid (padK_next 4 l k hlt hkn')
      have hc := bC_get (padK 4 l k) k (by rw [padK_len hk (by omega)]; omega)
      have hs : (⟨l.toArray⟩ : ByteArray).size = l.length := ba_size l
      go_wp2_with fail
      go_roundw
      case rel => exact ⟨k + 1, by omega, by go_num, by rw [← HJ.out, ← bC_set]; rfl⟩
      case measure => simp [intOf]; omega
    · obtain rfl : k = l.length := by omega
      have hs : (⟨l.toArray⟩ : ByteArray).size = l.length := ba_size l
      go_wp2_with fail
      go_ret
      exact ⟨rfl, by rw [HF.out]⟩
end Go.Proofs.YtnambaiafailaaaDoor
