/- has, At at a table. -/
import Derived.Test.YtmdhlpnieimdaaaTB
namespace Go.Proofs.Ytmdhlpnieimdaaa
open Go.RowKit

/-- What a table holds: the word, the times, the map. -/
structure TabAt (w : World) (tp : Nat) (used : Nat) (at' : List Nat) (o : Option Nat) : Prop where
  hg : w.heap[tp]? = some (.cells (tabC used at' o) 27)
  hu : used < 18446744073709551616
  hl : at'.length = 64
theorem cell_of_tab {w : World} {tp : Nat} {cs : Array Value} {T : TypeId} {fr : Nat × Nat} (h : w.heap[tp]? = some (.cells cs T fr)) (i : Nat) : w.cell? ⟨tp, i, none⟩ = cs[i]? := by simp [World.cell?, h]
theorem TabAt.cu {w : World} {tp used : Nat} {at' : List Nat} {o : Option Nat} (h : TabAt w tp used at' o) : w.cell? ⟨tp, 0, none⟩ = some (.int .u64 used) := by rw [cell_of_tab h.hg, tabC_used]
theorem TabAt.ca {w : World} {tp used : Nat} {at' : List Nat} {o : Option Nat} (h : TabAt w tp used at' o) (i : Nat) (hi : i < at'.length) : w.cell? ⟨tp, 1 + i, none⟩ = some (.int .u64 (at'[i] : Nat)) := by rw [cell_of_tab h.hg, tabC_at i hi]
theorem TabAt.cm {w : World} {tp used : Nat} {at' : List Nat} {o : Option Nat} (h : TabAt w tp used at' o) : w.cell? ⟨tp, 65, none⟩ = some (.map o) := by rw [cell_of_tab h.hg, tabC_map h.hl]

/-- Is a number used? -/
def hasL (used : Nat) (id : Int) : Bool := decide (0 ≤ id) && decide (id < 64) && used.testBit id.toNat

set_option maxHeartbeats 400000 in
theorem has_nil (id : Int) (w : World) : Calls Try.prog 19 #[.pointer none, .int .i64 id] w fun e w' => e = .returned (.bool false) ∧ w = w' := by
  go_enter Try.func19, Try.ntmps19
  go_wp2_with fail
  go_ret
  exact ⟨rfl, rfl⟩
set_option maxHeartbeats 400000 in
theorem has_tab (tp used : Nat) (at' : List Nat) (o : Option Nat) (id : Int) (w : World) (ht : TabAt w tp used at' o) :
    Calls Try.prog 19 #[.pointer (some ⟨tp, 0, none⟩), .int .i64 id] w fun e w' => e = .returned (.bool (hasL used id)) ∧ w = w' := by
  have hcu := ht.cu
  have hu := ht.hu
  clear ht
  by_cases h0 : 0 ≤ id
  · by_cases h1 : id < 64
    · obtain ⟨k, rfl⟩ : ∃ k : Nat, id = k := ⟨id.toNat, by omega⟩
      have hk : k < 64 := by omega
      have hb := bit_of used k hu
      have HL : Hid (hasL used (k : Int) = used.testBit k) := by
        show hasL used (k : Int) = used.testBit k
        simp [hasL, h1]
      rw [HL.out]
      generalize used.testBit k = t at *
      go_enter Try.func19, Try.ntmps19
      go_wp2_with fail
      go_ret
      exact ⟨rfl, rfl⟩
    · have HL : Hid (hasL used id = false) := by show hasL used id = false; simp [hasL, h1]
      rw [HL.out]
      go_enter Try.func19, Try.ntmps19
      go_wp2_with fail
      go_ret
      exact ⟨rfl, rfl⟩
  · have HL : Hid (hasL used id = false) := by show hasL used id = false; simp [hasL, h0]
    rw [HL.out]
    go_enter Try.func19, Try.ntmps19
    go_wp2_with fail
    go_ret
    exact ⟨rfl, rfl⟩
end Go.Proofs.Ytmdhlpnieimdaaa
