/- xorshift, nextPowerOfTwo, breakPatterns at words. -/
import Derived.Test.YtmdhlpnieimdaaaZ8
namespace Go.Proofs.Ytmdhlpnieimdaaa
open Go.RowKit

def nx1 (m : Nat) : Nat := m ^^^ (m * 8192 % 18446744073709551616)
def nx2 (m : Nat) : Nat := m ^^^ (m / 128)
def nx3 (m : Nat) : Nat := m ^^^ (m * 131072 % 18446744073709551616)
def nx (m : Nat) : Nat := nx3 (nx2 (nx1 m))
theorem xor_lt {a b : Nat} (ha : a < 18446744073709551616) (hb : b < 18446744073709551616) : a ^^^ b < 18446744073709551616 := Nat.xor_lt_two_pow (n := 64) ha hb
theorem nx1_lt {m : Nat} (h : m < 18446744073709551616) : nx1 m < 18446744073709551616 := xor_lt h (Nat.mod_lt _ (by decide))
theorem nx2_lt {m : Nat} (h : m < 18446744073709551616) : nx2 m < 18446744073709551616 := xor_lt h (by omega)
theorem nx3_lt {m : Nat} (h : m < 18446744073709551616) : nx3 m < 18446744073709551616 := xor_lt h (Nat.mod_lt _ (by decide))
theorem nx_u64 {m : Nat} (h : m < 18446744073709551616) : (Sort.xorNext (UInt64.ofNat m)).toNat = nx m := by
  unfold Sort.xorNext nx nx3 nx2 nx1
  simp only [UInt64.toNat_xor, UInt64.toNat_shiftLeft, UInt64.toNat_shiftRight, UInt64.toNat_ofNat']
  simp [Nat.mod_eq_of_lt h, Nat.shiftLeft_eq, Nat.shiftRight_eq_div_pow]
set_option maxRecDepth 100000 in
set_option maxHeartbeats 4000000 in
theorem next_any (rb m : Nat) (w : World) (hm : m < 18446744073709551616) (h : w.heap[rb]? = some (.cells #[.int .u64 (m : Int)] 75 (0, 0))) :
    Calls Try.prog 41 #[.pointer (some ⟨rb, 0, none⟩)] w fun e w' => e = .returned (.int .u64 (nx m : Nat)) ∧ Turn [rb] w w' ∧ w'.heap[rb]? = some (.cells #[.int .u64 (nx m : Nat)] 75 (0, 0)) := by
  have HH := Lib.hid h
  have hc : w.cell? ⟨rb, 0, none⟩ = some (.int .u64 (m : Int)) := by rw [cell_of_tab h]; rfl
  have hf : w.frozen? ⟨rb, 0, none⟩ = false := by simp [World.frozen?, h]
  clear h
  have step : ∀ (W : World) (a b : Nat), W.heap[rb]? = some (.cells #[.int .u64 (a : Int)] 75 (0, 0)) → Turn [rb] W (W.setCell ⟨rb, 0, none⟩ (.int .u64 (b : Int))).drew ∧ (W.setCell ⟨rb, 0, none⟩ (.int .u64 (b : Int))).drew.heap[rb]? = some (.cells #[.int .u64 (b : Int)] 75 (0, 0)) := fun W a b hW => by
    refine ⟨(Turn.setCell rb 0 _ W).trans ⟨rfl, rfl, rfl, Nat.le_refl _, fun _ _ _ => rfl⟩, ?_⟩
    have := heap_setCell_self (i := 0) (.int .u64 (b : Int)) hW
    show (W.setCell ⟨rb, 0, none⟩ (.int .u64 (b : Int))).heap[rb]? = _
    simpa using this
  have HST := Lib.hid step
  have hx1 : bits BinOp.xor IntKind.u64 (m : Int) (IntKind.u64.wrap ((m : Int) * 8192)) = ((nx1 m : Nat) : Int) := by
    rw [show IntKind.u64.wrap ((m : Int) * 8192) = ((m * 8192 % 18446744073709551616 : Nat) : Int) by simp [IntKind.wrap, IntKind.bits, IntKind.signed]]
    exact bits_xor_u64_nat _ _ hm (Nat.mod_lt _ (by decide))
  have h1 := nx1_lt hm
  have hx2 : bits BinOp.xor IntKind.u64 ((nx1 m : Nat) : Int) (((nx1 m : Nat) : Int).fdiv 128) = ((nx2 (nx1 m) : Nat) : Int) := by
    rw [show ((nx1 m : Nat) : Int).fdiv 128 = ((nx1 m / 128 : Nat) : Int) by rw [Int.fdiv_eq_ediv_of_nonneg _ (by decide)]; rfl]
    exact bits_xor_u64_nat _ _ h1 (by omega)
  have hx2' : bits BinOp.xor IntKind.u64 ((nx1 m : Nat) : Int) (((nx1 m : Nat) : Int) / 128) = ((nx2 (nx1 m) : Nat) : Int) := by
    rw [show ((nx1 m : Nat) : Int) / 128 = ((nx1 m / 128 : Nat) : Int) by rfl]
    exact bits_xor_u64_nat _ _ h1 (by omega)
  have h2 := nx2_lt h1
  have hx3 : bits BinOp.xor IntKind.u64 ((nx2 (nx1 m) : Nat) : Int) (IntKind.u64.wrap (((nx2 (nx1 m) : Nat) : Int) * 131072)) = ((nx m : Nat) : Int) := by
    rw [show IntKind.u64.wrap (((nx2 (nx1 m) : Nat) : Int) * 131072) = ((nx2 (nx1 m) * 131072 % 18446744073709551616 : Nat) : Int) by simp [IntKind.wrap, IntKind.bits, IntKind.signed]]
    exact bits_xor_u64_nat _ _ h2 (Nat.mod_lt _ (by decide))
  clear step h1 h2 hm
  generalize nx m = m3 at *
  generalize nx2 (nx1 m) = m2 at *
  generalize nx1 m = m1 at *
  have H1 := Lib.hid (HST.out w m m1 HH.out)
  go_enter Try.func41, Try.ntmps41
  go_wp2_with fail
  go_region
  try rw [hx1]
  clear hc hf hx1
  generalize (w.setCell ⟨rb, 0, none⟩ (.int .u64 (m1 : Int))).drew = W1 at *
  have hc : W1.cell? ⟨rb, 0, none⟩ = some (.int .u64 (m1 : Int)) := by rw [cell_of_tab H1.out.2]; rfl
  have hf : W1.frozen? ⟨rb, 0, none⟩ = false := by simp [World.frozen?, H1.out.2]
  have H2 := Lib.hid (HST.out W1 m1 m2 H1.out.2)
  go_wp2_with fail
  go_region
  first | rw [hx2] | rw [hx2'] | skip
  clear hc hf hx2 hx2'
  generalize (W1.setCell ⟨rb, 0, none⟩ (.int .u64 (m2 : Int))).drew = W2 at *
  have hc : W2.cell? ⟨rb, 0, none⟩ = some (.int .u64 (m2 : Int)) := by rw [cell_of_tab H2.out.2]; rfl
  have hf : W2.frozen? ⟨rb, 0, none⟩ = false := by simp [World.frozen?, H2.out.2]
  have H3 := Lib.hid (HST.out W2 m2 m3 H2.out.2)
  go_wp2_with fail
  go_region
  first | rw [hx3] | skip
  clear hc hf hx3
  generalize (W2.setCell ⟨rb, 0, none⟩ (.int .u64 (m3 : Int))).drew = W3 at *
  have hc : W3.cell? ⟨rb, 0, none⟩ = some (.int .u64 (m3 : Int)) := by rw [cell_of_tab H3.out.2]; rfl
  go_wp2_with fail
  go_ret
  exact ⟨rfl, (H1.out.1.trans H2.out.1).trans H3.out.1, H3.out.2⟩
end Go.Proofs.Ytmdhlpnieimdaaa
