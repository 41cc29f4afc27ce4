/- check; Hex. -/
import Derived.Test.YtmbbhnbfgcmkgaaDoorB2
import Derived.Laws.BitsAllLaws
namespace Go.Proofs.YtmbbhnbfgcmkgaaDoor
open Go.RowKit

/-- What is wrong with a bare act. -/
def errD (x : D4) : Int := if x.kind < 1 ∨ 6 < x.kind then 16 else if x.who < 0 ∨ 7 < x.who ∨ x.n < 0 ∨ 300 < x.n then 5 else if 1300 < x.b.length then 2 else 0
theorem err_16 {x : D4} (h : x.kind < 1 ∨ 6 < x.kind) : errD x = 16 := by unfold errD; rw [if_pos h]
theorem err_5 {x : D4} (h : ¬ x.kind < 1) (h' : ¬ 6 < x.kind) (h2 : x.who < 0 ∨ 7 < x.who ∨ x.n < 0 ∨ 300 < x.n) : errD x = 5 := by unfold errD; rw [if_neg (by omega), if_pos h2]
theorem err_2 {x : D4} (h : ¬ x.kind < 1) (h' : ¬ 6 < x.kind) (h1 : ¬ x.who < 0) (h2 : ¬ 7 < x.who) (h3 : ¬ x.n < 0) (h4 : ¬ 300 < x.n) (h5 : 1300 < x.b.length) : errD x = 2 := by unfold errD; rw [if_neg (by omega), if_neg (by omega), if_pos h5]
theorem err_0 {x : D4} (h : ¬ x.kind < 1) (h' : ¬ 6 < x.kind) (h1 : ¬ x.who < 0) (h2 : ¬ 7 < x.who) (h3 : ¬ x.n < 0) (h4 : ¬ 300 < x.n) (h5 : ¬ 1300 < x.b.length) : errD x = 0 := by unfold errD; rw [if_neg (by omega), if_neg (by omega), if_neg h5]
theorem ret_int {k : IntKind} {a b : Int} (h : a = b) : Ending.returned (.int k a) = .returned (.int k b) := by rw [h]
set_option maxRecDepth 100000 in
set_option maxHeartbeats 4000000 in
theorem check_act (x : A4) (w : World) :
    Calls Tryd.prog 22 #[.agg (a4C x).toArray] w fun e w' => e = .returned (.int .i64 (errD x.d)) ∧ Below w.heap.size w w' := by
  have p0 : (w.alloc (.cells (a4C x).toArray 36)).cell? ⟨w.heap.size, 0, none⟩ = some (.int .i64 x.d.kind) := by rw [cell_blk (heap_alloc_new _ _)]; rfl
  have p1 : (w.alloc (.cells (a4C x).toArray 36)).cell? ⟨w.heap.size, 1, none⟩ = some (.int .i64 x.d.who) := by rw [cell_blk (heap_alloc_new _ _)]; rfl
  have p2 : (w.alloc (.cells (a4C x).toArray 36)).cell? ⟨w.heap.size, 2, none⟩ = some (.int .i64 x.d.n) := by rw [cell_blk (heap_alloc_new _ _)]; rfl
  have p3 : (w.alloc (.cells (a4C x).toArray 36)).cell? ⟨w.heap.size, 3, none⟩ = some (.slice x.q x.d.b.length x.cap) := by rw [cell_blk (heap_alloc_new _ _)]; rfl
  have HB := Lib.hid (below_alloc1 w (.cells (a4C x).toArray 36))
  generalize x.d = y at *
  by_cases h1 : y.kind < 1
  · have HE := Lib.hid (err_16 (Or.inl h1))
    go_enter Tryd.func22, Tryd.ntmps22
    go_wp2_with fail
    go_ret
    exact ⟨ret_int HE.out.symm, HB.out⟩
  by_cases h2 : 6 < y.kind
  · have HE := Lib.hid (err_16 (Or.inr h2))
    go_enter Tryd.func22, Tryd.ntmps22
    go_wp2_with fail
    go_ret
    exact ⟨ret_int HE.out.symm, HB.out⟩
  by_cases h3 : y.who < 0
  · have HE := Lib.hid (err_5 h1 h2 (Or.inl h3))
    go_enter Tryd.func22, Tryd.ntmps22
    go_wp2_with fail
    go_ret
    exact ⟨ret_int HE.out.symm, HB.out⟩
  by_cases h4 : 7 < y.who
  · have HE := Lib.hid (err_5 h1 h2 (Or.inr (Or.inl h4)))
    go_enter Tryd.func22, Tryd.ntmps22
    go_wp2_with fail
    go_ret
    exact ⟨ret_int HE.out.symm, HB.out⟩
  by_cases h5 : y.n < 0
  · have HE := Lib.hid (err_5 h1 h2 (Or.inr (Or.inr (Or.inl h5))))
    go_enter Tryd.func22, Tryd.ntmps22
    go_wp2_with fail
    go_ret
    exact ⟨ret_int HE.out.symm, HB.out⟩
  by_cases h6 : 300 < y.n
  · have HE := Lib.hid (err_5 h1 h2 (Or.inr (Or.inr (Or.inr h6))))
    go_enter Tryd.func22, Tryd.ntmps22
    go_wp2_with fail
    go_ret
    exact ⟨ret_int HE.out.symm, HB.out⟩
  by_cases h7 : 1300 < y.b.length
  · have HE := Lib.hid (err_2 h1 h2 h3 h4 h5 h6 h7)
    have h8 : (1300 : Int) < y.b.length := by omega
    go_enter Tryd.func22, Tryd.ntmps22
    go_wp2_with fail
    go_ret
    exact ⟨ret_int HE.out.symm, HB.out⟩
  · have HE := Lib.hid (err_0 h1 h2 h3 h4 h5 h6 h7)
    have h8 : ¬ (1300 : Int) < y.b.length := by omega
    go_enter Tryd.func22, Tryd.ntmps22
    go_wp2_with fail
    go_ret
    exact ⟨ret_int HE.out.symm, HB.out⟩
/-- A digit to sixteen. -/
def hx (n : Nat) : UInt8 := ([48, 49, 50, 51, 52, 53, 54, 55, 56, 57, 97, 98, 99, 100, 101, 102] : List UInt8).getD n 0
def hexL (b : List UInt8) : List UInt8 := b.flatMap fun c => [hx (c.toNat / 16), hx (c.toNat % 16)]
def hexD (b : List UInt8) : List UInt8 := if b = [] then [45] else hexL b
theorem hexL_len (b : List UInt8) : (hexL b).length = 2 * b.length := by
  unfold hexL
  induction b with
  | nil => rfl
  | cons c b ih => rw [List.flatMap_cons, List.length_append, ih]; simp; omega
theorem hexD_len (b : List UInt8) : (hexD b).length ≤ 2 * b.length + 1 := by
  unfold hexD
  split
  · simp
  · rw [hexL_len]; omega
theorem hx_ix (m : Nat) (hm : m < 16) (W : World) : (Instr.index 9 (.string ⟨#[48, 49, 50, 51, 52, 53, 54, 55, 56, 57, 97, 98, 99, 100, 101, 102]⟩) (.int .u8 (m : Int))).run Tryd.prog W = .ok (.int .u8 ((hx m).toNat : Int)) W := by
  obtain rfl | rfl | rfl | rfl | rfl | rfl | rfl | rfl | rfl | rfl | rfl | rfl | rfl | rfl | rfl | rfl : m = 0 ∨ m = 1 ∨ m = 2 ∨ m = 3 ∨ m = 4 ∨ m = 5 ∨ m = 6 ∨ m = 7 ∨ m = 8 ∨ m = 9 ∨ m = 10 ∨ m = 11 ∨ m = 12 ∨ m = 13 ∨ m = 14 ∨ m = 15 := by omega
  all_goals kernel_rfl
set_option maxRecDepth 100000 in
set_option maxHeartbeats 4000000 in
theorem hex_any (q : Option Addr) (l : List UInt8) (n cap : Nat) (w : World) (hn : l.length = n) (hm : n ≤ 1000000) (hq : SlAt enc1 1 w q l) :
    Calls Tryd.prog 14 #[.slice q n cap] w fun e w' => e = .returned (.string ⟨(hexD l).toArray⟩) ∧ Below w.heap.size w w' := by
  have HL := Lib.hid hn
  have HQ := Lib.hid hq
  clear hq
  by_cases h0 : n = 0
  · obtain rfl : l = [] := List.length_eq_zero_iff.1 (by omega)
    subst h0
    go_enter Tryd.func14, Tryd.ntmps14
    go_wp2_with fail
    go_ret
    exact ⟨rfl, Below.refl _ _⟩
  · have h1 : ((n : Int) == 0) = false := by simp only [beq_eq_false_iff_ne, ne_eq]; omega
    have h2 : (n == 0) = false := by simpa using h0
    have HE : Hid (hexD l = hexL l) := by show _ = _; unfold hexD; rw [if_neg (fun e => h0 (by rw [← hn, e]; rfl))]
    clear hn
    have HB0 := Lib.hid (IsB.fresh w)
    have HW0 : Hid (Below w.heap.size w (w.alloc (.cells #[.pointer none, .slice none 0 0] 54))) := below_alloc1 _ _
    go_enter Tryd.func14, Tryd.ntmps14
    go_wp2_with fail
    generalize w.alloc (.cells #[.pointer none, .slice none 0 0] 54) = W0 at *
    go_loopw [11] (fun i wr => ∃ k : Nat, k ≤ n ∧ i = .int .i64 k ∧ Hid (IsB w.heap.size w.heap.size (Lib.byteCells (hexL (l.take k))) wr) ∧ Hid (Below w.heap.size w wr)) (fun i _ => n - (intOf i).toNat)
    case atStart => exact ⟨0, Nat.zero_le _, rfl, HB0.out, HW0.out⟩
    case round =>
      obtain ⟨k, hk, rfl, HB, HW⟩ := hrel
      by_cases hlt : k < n
      · have hlt' : (k : Int) < n := by omega
        have hkl : k < l.length := by rw [HL.out]; exact hlt
        obtain ⟨b, f, rfl, hb, hr⟩ := (HQ.out.below HW.out) k hkl
        have hc : wr.cell? ⟨b, f + k, none⟩ = some (.int .u8 ((l[k]).toNat : Int)) := by
          have := hr 0 _ (show (enc1 l[k])[0]? = some _ from rfl)
          simpa using this
        have HT : Hid (l.take (k + 1) = l.take k ++ [l[k]]) := List.take_succ_eq_append_getElem hkl
        generalize l[k] = c at *
        have hb := c.toNat_lt
        have hi1 : ∀ W, (Instr.index 9 (.string ⟨#[48, 49, 50, 51, 52, 53, 54, 55, 56, 57, 97, 98, 99, 100, 101, 102]⟩) (.int .u8 ((c.toNat : Int) / 16))).run Tryd.prog W = .ok (.int .u8 ((hx (c.toNat / 16)).toNat : Int)) W := fun W => by
          have := hx_ix (c.toNat / 16) (by omega) W
          rwa [show (((c.toNat / 16 : Nat)) : Int) = (c.toNat : Int) / 16 from by omega] at this
        have hi2 : ∀ W, (Instr.index 9 (.string ⟨#[48, 49, 50, 51, 52, 53, 54, 55, 56, 57, 97, 98, 99, 100, 101, 102]⟩) (.int .u8 ((c.toNat : Int) % 16))).run Tryd.prog W = .ok (.int .u8 ((hx (c.toNat % 16)).toNat : Int)) W := fun W => by
          have := hx_ix (c.toNat % 16) (by omega) W
          rwa [show (((c.toNat % 16 : Nat)) : Int) = (c.toNat : Int) % 16 from by omega] at this
        have h15 : bits .and .u8 (c.toNat : Int) 15 = (c.toNat : Int) % 16 := by
          have := u8_and_nat c.toNat 15 hb (by omega)
          rw [show (c.toNat &&& 15) = c.toNat % 16 from Nat.and_two_pow_sub_one_eq_mod c.toNat 4] at this
          rw [show (15 : Int) = ((15 : Nat) : Int) from rfl, this]; omega
        have hA : (Lib.byteCells (hexL (l.take k))).length ≤ 2000000 := by
          rw [Lib.byteCells_length, hexL_len]
          have := List.length_take_le k l
          omega
        have HN : Hid (Lib.byteCells (hexL (l.take k)) ++ [.int .u8 ((hx (c.toNat / 16)).toNat : Int)] ++ [.int .u8 ((hx (c.toNat % 16)).toNat : Int)] = Lib.byteCells (hexL (l.take (k + 1)))) := by
          show _ = _
          rw [HT.out]; simp [hexL, Lib.byteCells]
        clear hb HT
        generalize Lib.byteCells (hexL (l.take k)) = A at *
        generalize hx (c.toNat / 16) = x1 at *
        generalize hx (c.toNat % 16) = x2 at *
        go_wp2_with (go_at_call 30; (refine (writeByte_any _ _ _ _ _ HB.out (by simp; omega)).mono ?_); rintro e w2 ⟨rfl, hu2, hb2⟩; have HB : Hid (IsB w.heap.size w.heap.size _ w2) := Or.inr hu2; have HW := Lib.hid (HW.out.trans hb2); clear hu2 hb2)
        go_roundw
        case rel => exact ⟨k + 1, by omega, by go_num, by rw [← HN.out]; exact HB.out, HW.out⟩
        case measure => simp [intOf]; omega
      · obtain rfl : n = k := by omega
        rw [List.take_of_length_le (Nat.le_of_eq HL.out)] at HB
        have HSt := Lib.hid (Tryd.Builder_String_any w.heap.size w.heap.size (hexL l) wr HB.out HW.out.size)
        go_wp2_with (go_at_call 27; (refine HSt.out.mono ?_); rintro e w2 ⟨rfl, hb2⟩)
        go_ret
        exact ⟨by rw [HE.out]; rfl, HW.out.trans hb2⟩
end Go.Proofs.YtmbbhnbfgcmkgaaDoor
