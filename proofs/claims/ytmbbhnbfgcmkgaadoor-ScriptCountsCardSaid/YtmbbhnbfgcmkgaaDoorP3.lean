/- The program's bytes: the walk. -/
import Derived.Test.YtmbbhnbfgcmkgaaDoorP2
namespace Go.Proofs.YtmbbhnbfgcmkgaaDoor
open Go.RowKit
def bytesL (l : List UInt8) : List UInt8 × Int :=
  if l = [45] then ([], 0) else if l = [] ∨ l.length % 2 = 1 then ([], 3) else
  if ∃ j, j < l.length ∧ hv (l.getD j 0) < 0 then ([], 3) else
  if 1300 < l.length / 2 then ([], 2) else (partB l (l.length / 2) l.length, 0)
/-- What bytes hands back. -/
structure BRes (w w' : World) (q : Option Addr) (cap : Nat) (b : List UInt8) : Prop where
  bel : Below w.heap.size w w'
  sl : SlAt enc1 1 w' q b
  le : b.length ≤ cap
  max : cap ≤ maxLen
  nilc : q = none → cap = 0
  new : ∀ a, q = some a → w.heap.size ≤ a.block
theorem BRes.nil (w : World) : BRes w w none 0 [] := ⟨Below.refl _ _, SlAt.nil _ _, Nat.le_refl _, Nat.zero_le _, fun _ => rfl, fun a h => by cases h⟩
theorem BRes.nilb {w w' : World} (h : Below w.heap.size w w') : BRes w w' none 0 [] := ⟨h, SlAt.nil _ _, Nat.le_refl _, Nat.zero_le _, fun _ => rfl, fun a h => by cases h⟩
theorem slat_bC {w : World} {b : Nat} {l : List UInt8} {T : TypeId} (h : w.heap[b]? = some (.cells (bC l) T (0, 0))) : SlAt enc1 1 w (some ⟨b, 0, none⟩) l := fun i hi =>
  ⟨b, 0, rfl, lt_heap h, fun j v hv => by
    cases j with
    | zero =>
      simp only [enc1, List.getElem?_cons_zero, Option.some.injEq] at hv
      subst hv
      rw [cell_blk h]
      simpa using bC_get l i hi
    | succ j => simp [enc1] at hv⟩
theorem mk_bytes (m : Nat) (hm : m ≤ 1000000) (W : World) : (Instr.makeSlice 34 (.int .i64 (m : Int)) (.int .i64 (m : Int))).run Tryd.prog W = .ok (.slice (some ⟨W.heap.size, 0, none⟩) m m) (W.alloc (.cells (bC (List.replicate m 0)) 5)) := by
  obtain ⟨i, hi, hz, hsz, hby⟩ := info_parts infoU8
  have h := run_makeSlice (P := Tryd.prog) (w := W) 34 5 i (.int .u8 0) Tryd.underlying34 hi hz .i64 .i64 (m : Int) (m : Int) (by omega) (Int.le_refl _) (by rw [hsz]; simp; omega) (by rw [hby]; omega) (by omega)
  rw [h, hsz]
  have e : madeCells (Value.int .u8 0).cells ((m : Int).toNat * 1) = bC (List.replicate m 0) := by
    refine Array.ext (by simp [madeCells, bC]) fun j h1 h2 => ?_
    simp [madeCells, bC, Value.cells, Nat.mod_one]
  rw [e]; rfl
set_option maxRecDepth 100000 in
set_option maxHeartbeats 8000000 in
theorem bytes_any (l : List UInt8) (w : World) (hm : l.length ≤ 1000000) :
    Calls Tryd.prog 42 #[.string ⟨l.toArray⟩] w fun e w' => ∃ q cap, e = .returned (.tuple #[.slice q (bytesL l).1.length cap, .int .i64 (bytesL l).2]) ∧ BRes w w' q cap (bytesL l).1 := by
  have hs := ba_size l
  by_cases h1 : l = [45]
  · subst h1
    go_enter Tryd.func42, Tryd.ntmps42
    go_wp2_with fail
    go_ret2
    exact ⟨none, 0, rfl, BRes.nil _⟩
  by_cases h0 : l = []
  · subst h0
    go_enter Tryd.func42, Tryd.ntmps42
    go_wp2_with fail
    go_ret2
    exact ⟨none, 0, rfl, BRes.nil _⟩
  have hx1 : (l == [45]) = false := by simpa using h1
  have hx0 : l.isEmpty = false := by simpa using h0
  by_cases h2 : l.length % 2 = 1
  · have HE : Hid (bytesL l = ([], 3)) := by show _ = _; unfold bytesL; rw [if_neg h1, if_pos (Or.inr h2)]
    have ht : ((l.length : Nat) : Int).tmod 2 = 1 := by rw [Int.tmod_eq_emod_of_nonneg (by omega)]; omega
    go_enter Tryd.func42, Tryd.ntmps42
    go_wp2_with fail
    go_ret2
    rw [HE.out]
    exact ⟨none, 0, rfl, BRes.nil _⟩
  have ht : ((l.length : Nat) : Int).tmod 2 = 0 := by rw [Int.tmod_eq_emod_of_nonneg (by omega)]; omega
  obtain ⟨m, hlm⟩ : ∃ m, l.length = 2 * m := ⟨l.length / 2, by omega⟩
  have hq : ((l.length : Nat) : Int).tdiv 2 = (m : Int) := by rw [Int.tdiv_eq_ediv_of_nonneg (by omega)]; omega
  have HE : Hid (bytesL l = if ∃ j, j < l.length ∧ hv (l.getD j 0) < 0 then ([], 3) else if 1300 < m then ([], 2) else (partB l m l.length, 0)) := by
    show _ = _
    unfold bytesL
    rw [if_neg h1, if_neg (by rintro (h | h); exact h0 h; exact h2 h), show l.length / 2 = m from by omega]
  have hmk := fun W => mk_bytes m (by omega) W
  have HX : Hid ((w.alloc (.cells (bC (List.replicate m 0)) 5)).heap[w.heap.size]? = some (.cells (bC (partB l m 0)) 5 (0, 0))) := by
    show _ = _; rw [partB_zero]; exact heap_alloc_new _ _
  have HB : Hid (Below w.heap.size w (w.alloc (.cells (bC (List.replicate m 0)) 5))) := below_alloc1 _ _
  have HLm := Lib.hid hlm
  go_enter Tryd.func42, Tryd.ntmps42
  go_wp2_with fail
  clear hmk
  generalize w.alloc (.cells (bC (List.replicate m 0)) 5) = W0 at *
  have hdig : Hid (∀ (c : UInt8) W, Calls Tryd.prog 31 #[.string ⟨#[48, 49, 50, 51, 52, 53, 54, 55, 56, 57, 97, 98, 99, 100, 101, 102]⟩, .int .u8 (c.toNat : Int)] W fun e w' => e = .returned (.int .i64 (hv c)) ∧ w' = W) := fun c W => by
    have := Tryd.strings_IndexByte ⟨#[48, 49, 50, 51, 52, 53, 54, 55, 56, 57, 97, 98, 99, 100, 101, 102]⟩ (c.toNat : Int) W
    simpa [hv] using this
  go_loopw [23] (fun i wr => ∃ k : Nat, k ≤ l.length ∧ i = .int .i64 k ∧ Hid (wr.heap[w.heap.size]? = some (.cells (bC (partB l m k)) 5 (0, 0))) ∧ Hid (Below w.heap.size w wr) ∧ Hid (∀ j, j < k → 0 ≤ hv (l.getD j 0))) (fun i _ => l.length - (intOf i).toNat)
  case atStart => exact ⟨0, Nat.zero_le _, rfl, HX.out, HB.out, fun j h => by omega⟩
  case round =>
    obtain ⟨k, hk, rfl, HC, HW, HA⟩ := hrel
    clear HX HB
    by_cases hlt : k < l.length
    · have hli : (k : Int) < 2 * (m : Int) := by have := HLm.out; omega
      have hix : ∀ W, (Instr.index 9 (.string ⟨l.toArray⟩) (.int .i64 (k : Int))).run Tryd.prog W = .ok (.int .u8 ((l[k]).toNat : Int)) W := fun W => ix_any l k hlt W
      have hgd : l.getD k 0 = l[k] := by simp [List.getD_eq_getElem?_getD, hlt]
      have KI : Hid (∀ W, Calls Tryd.prog 31 #[.string ⟨#[48, 49, 50, 51, 52, 53, 54, 55, 56, 57, 97, 98, 99, 100, 101, 102]⟩, .int .u8 ((l[k]).toNat : Int)] W fun e w' => e = .returned (.int .i64 (hv (l.getD k 0))) ∧ w' = W) := fun W => by rw [hgd]; exact hdig.out l[k] W
      have HG := Lib.hid hgd
      clear hgd
      generalize l[k] = c at *
      by_cases hneg : hv (l.getD k 0) < 0
      · have HR : Hid (bytesL l = ([], 3)) := by show _ = _; rw [HE.out, if_pos ⟨k, hlt, hneg⟩]
        generalize hv (l.getD k 0) = at0 at *
        go_wp2_with (go_at_call 31; (refine (KI.out _).mono ?_); rintro e W1 ⟨rfl, rfl⟩)
        go_ret2
        rw [HR.out]
        exact ⟨none, 0, rfl, BRes.nilb HW.out⟩
      · have hat : hv (l.getD k 0) = ((hn l k : Nat) : Int) := by have : 0 ≤ hv (l.getD k 0) := by omega
                                                                  unfold hn; omega
        have HA2 : Hid (∀ j, j < k + 1 → 0 ≤ hv (l.getD j 0)) := fun j hj => by
          rcases Nat.lt_or_eq_of_le (Nat.le_of_lt_succ hj) with h | rfl
          · exact HA.out j h
          · omega
        rw [hat] at KI
        have hneg2 : ¬ ((hn l k : Nat) : Int) < 0 := by omega
        have h16 := hn_lt l k
        have hwr : IntKind.u8.wrap ((hn l k : Nat) : Int) = ((hn l k : Nat) : Int) := by simp [IntKind.wrap, IntKind.bits, IntKind.signed]; omega
        have hst : bits .or .u8 (((pB l k (k / 2)).toNat : Int) * 16 % 256) ((hn l k : Nat) : Int) = ((pB l (k + 1) (k / 2)).toNat : Int) := by
          have := pB_step l k
          rwa [show IntKind.u8.wrap (((pB l k (k / 2)).toNat : Int) * 16) = ((pB l k (k / 2)).toNat : Int) * 16 % 256 from by simp [IntKind.wrap, IntKind.bits, IntKind.signed]] at this
        have hkq : ((k : Nat) : Int).tdiv 2 = ((k / 2 : Nat) : Int) := by rw [Int.tdiv_eq_ediv_of_nonneg (by omega)]; omega
        have hk2 : k / 2 < m := by omega
        have hkm : ((k / 2 : Nat) : Int) < (m : Int) := by omega
        have hcell : wr.cell? ⟨w.heap.size, k / 2, none⟩ = some (.int .u8 ((pB l k (k / 2)).toNat : Int)) := by
          rw [cell_blk HC.out, bC_get _ _ (by rw [partB_len]; exact hk2), partB_get l m k _ hk2]
        have hfz : wr.frozen? ⟨w.heap.size, k / 2, none⟩ = false := by simp [World.frozen?, HC.out]
        have HC2 : Hid ((wr.setCell ⟨w.heap.size, k / 2, none⟩ (.int .u8 ((pB l (k + 1) (k / 2)).toNat : Int))).heap[w.heap.size]? = some (.cells (bC (partB l m (k + 1))) 5 (0, 0))) := by
          show _ = _
          rw [heap_setCell_self _ HC.out, bC_set, partB_set]
        have HW2 : Hid (Below w.heap.size w (wr.setCell ⟨w.heap.size, k / 2, none⟩ (.int .u8 ((pB l (k + 1) (k / 2)).toNat : Int)))) := HW.out.setCell (p := ⟨w.heap.size, k / 2, none⟩) (Nat.le_refl _) _
        clear hat hneg HC HW HA
        generalize (pB l k (k / 2)) = cur at *
        generalize (pB l (k + 1) (k / 2)) = nxt at *
        generalize hn l k = at1 at *
        go_wp2_with (go_at_call 31; (refine (KI.out _).mono ?_); rintro e W1 ⟨rfl, rfl⟩)
        go_roundw
        case rel => exact ⟨k + 1, by omega, by go_num, HC2.out, HW2.out, HA2.out⟩
        case measure => simp [intOf]; omega
    · obtain rfl : k = l.length := by omega
      have HE2 : Hid (bytesL l = if 1300 < m then ([], 2) else (partB l m l.length, 0)) := by
        show _ = _
        rw [HE.out, if_neg]
        rintro ⟨j, hj, h⟩
        have := HA.out j hj
        omega
      by_cases h13 : 1300 < m
      · have h13i : (1300 : Int) < m := by omega
        have HR : Hid (bytesL l = ([], 2)) := by show _ = _; rw [HE2.out, if_pos h13]
        go_wp2_with fail
        go_ret2
        rw [HR.out]
        exact ⟨none, 0, rfl, BRes.nilb HW.out⟩
      · have h13i : ¬ (1300 : Int) < m := by omega
        have HR : Hid (bytesL l = (partB l m l.length, 0)) := by show _ = _; rw [HE2.out, if_neg h13]
        go_wp2_with fail
        go_ret2
        rw [HR.out]
        refine ⟨some ⟨w.heap.size, 0, none⟩, m, by simp only [partB_len]; rfl, ⟨HW.out, slat_bC HC.out, by simp only [partB_len]; exact Nat.le_refl _, by unfold maxLen; omega, (fun h => by cases h), (fun a h => by cases h; exact Nat.le_refl _)⟩⟩
end Go.Proofs.YtmbbhnbfgcmkgaaDoor
