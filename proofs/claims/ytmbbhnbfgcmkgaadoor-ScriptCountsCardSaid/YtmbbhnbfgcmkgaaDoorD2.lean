/- The document's Hex, decimal. -/
import Derived.Test.YtmbbhnbfgcmkgaaDoorD1
import Derived.Deep.RegionLaw
import Derived.BigRegion
namespace Go.Proofs.YtmbbhnbfgcmkgaaDoor
open Go.RowKit
theorem hx_get (m : Nat) (hm : m < 16) (h : m < (⟨#[48, 49, 50, 51, 52, 53, 54, 55, 56, 57, 97, 98, 99, 100, 101, 102]⟩ : ByteArray).size) : (⟨#[48, 49, 50, 51, 52, 53, 54, 55, 56, 57, 97, 98, 99, 100, 101, 102]⟩ : ByteArray)[m]'h = hx m := by
  obtain rfl | rfl | rfl | rfl | rfl | rfl | rfl | rfl | rfl | rfl | rfl | rfl | rfl | rfl | rfl | rfl : m = 0 ∨ m = 1 ∨ m = 2 ∨ m = 3 ∨ m = 4 ∨ m = 5 ∨ m = 6 ∨ m = 7 ∨ m = 8 ∨ m = 9 ∨ m = 10 ∨ m = 11 ∨ m = 12 ∨ m = 13 ∨ m = 14 ∨ m = 15 := by omega
  all_goals rfl
/-- append(s, part...), its run. -/
theorem app_run {P : Program} {α : Type} {enc : α → List Value} {k : Nat} {w : World} (T ty E : TypeId) (bytes : Nat) (z : Value) (hT : P.underlying T = some (.slice E)) (hinf : (P.info? E).map (fun i => (i.zero, i.size, i.bytes)) = some (some z, k, bytes)) (hzk : z.cells.size = k) (hk0 : 0 < k) (hk : ∀ x, (enc x).length = k) (h1 : ∀ x, ∀ u ∈ enc x, u.oneCell' = true)
    (base : Nat) (v : Value) (xs : List α) (hown : OwnE enc E k w base v xs) (b f m c : Nat) (ys : List α) (hm : ys.length = m) (hq : SlAt enc k w (some ⟨b, f, none⟩) ys)
    (hlen : (xs.length + m) * bytes ≤ 140737488355328) (hml : xs.length + m ≤ maxLen) (hbase : base ≤ w.heap.size) :
    ∃ v' w', (Builtin.append_ #[T, T] ty #[v, .slice (some ⟨b, f, none⟩) m c]).run P w = .ok v' w' ∧ OwnE enc E k w' base v' (xs ++ ys) ∧ w.grownBy w' v.ownBlock ∧ (v'.ownBlock = v.ownBlock ∨ v'.ownBlock = some w.heap.size) := by
  obtain ⟨i, hi, hz, hsz, hby⟩ := info_parts hinf
  have hnews : ∀ j u, (ys.flatMap enc)[j]? = some u → w.cell? ((⟨b, f, none⟩ : Addr).add j) = some u := by
    intro j u hu
    rw [Addr.add_mid]
    exact slat_range hk _ _ hq j u hu
  have hall : ∀ u ∈ ys.flatMap enc, u.oneCell' = true := by
    intro u hu
    obtain ⟨y, _, hy⟩ := List.mem_flatMap.1 hu
    exact h1 y u hy
  obtain ⟨v', w', hr, g1, g2, _, g4⟩ := run_append_own_at (P := P) w base T ty E i z k bytes hT hi hz hsz hby hzk hk0 v xs.length (xs.flatMap enc) hown ⟨b, f, none⟩ m c (ys.flatMap enc) (by rw [flat_len hk, hm]) hnews hall hml hlen hbase
  refine ⟨v', w', hr, ?_, g2, g4⟩
  have e : (xs ++ ys).flatMap enc = xs.flatMap enc ++ ys.flatMap enc := List.flatMap_append
  unfold OwnE
  rw [e, List.length_append, hm]
  exact g1
/-- Two bytes in a block. -/
theorem two_at {w : World} {x1 x2 : UInt8} {T : TypeId} {b : Nat} (hg : w.heap[b]? = some (.cells #[.int .u8 (x1.toNat : Int), .int .u8 (x2.toNat : Int)] T (0, 0))) : SlAt enc1 1 w (some ⟨b, 0, none⟩) [x1, x2] := by
  intro i hi
  obtain rfl | rfl : i = 0 ∨ i = 1 := by simp at hi; omega
  · exact ⟨_, _, rfl, lt_heap hg, fun j v hv => by
      cases j with
      | zero => simp only [enc1, List.getElem_cons_zero, List.getElem?_cons_zero, Option.some.injEq] at hv; subst hv; rw [cell_blk hg]; rfl
      | succ j => simp [enc1] at hv⟩
  · exact ⟨_, _, rfl, lt_heap hg, fun j v hv => by
      cases j with
      | zero => simp only [enc1, List.getElem_cons_succ, List.getElem_cons_zero, List.getElem?_cons_zero, Option.some.injEq] at hv; subst hv; rw [cell_blk hg]; rfl
      | succ j => simp [enc1] at hv⟩
set_option maxRecDepth 100000 in
set_option maxHeartbeats 4000000 in
theorem refHex_any (l : List UInt8) (w : World) (hm : l.length ≤ 1000000) :
    Calls Tryd.prog 15 #[.string ⟨l.toArray⟩] w fun e w' => e = .returned (.string ⟨(hexD l).toArray⟩) ∧ Below w.heap.size w w' := by
  have hs : (⟨l.toArray⟩ : ByteArray).size = l.length := by show l.toArray.size = _; simp
  by_cases h0 : l = []
  · subst h0
    go_enter Tryd.func15, Tryd.ntmps15
    go_wp2_with fail
    go_ret
    exact ⟨rfl, Below.refl _ _⟩
  · have h1 : l.isEmpty = false := by simpa using h0
    have HE : Hid (hexD l = hexL l) := by show _ = _; unfold hexD; rw [if_neg h0]
    go_enter Tryd.func15, Tryd.ntmps15
    go_wp2_with fail
    go_loopw [3, 4] (fun v i wr => ∃ k : Nat, k ≤ l.length ∧ i = .int .i64 k ∧ Hid (OwnE enc1 5 1 wr w.heap.size v (hexL (l.take k))) ∧ Hid (Below w.heap.size w wr)) (fun _ i _ => l.length - (intOf i).toNat)
    case atStart => exact ⟨0, Nat.zero_le _, rfl, OwnE.nil _ _, Below.refl _ _⟩
    case round =>
      obtain ⟨k, hk, rfl, HO, HW⟩ := hrel
      by_cases hlt : k < l.length
      · have hlt' : (k : Int) < l.length := by omega
        go_upto_region 7 with fail
        have hkl : l[k]? = some l[k] := List.getElem?_eq_getElem hlt
        have HT : Hid (l.take (k + 1) = l.take k ++ [l[k]]) := List.take_succ_eq_append_getElem hlt
        have hix : ∀ W, (Instr.index 9 (.string ⟨l.toArray⟩) (.int .i64 (k : Int))).run Tryd.prog W = .ok (.int .u8 ((l[k]).toNat : Int)) W := fun W => by
          simp [go_sem, hlt, hkl, hs]; rfl
        generalize l[k] = c at *
        have hb := c.toNat_lt
        have hw1 : IntKind.u8.wrap ((c.toNat : Int) / 16) = ((c.toNat / 16 : Nat) : Int) := by simp [IntKind.wrap, IntKind.bits, IntKind.signed]; omega
        have hw2 : (c.toNat : Int).tmod 16 = ((c.toNat % 16 : Nat) : Int) := by rw [Int.tmod_eq_emod_of_nonneg (by omega)]; omega
        have hm1 : c.toNat / 16 < 16 := by omega
        have hm2 : c.toNat % 16 < 16 := by omega
        generalize hq1 : c.toNat / 16 = m1 at *
        generalize hq2 : c.toNat % 16 = m2 at *
        have hmi1 : (m1 : Int) < 16 := by omega
        have hmi2 : (m2 : Int) < 16 := by omega
        have hv1 : ∀ h, (⟨#[48, 49, 50, 51, 52, 53, 54, 55, 56, 57, 97, 98, 99, 100, 101, 102]⟩ : ByteArray)[m1]'h = hx m1 := fun h => hx_get m1 hm1 h
        have hv2 : ∀ h, (⟨#[48, 49, 50, 51, 52, 53, 54, 55, 56, 57, 97, 98, 99, 100, 101, 102]⟩ : ByteArray)[m2]'h = hx m2 := fun h => hx_get m2 hm2 h
        have HT2 : Hid (hexL [c] = [hx m1, hx m2]) := by show _ = _; simp [hexL, hq1, hq2]
        clear hq1 hq2 hm1 hm2
        have HA : Hid ((hexL (l.take k)).length ≤ 2000000) := by
          show _ ≤ _
          rw [hexL_len]
          have := List.length_take_le k l
          omega
        have HN : Hid (hexL (l.take k) ++ [hx (m1), hx (m2)] = hexL (l.take (k + 1))) := by
          show _ = _
          rw [HT.out, ← HT2.out]; simp [hexL]
        have HW3 : Hid (Below w.heap.size w (wr.alloc (.cells #[.int .u8 ((hx (m1)).toNat : Int), .int .u8 ((hx (m2)).toNat : Int)] 5)).drew) := (HW.out.alloc HW.out.size _).trans ⟨rfl, rfl, rfl, Nat.le_refl _, fun _ _ => rfl⟩
        have HO3 : Hid (OwnE enc1 5 1 (wr.alloc (.cells #[.int .u8 ((hx (m1)).toNat : Int), .int .u8 ((hx (m2)).toNat : Int)] 5)).drew w.heap.size u3 (hexL (l.take k))) := HO.out.below ((below_alloc1 _ _).trans ⟨rfl, rfl, rfl, Nat.le_refl _, fun _ _ => rfl⟩)
        have HR : Hid (SlAt enc1 1 (wr.alloc (.cells #[.int .u8 ((hx (m1)).toNat : Int), .int .u8 ((hx (m2)).toNat : Int)] 5)).drew (some ⟨wr.heap.size, 0, none⟩) [hx (m1), hx (m2)]) := by
          exact two_at (heap_alloc_new wr (.cells #[.int .u8 ((hx (m1)).toNat : Int), .int .u8 ((hx (m2)).toNat : Int)] 5))
        have hoR : ∀ g, u3.ownBlock = some g → w.heap.size ≤ g := fun g hg => (HO3.out.lt g hg).1
        clear HO HW HT HT2
        go_region_law (refine st_if rfl (op_app 34 5 1 (.int .u8 0) Tryd.underlying34 infoU8 rfl (by omega) enc1_len enc1_one (.tmp 13) (.tmp 24) rfl w.heap.size u3 (hexL (l.take k)) (by simp [Act.eval, Act.put]) HO3.out (some ⟨wr.heap.size, 0, none⟩) 2 2 [hx (m1), hx (m2)] (by simp [Act.eval, Act.put]) rfl HR.out (fun e => by cases e) (by have := HA.out; omega) (by have := HA.out; unfold maxLen; omega) HW3.out.size (fun v' wA hoA hgA _ => ?_)))
        all_goals (go_wp2_with fail)
        all_goals (refine ⟨⟨k + 1, by omega, by go_num, by rw [← HN.out]; exact hoA, HW3.out.trans (grown_below hgA (fun g hg => (hoR g hg)) HW3.out.size)⟩, by simp [intOf]; omega⟩)
      · obtain rfl : l.length = k := by omega
        rw [List.take_of_length_le (Nat.le_refl _)] at HO
        obtain ⟨q, cap, rfl, hle, hmx, hsl, hnew⟩ := HO.out.at enc1_len
        have hcv := conv_any wr q cap (hexL l) hsl
        go_wp2_with fail
        go_ret
        exact ⟨by rw [HE.out]; rfl, HW.out⟩
end Go.Proofs.YtmbbhnbfgcmkgaaDoor
