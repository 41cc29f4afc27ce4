/- The document's split, number. -/
import Derived.Test.YtmbbhnbfgcmkgaaDoorP8
import Derived.StillTailTactics
namespace Go.Proofs.YtmbbhnbfgcmkgaaDoor
open Go.RowKit

def splB : List (List UInt8) → List UInt8 → List UInt8 → List (List UInt8)
  | ws, cur, [] => ws ++ [cur]
  | ws, cur, c :: r => if c = 32 then splB (ws ++ [cur]) [] r else splB ws (cur ++ [c]) r
def prep (cur : List UInt8) : List (List UInt8) → List (List UInt8)
  | p :: ps => (cur ++ p) :: ps
  | [] => [cur]
theorem splB_eq : ∀ (l : List UInt8) (ws : List (List UInt8)) (cur : List UInt8), splB ws cur l = ws ++ prep cur (spl 32 l)
  | [], ws, cur => by simp [splB, spl, prep]
  | c :: l, ws, cur => by
    rw [splB]
    split
    · rename_i h
      rw [splB_eq l, spl, if_pos h]
      have : prep [] (spl 32 l) = spl 32 l := by
        cases hs : spl 32 l with
        | nil => exact absurd hs (spl_ne 32 l)
        | cons p ps => rfl
      rw [this]; simp [prep]
    · rename_i h
      rw [splB_eq l, spl, if_neg h]
      cases hs : spl 32 l with
      | nil => exact absurd hs (spl_ne 32 l)
      | cons p ps => simp [prep]
theorem splB_all (l : List UInt8) : splB [] [] l = spl 32 l := by
  rw [splB_eq]
  cases hs : spl 32 l with
  | nil => exact absurd hs (spl_ne 32 l)
  | cons p ps => rfl
theorem infoStr : (Tryd.prog.info? 9).map (fun i => (i.zero, i.size, i.bytes)) = some (some (.string ⟨#[]⟩), 1, 16) := by kernel_rfl
/-- The last text of a row of one's own. -/
theorem OwnT_last {W : World} {base : Nat} {v : Value} {ws : List (List UInt8)} {cur : List UInt8} (h : OwnE encT 9 1 W base v (ws ++ [cur])) :
    ∃ g cap, v = .slice (some ⟨g, 0, none⟩) (ws.length + 1) cap ∧ base ≤ g ∧ W.cell? ⟨g, ws.length, none⟩ = some (.string ⟨cur.toArray⟩) ∧ W.frozen? ⟨g, ws.length, none⟩ = false ∧
      ∀ cur' : List UInt8, OwnE encT 9 1 (W.setCell ⟨g, ws.length, none⟩ (.string ⟨cur'.toArray⟩)) base v (ws ++ [cur']) := by
  obtain ⟨h1, ⟨_, h3⟩ | ⟨g, cap, cells, rfl, hb, hh, hc, hm, hs, ht⟩⟩ := h
  · simp at h3
  · have hlen : (ws ++ [cur]).length = ws.length + 1 := by simp
    rw [hlen] at hc ht
    have hfl : (ws ++ [cur]).flatMap encT = (ws.map fun l => Value.string ⟨l.toArray⟩) ++ [.string ⟨cur.toArray⟩] := by rw [encT_flat]; simp
    rw [hfl, Nat.mul_one] at ht
    have hsz : ws.length < cells.size := by omega
    have hget : cells[ws.length]? = some (.string ⟨cur.toArray⟩) := by
      have : (cells.toList.take (ws.length + 1))[ws.length]? = some (.string ⟨cur.toArray⟩) := by rw [ht]; simp
      rw [List.getElem?_take_of_lt (by omega)] at this
      simpa using this
    refine ⟨g, cap, by rw [hlen], hb, by rw [cell_blk hh, hget], by simp [World.frozen?, hh], fun cur' => ⟨by rw [encT_flat]; simp, .inr ⟨g, cap, cells.setIfInBounds ws.length (.string ⟨cur'.toArray⟩), by rw [hlen]; simp, hb, heap_setCell_self _ hh, by simp; omega, hm, by simpa using hs, ?_⟩⟩⟩
    have hfl' : (ws ++ [cur']).flatMap encT = (ws.map fun l => Value.string ⟨l.toArray⟩) ++ [.string ⟨cur'.toArray⟩] := by rw [encT_flat]; simp
    rw [hfl', List.length_append, List.length_singleton, Nat.mul_one]
    have h2 : cells.toList.take ws.length = ws.map fun l => Value.string ⟨l.toArray⟩ := by
      have := congrArg (List.take ws.length) ht
      rw [List.take_take, Nat.min_eq_left (by omega), List.take_left' (by simp)] at this
      exact this
    rw [Array.toList_setIfInBounds, List.take_set, List.take_succ_eq_append_getElem (by simpa using hsz), h2, List.set_append_right _ _ (by simp)]
    simp
theorem one_text {w : World} {x : List UInt8} {T : TypeId} {b : Nat} (hg : w.heap[b]? = some (.cells #[.string ⟨x.toArray⟩] T (0, 0))) : SlAt encT 1 w (some ⟨b, 0, none⟩) [x] := by
  intro i hi
  obtain rfl : i = 0 := by simp at hi; omega
  exact ⟨_, _, rfl, lt_heap hg, fun j v hv => by
    cases j with
    | zero => simp only [encT, List.getElem_cons_zero, List.getElem?_cons_zero, Option.some.injEq] at hv; subst hv; rw [cell_blk hg]; rfl
    | succ j => simp [encT] at hv⟩
theorem own_one {w : World} {x : List UInt8} {base : Nat} (hb : base ≤ w.heap.size) : OwnE encT 9 1 (w.alloc (.cells #[.string ⟨x.toArray⟩] 9)) base (.slice (some ⟨w.heap.size, 0, none⟩) 1 1) [x] :=
  ⟨rfl, .inr ⟨w.heap.size, 1, #[.string ⟨x.toArray⟩], rfl, hb, heap_alloc_new _ _, Nat.le_refl _, by unfold maxLen; omega, rfl, rfl⟩⟩
set_option maxRecDepth 100000 in
set_option maxHeartbeats 8000000 in
theorem refSplit_any (l : List UInt8) (w : World) (hl : l.length ≤ 1000000) :
    Calls Tryd.prog 43 #[.string ⟨l.toArray⟩] w fun e w' => ∃ v, e = .returned v ∧ OwnE encT 9 1 w' w.heap.size v (spl 32 l) ∧ Below w.heap.size w w' := by
  have hs := ba_size l
  have HO0 : Hid (OwnE encT 9 1 (w.alloc (.cells #[.string ⟨#[]⟩] 9)) w.heap.size (.slice (some ⟨w.heap.size, 0, none⟩) 1 1) [[]]) := own_one (Nat.le_refl _)
  have HB0 : Hid (Below w.heap.size w (w.alloc (.cells #[.string ⟨#[]⟩] 9))) := below_alloc1 _ _
  go_enter Tryd.func43, Tryd.ntmps43
  go_wp2_with fail
  generalize w.alloc (.cells #[.string ⟨#[]⟩] 9) = W0 at *
  go_loopw [3, 4] (fun v i wr => ∃ (k : Nat) (ws : List (List UInt8)) (cur : List UInt8), k ≤ l.length ∧ i = .int .i64 k ∧ ws.length ≤ k ∧ cur.length ≤ k ∧ Hid (OwnE encT 9 1 wr w.heap.size v (ws ++ [cur])) ∧ Hid (Below w.heap.size w wr) ∧ Hid (splB ws cur (l.drop k) = spl 32 l)) (fun _ i _ => l.length - (intOf i).toNat)
  case atStart => exact ⟨0, [], [], Nat.zero_le _, rfl, Nat.zero_le _, Nat.zero_le _, HO0.out, HB0.out, splB_all l⟩
  case round =>
    obtain ⟨k, ws, cur, hk, rfl, hwk, hck, HO, HB, HP⟩ := hrel
    clear HO0 HB0
    by_cases hlt : k < l.length
    · have hli : (k : Int) < l.length := by omega
      have hix : ∀ W, (Instr.index 9 (.string ⟨l.toArray⟩) (.int .i64 (k : Int))).run Tryd.prog W = .ok (.int .u8 ((l[k]).toNat : Int)) W := fun W => ix_any l k hlt W
      have hex : (⟨l.toArray⟩ : ByteArray).extract k (k + 1) = ⟨#[l[k]]⟩ := by
        rw [← ba_data ((⟨l.toArray⟩ : ByteArray).extract k (k + 1)), Lib.extract_data]
        show (⟨((l.drop k).take (k + 1 - k)).toArray⟩ : ByteArray) = _
        rw [List.drop_eq_getElem_cons hlt, show k + 1 - k = 1 by omega]; rfl
      have HP2 := Lib.hid HP.out
      rw [List.drop_eq_getElem_cons hlt] at HP2
      clear HP
      generalize l[k] = c at *
      by_cases hc : c = 32
      · subst hc
        have HP3 : Hid (splB (ws ++ [cur]) [] (l.drop (k + 1)) = spl 32 l) := by show _ = _; rw [← HP2.out]; conv => rhs; rw [splB, if_pos rfl]
        have hu : (((32 : UInt8).toNat : Int)) = 32 := rfl
        rw [hu] at hix
        clear HP2
        have HOA : Hid (OwnE encT 9 1 (wr.alloc (.cells #[.string ⟨#[]⟩] 9)) w.heap.size u3 (ws ++ [cur])) := HO.out.below (below_alloc1 _ _)
        have HBA : Hid (Below w.heap.size w (wr.alloc (.cells #[.string ⟨#[]⟩] 9))) := HB.out.alloc HB.out.size _
        have hlv : (ws ++ [cur]).length ≤ 1000001 := by rw [List.length_append, List.length_singleton]; omega
        go_wp2_with (refine wl_app rfl 75 9 16 (.string ⟨#[]⟩) Tryd.underlying75 infoStr rfl (by omega) encT_len encT_one _ _ rfl w.heap.size u3 (ws ++ [cur]) rfl HOA.out (some ⟨wr.heap.size, 0, none⟩) 1 1 [[]] rfl rfl (one_text (heap_alloc_new _ _)) (fun e => by cases e) (by omega) (by unfold maxLen; omega) HBA.out.size (fun v' wA hoA hgA _ => ?_); have HOB := Lib.hid hoA; have HBB := Lib.hid (HBA.out.trans (grown_below hgA (fun g hg => (HOA.out.lt g hg).1) HBA.out.size)); clear hoA hgA)
        go_roundw
        case rel => exact ⟨k + 1, ws ++ [cur], [], by omega, by go_num, by rw [List.length_append, List.length_singleton]; omega, by simp, HOB.out, HBB.out, HP3.out⟩
        case measure => simp [intOf]; omega
      · have HP3 : Hid (splB ws (cur ++ [c]) (l.drop (k + 1)) = spl 32 l) := by show _ = _; rw [← HP2.out]; conv => rhs; rw [splB, if_neg hc]
        have hcb : ((c.toNat : Int) == 32) = false := by
          rw [beq_eq_false_iff_ne]; intro e
          exact hc (UInt8.toNat_inj.1 (show c.toNat = 32 by omega))
        obtain ⟨g, cap, rfl, hgb, hcell, hfz, hset⟩ := OwnT_last HO.out
        have HSet := Lib.hid (hset (cur ++ [c]))
        rw [show (⟨(cur ++ [c]).toArray⟩ : ByteArray) = ⟨cur.toArray⟩ ++ ⟨#[c]⟩ from ba_cat] at HSet
        have hz1 := ba_size cur
        have hz2 : (⟨#[c]⟩ : ByteArray).size = 1 := rfl
        generalize (⟨cur.toArray⟩ : ByteArray) = CU at *
        generalize (⟨#[c]⟩ : ByteArray) = CC at *
        have hzz : ¬ 9223372036854775807 < CU.size + CC.size := by omega
        clear hz1 hz2
        have hww : ((ws.length : Int) + 1 - 1) = (ws.length : Int) := by omega
        have hwi : ((ws.length : Int)) < (ws.length : Int) + 1 := by omega
        have hki : 0 ≤ (k : Int) + 1 := by omega
        have hwr : IntKind.i64.wrap (ws.length : Int) = ws.length := by simp [IntKind.wrap, IntKind.bits, IntKind.signed]; omega
        have hkr : IntKind.i64.wrap ((k : Int) + 1) = (k : Int) + 1 := by simp [IntKind.wrap, IntKind.bits, IntKind.signed]; omega
        have hkl : (k : Int) + 1 ≤ l.length := by omega
        have hkk : (k : Int) ≤ (k : Int) + 1 := by omega
        clear hset HO HP2 hc
        go_upto_region 7 with fail
        go_still_tail 17, (by kernel_rfl)
        go_wp2_with fail
        go_roundw
        case rel => exact ⟨k + 1, ws, cur ++ [c], by omega, by go_num, by omega, by rw [List.length_append, List.length_singleton]; omega, HSet.out.below ⟨rfl, rfl, rfl, Nat.le_refl _, fun _ _ => rfl⟩, (HB.out.setCell (p := ⟨g, ws.length, none⟩) hgb _).trans ⟨rfl, rfl, rfl, Nat.le_refl _, fun _ _ => rfl⟩, HP3.out⟩
        case measure => simp [intOf]; omega
    · obtain rfl : k = l.length := by omega
      have HP3 : Hid (ws ++ [cur] = spl 32 l) := by show _ = _; rw [← HP.out, List.drop_length]; rfl
      go_wp2_with fail
      go_ret
      exact ⟨_, rfl, by rw [← HP3.out]; exact HO.out, HB.out⟩
end Go.Proofs.YtmbbhnbfgcmkgaaDoor
