/- Chapter 05's document on tags (texts of wip/T05, printed by gTG.py). -/
import Derived.Test.YtagdedjclbmlkaaTG2
namespace Go.Proofs.Ytagdedjclbmlkaa.Tg
open Go.RowKit
theorem sizTag : (Try.prog.info? 28).map (·.size) = some 10 := by kernel_rfl
section
variable {ops : Array Oper} {rest : List Oper} {o : Oper} {a : Act} {w : World} {Q : Exit → Act → World → Prop}
theorem st_T (hgd : o.guard = none) (x y : Operand) (ho : o.op = .store 28 x y) (g : Nat) (e old : List UInt8) (he : e.length = 10) (hold : old.length = 10) (T' : TypeId)
    (hx : a.eval x = .pointer (some ⟨g, 0, none⟩)) (hy : a.eval y = .agg (bC e)) (hg : w.heap[g]? = some (.cells (bC old) T'))
    (h : wpList Try.prog ops Q rest (a.put o.dst undef) (w.setRow g (bC e))) : wpList Try.prog ops Q (o :: rest) a w :=
  wl_str hgd _ x y ho g _ (bC old) T' (by rw [sizTag, bC_size, he]) (by rw [bC_size, bC_size, he, hold]) (bC_one e) hx hy hg h
theorem ld_T (hw : Region.wanted o (yielded ops a.tmps) = true) (x : Operand) (ho : o.op = .load 28 x) (g : Nat) (l : List UInt8) (hl : l.length = 10) (hx : a.eval x = .pointer (some ⟨g, 0, none⟩)) (hg : w.heap[g]? = some (.cells (bC l) 28 (0, 0)))
    (h : wpList Try.prog ops Q rest (a.put o.dst (.agg (bC l))) w) : wpList Try.prog ops Q (o :: rest) a w :=
  wl_ldr hw _ x ho g 0 (bC l).toList _ Try.underlying28 rfl (by rw [sizTag]; simp [bC, hl]) hx (range_whole (by simpa using hg)) (by simpa using h)
end
end Go.Proofs.Ytagdedjclbmlkaa.Tg
/- The document's pad. -/
namespace Go.Proofs.Ytagdedjclbmlkaa.Tg
open Go.RowKit

def padK (n : Nat) (l : List UInt8) (k : Nat) : List UInt8 := l.take k ++ List.replicate (n - k) 0
theorem padK_next (n : Nat) (l : List UInt8) (k : Nat) (hk : k < l.length) (hn : k < n) : (padK n l k).set k l[k] = padK n l (k + 1) := by
  unfold padK
  apply List.ext_getElem?
  intro i
  rw [List.getElem?_set]
  by_cases e : k = i
  · subst e
    rw [if_pos rfl, if_pos (by simp; omega), List.getElem?_append_left (by simp; omega), List.getElem?_take_of_lt (by omega)]
    simp [hk]
  · rw [if_neg e]
    by_cases hi : i < k
    · rw [List.getElem?_append_left (by simp; omega), List.getElem?_append_left (by simp; omega), List.getElem?_take_of_lt hi, List.getElem?_take_of_lt (by omega)]
    · rw [List.getElem?_append_right (by simp; omega), List.getElem?_append_right (by simp; omega), List.length_take, List.length_take, List.getElem?_replicate, List.getElem?_replicate]
      by_cases h10 : i < n
      · rw [if_pos (by omega), if_pos (by omega)]
      · rw [if_neg (by omega), if_neg (by omega)]
theorem padK_full {n : Nat} {l : List UInt8} (h : l.length ≤ n) : padK n l l.length = padTo n l := by
  have _ := h
  unfold padK padTo
  rw [List.take_of_length_le (Nat.le_refl _)]
theorem padK_len {n : Nat} {l : List UInt8} {k : Nat} (_ : k ≤ l.length) (_ : k ≤ n) : (padK n l k).length = n := by
  unfold padK; simp; omega
set_option maxRecDepth 100000 in
set_option maxHeartbeats 2000000 in
theorem pad_3 (l : List UInt8) (w : World) (hl : l.length ≤ 3) :
    Calls Try.prog 66 #[.string ⟨l.toArray⟩, .int .i64 3] w fun e w' => e = .returned (.slice (some ⟨w.heap.size, 0, none⟩) 3 3) ∧ w' = w.alloc (.cells (bC (padTo 3 l)) 5) := by
  have HF := Lib.hid (padK_full hl)
  have hmk : ∀ W : World, (Instr.makeSlice 109 (.int .i64 3) (.int .i64 3)).run Try.prog W = .ok (.slice (some ⟨W.heap.size, 0, none⟩) 3 3) (W.alloc (.cells (bC (padK 3 l 0)) 5)) := fun W => by kernel_rfl
  go_enter Try.func66, Try.ntmps66
  go_wp2_with fail
  clear hmk
  go_loopw [6] (fun i wr => ∃ k : Nat, k ≤ l.length ∧ i = .int .i64 k ∧ wr = w.alloc (.cells (bC (padK 3 l k)) 5)) (fun i _ => l.length - (intOf i).toNat)
  case atStart => exact ⟨0, by omega, rfl, rfl⟩
  case round =>
    obtain ⟨k, hk, rfl, rfl⟩ := hrel
    by_cases hlt : k < l.length
    · have hkn : (k : Int) < 3 := by omega
      have hkn' : k < 3 := by omega
      have HJ := Lib.hid (padK_next 3 l k hlt hkn')
      have hc := bC_get (padK 3 l k) k (by rw [padK_len hk (by omega)]; omega)
      have hs : (⟨l.toArray⟩ : ByteArray).size = l.length := ba_size l
      go_wp2_with fail
      go_roundw
      case rel => exact ⟨k + 1, by omega, by go_num, by rw [← HJ.out, ← bC_set]; rfl⟩
      case measure => simp [intOf]; omega
    · obtain rfl : k = l.length := by omega
      have hs : (⟨l.toArray⟩ : ByteArray).size = l.length := ba_size l
      go_wp2_with fail
      go_ret
      exact ⟨rfl, by rw [HF.out]⟩
set_option maxRecDepth 100000 in
set_option maxHeartbeats 2000000 in
theorem pad_4 (l : List UInt8) (w : World) (hl : l.length ≤ 4) :
    Calls Try.prog 66 #[.string ⟨l.toArray⟩, .int .i64 4] w fun e w' => e = .returned (.slice (some ⟨w.heap.size, 0, none⟩) 4 4) ∧ w' = w.alloc (.cells (bC (padTo 4 l)) 5) := by
  have HF := Lib.hid (padK_full hl)
  have hmk : ∀ W : World, (Instr.makeSlice 109 (.int .i64 4) (.int .i64 4)).run Try.prog W = .ok (.slice (some ⟨W.heap.size, 0, none⟩) 4 4) (W.alloc (.cells (bC (padK 4 l 0)) 5)) := fun W => by kernel_rfl
  go_enter Try.func66, Try.ntmps66
  go_wp2_with fail
  clear hmk
  go_loopw [6] (fun i wr => ∃ k : Nat, k ≤ l.length ∧ i = .int .i64 k ∧ wr = w.alloc (.cells (bC (padK 4 l k)) 5)) (fun i _ => l.length - (intOf i).toNat)
  case atStart => exact ⟨0, by omega, rfl, rfl⟩
  case round =>
    obtain ⟨k, hk, rfl, rfl⟩ := hrel
    by_cases hlt : k < l.length
    · have hkn : (k : Int) < 4 := by omega
      have hkn' : k < 4 := by omega
      have HJ := Lib.hid (padK_next 4 l k hlt hkn')
      have hc := bC_get (padK 4 l k) k (by rw [padK_len hk (by omega)]; omega)
      have hs : (⟨l.toArray⟩ : ByteArray).size = l.length := ba_size l
      go_wp2_with fail
      go_roundw
      case rel => exact ⟨k + 1, by omega, by go_num, by rw [← HJ.out, ← bC_set]; rfl⟩
      case measure => simp [intOf]; omega
    · obtain rfl : k = l.length := by omega
      have hs : (⟨l.toArray⟩ : ByteArray).size = l.length := ba_size l
      go_wp2_with fail
      go_ret
      exact ⟨rfl, by rw [HF.out]⟩
end Go.Proofs.Ytagdedjclbmlkaa.Tg
/- The document's Bytes. -/
namespace Go.Proofs.Ytagdedjclbmlkaa.Tg
open Go.RowKit

theorem own_bytes (w : World) (l : List UInt8) (n : Nat) (base : Nat) (hn : l.length = n) (hb : base ≤ w.heap.size) (hm : n ≤ 1000000) : OwnE enc1 5 1 (w.alloc (.cells (bC l) 5)) base (.slice (some ⟨w.heap.size, 0, none⟩) n n) l := by
  subst hn
  have hm : l.length ≤ maxLen := by unfold maxLen; omega
  refine ⟨by rw [enc1_flat]; simp [bC], Or.inr ⟨w.heap.size, l.length, bC l, rfl, hb, heap_alloc_new _ _, Nat.le_refl _, hm, by simp [bC], ?_⟩⟩
  rw [enc1_flat]
  simp only [bC, List.toList_toArray]
  exact List.take_of_length_le (by simp)
set_option maxRecDepth 100000 in
set_option maxHeartbeats 4000000 in
theorem refBytes_any (t : T3) (w : World) (hl : t.lang.length ≤ 3) (hs : t.script.length ≤ 4) (hr : t.region.length ≤ 3) :
    Calls Try.prog 54 #[.agg (tC t)] w fun e w' => e = .returned (.agg (bC (bytT t))) ∧ Below w.heap.size w w' := by
  have HBT : Hid (bytT t = padTo 3 t.lang ++ padTo 4 t.script ++ padTo 3 t.region) := rfl
  have HP1 : Hid (∀ W : World, Calls Try.prog 66 #[.string ⟨t.lang.toArray⟩, .int .i64 3] W fun e w' => e = .returned (.slice (some ⟨W.heap.size, 0, none⟩) 3 3) ∧ w' = W.alloc (.cells (bC (padTo 3 t.lang)) 5)) := fun W => pad_3 _ W hl
  have HP2 : Hid (∀ W : World, Calls Try.prog 66 #[.string ⟨t.script.toArray⟩, .int .i64 4] W fun e w' => e = .returned (.slice (some ⟨W.heap.size, 0, none⟩) 4 4) ∧ w' = W.alloc (.cells (bC (padTo 4 t.script)) 5)) := fun W => pad_4 _ W hs
  have HP3 : Hid (∀ W : World, Calls Try.prog 66 #[.string ⟨t.region.toArray⟩, .int .i64 3] W fun e w' => e = .returned (.slice (some ⟨W.heap.size, 0, none⟩) 3 3) ∧ w' = W.alloc (.cells (bC (padTo 3 t.region)) 5)) := fun W => pad_3 _ W hr
  have L1 : Hid ((padTo 3 t.lang).length = 3) := padTo_len hl
  have L2 : Hid ((padTo 4 t.script).length = 4) := padTo_len hs
  have L3 : Hid ((padTo 3 t.region).length = 3) := padTo_len hr
  generalize padTo 3 t.lang = p1 at *
  generalize padTo 4 t.script = p2 at *
  generalize padTo 3 t.region = p3 at *
  go_enter Try.func54, Try.ntmps54
  go_upto_region 2 with fail
  have htc : Hid (tag0.length = 10) := rfl
  rw [show (Obj.cells #[Value.int IntKind.u8 0, Value.int IntKind.u8 0, Value.int IntKind.u8 0, Value.int IntKind.u8 0, Value.int IntKind.u8 0, Value.int IntKind.u8 0, Value.int IntKind.u8 0, Value.int IntKind.u8 0, Value.int IntKind.u8 0, Value.int IntKind.u8 0] 38) = Obj.cells (bC tag0) 38 from rfl]
  have HG0 : Hid ((((w.alloc (.cells (tC t) 102)).alloc (.cells (bC tag0) 38)).alloc (.cells (bC tag0) 38)).heap[w.heap.size]? = some (.cells (tC t) 102 (0, 0))) := by
    show _ = _; rw [heap_alloc_old _ _ (by simp; omega)]; exact heap_alloc2_old _ _ _
  have HG1 : Hid ((((w.alloc (.cells (tC t) 102)).alloc (.cells (bC tag0) 38)).alloc (.cells (bC tag0) 38)).heap[w.heap.size + 1]? = some (.cells (bC tag0) 38 (0, 0))) := by
    show _ = _; rw [heap_alloc_old _ _ (by simp)]; exact heap_alloc2_new _ _ _
  have HG2 : Hid ((((w.alloc (.cells (tC t) 102)).alloc (.cells (bC tag0) 38)).alloc (.cells (bC tag0) 38)).heap[w.heap.size + 1 + 1]? = some (.cells (bC tag0) 38 (0, 0))) := by
    show _ = _; have := heap_alloc_new ((w.alloc (.cells (tC t) 102)).alloc (.cells (bC tag0) 38)) (.cells (bC tag0) 38); simpa using this
  have HB1 : Hid (Below w.heap.size w (((w.alloc (.cells (tC t) 102)).alloc (.cells (bC tag0) 38)).alloc (.cells (bC tag0) 38))) := (below_alloc2 _ _ _).alloc (by simp; omega) _
  generalize (((w.alloc (.cells (tC t) 102)).alloc (.cells (bC tag0) 38)).alloc (.cells (bC tag0) 38)) = W1 at *
  have hlt := lt_heap HG0.out
  have hlt2 := lt_heap HG2.out
  refine wp_region_held_drew (S := fun w' => Below W1.heap.size W1 w') (by kernel_rfl) (Below.refl _ _).drew (fun hH => ?_)
  show wpAnyH Try.prog Region.Mode.any _ _ _ 12 #[false, false, false, false, false, false, false, false, false, false, false, false] _ _
  refine takeD (i := 0) (v := .pointer (some ⟨w.heap.size, 0, none⟩)) 6 rfl rfl (by kernel_rfl) (by kernel_rfl) (by kernel_rfl) (fun _ _ _ h => h) (Or.inl ⟨rfl, fun w' hS => (by go_simp)⟩) hH ?_
  simp only [Act.put, List.setIfInBounds_toArray, List.set_cons_zero, List.set_cons_succ]
  refine takeD (i := 3) (v := .pointer (some ⟨w.heap.size, 1, none⟩)) 9 rfl rfl (by kernel_rfl) (by kernel_rfl) (by kernel_rfl) (fun _ _ _ h => h) (Or.inl ⟨rfl, fun w' hS => (by go_simp)⟩) hH ?_
  simp only [Act.put, List.setIfInBounds_toArray, List.set_cons_zero, List.set_cons_succ]
  refine takeD (i := 7) (v := .pointer (some ⟨w.heap.size, 2, none⟩)) 13 rfl rfl (by kernel_rfl) (by kernel_rfl) (by kernel_rfl) (fun _ _ _ h => h) (Or.inl ⟨rfl, fun w' hS => (by go_simp)⟩) hH ?_
  simp only [Act.put, List.setIfInBounds_toArray, List.set_cons_zero, List.set_cons_succ]
  have hcell : ∀ w', Below W1.heap.size W1 w' → w'.cell? ⟨w.heap.size, 0, none⟩ = some (.string ⟨t.lang.toArray⟩) ∧ w'.cell? ⟨w.heap.size, 1, none⟩ = some (.string ⟨t.script.toArray⟩) ∧ w'.cell? ⟨w.heap.size, 2, none⟩ = some (.string ⟨t.region.toArray⟩) := fun w' hb => by
    have hx : w'.heap[w.heap.size]? = some (.cells (tC t) 102 (0, 0)) := by rw [hb.block _ hlt]; exact HG0.out
    rw [cell_blk hx, cell_blk hx, cell_blk hx]; exact ⟨rfl, rfl, rfl⟩
  have HCell := Lib.hid hcell
  clear hcell
  refine takeD (i := 1) (v := .string ⟨t.lang.toArray⟩) 7 rfl rfl (by kernel_rfl) (by kernel_rfl) (by kernel_rfl) (fun _ _ _ h => h) (Or.inl ⟨rfl, fun w' hS => (by have hc := (HCell.out w' hS).1; clear HCell; go_simp)⟩) hH ?_
  simp only [Act.put, List.setIfInBounds_toArray, List.set_cons_zero, List.set_cons_succ]
  refine takeD (i := 4) (v := .string ⟨t.script.toArray⟩) 10 rfl rfl (by kernel_rfl) (by kernel_rfl) (by kernel_rfl) (fun _ _ _ h => h) (Or.inl ⟨rfl, fun w' hS => (by have hc := (HCell.out w' hS).2.1; clear HCell; go_simp)⟩) hH ?_
  simp only [Act.put, List.setIfInBounds_toArray, List.set_cons_zero, List.set_cons_succ]
  refine takeD (i := 8) (v := .string ⟨t.region.toArray⟩) 14 rfl rfl (by kernel_rfl) (by kernel_rfl) (by kernel_rfl) (fun _ _ _ h => h) (Or.inl ⟨rfl, fun w' hS => (by have hc := (HCell.out w' hS).2.2; clear HCell; go_simp)⟩) hH ?_
  simp only [Act.put, List.setIfInBounds_toArray, List.set_cons_zero, List.set_cons_succ]
  refine wpAnyH_ready (rs := [2]) (by kernel_rfl) (by simp) ?_
  refine AllReadyH.cons rfl (fun K hK => ?_) AllReadyH.nil
  refine stI rfl ?_
  go_wp2_with (go_at_call 66; (refine (HP1.out _).mono ?_); rintro e w2 ⟨rfl, rfl⟩)
  have HO2 : Hid (OwnE enc1 5 1 (W1.alloc (.cells (bC p1) 5)).drew W1.heap.size (.slice (some ⟨W1.heap.size, 0, none⟩) 3 3) p1) := (own_bytes W1 p1 3 _ L1.out (Nat.le_refl _) (by omega)).below (Below.refl _ _).drew
  have hS2 : Below W1.heap.size W1 (W1.alloc (.cells (bC p1) 5)).drew := ((Below.refl _ _).alloc (Nat.le_refl _) _).drew
  refine hK.out _ _ hS2 (fun hH2 => ?_)
  clear hK K hS2 hH
  have HH2 := Lib.hid hH2
  generalize (W1.alloc (.cells (bC p1) 5)).drew = w2 at *
  simp only [List.setIfInBounds_toArray, List.set_cons_zero, List.set_cons_succ]
  refine wpAnyH_ready (rs := [5]) (by kernel_rfl) (by simp) ?_
  refine AllReadyH.cons rfl (fun K hK => ?_) AllReadyH.nil
  refine stI rfl ?_
  go_wp2_with (go_at_call 66; (refine (HP2.out _).mono ?_); rintro e w3 ⟨rfl, rfl⟩)
  have HO3 := Lib.hid (HO2.out.below (below_alloc1 w2 (.cells (bC p2) 5)))
  have HQ3 : Hid (SlAt enc1 1 (w2.alloc (.cells (bC p2) 5)) (some ⟨w2.heap.size, 0, none⟩) p2) := by
    obtain ⟨q, cap, hv, _, _, hsl, _⟩ := (own_bytes w2 p2 4 w2.heap.size L2.out (Nat.le_refl _) (by omega)).at enc1_len
    simp only [Value.slice.injEq] at hv
    rw [hv.1]; exact hsl
  have hS3 : Below W1.heap.size W1 (w2.alloc (.cells (bC p2) 5)) := hH2.alloc hH2.size _
  refine hK.out _ _ hS3 (fun hH3 => ?_)
  clear hK K hS3 hH2 HO2
  generalize (w2.alloc (.cells (bC p2) 5)) = w3 at *
  simp only [List.setIfInBounds_toArray, List.set_cons_zero, List.set_cons_succ]
  refine wpAnyH_ready (rs := [6]) (by kernel_rfl) (by simp) ?_
  refine AllReadyH.cons rfl (fun K hK => ?_) AllReadyH.nil
  refine stI rfl ?_
  refine op_app 109 5 1 (.int .u8 0) Try.underlying109 infoU8 rfl (by omega) enc1_len enc1_one (.tmp 8) (.tmp 11) rfl W1.heap.size (.slice (some ⟨W1.heap.size, 0, none⟩) 3 3) p1 rfl HO3.out (some ⟨w2.heap.size, 0, none⟩) 4 4 p2 rfl L2.out HQ3.out (fun h => by cases h) (by rw [L1.out]; omega) (by rw [L1.out]; unfold maxLen; omega) hH3.size (fun v4 w4 ho4 hg4 _ => ?_)
  have HO4 := Lib.hid ho4
  have hS4 : Below W1.heap.size W1 w4 := hH3.trans ((grown_below hg4 (fun g hg => by simp [Value.ownBlock] at hg; omega) hH3.size))
  refine hK.out _ _ hS4 (fun hH4 => ?_)
  clear hK K hS4 hH3 HO3 HQ3 ho4 hg4 HH2
  simp only [Act.put, List.setIfInBounds_toArray, List.set_cons_zero, List.set_cons_succ]
  refine wpAnyH_ready (rs := [9]) (by kernel_rfl) (by simp) ?_
  refine AllReadyH.cons rfl (fun K hK => ?_) AllReadyH.nil
  refine stI rfl ?_
  obtain ⟨q4, c4, rfl, _, _, _, _⟩ := HO4.out.at enc1_len
  go_wp2_with (go_at_call 66; (refine (HP3.out _).mono ?_); rintro e w5 ⟨rfl, rfl⟩)
  have HO5 := Lib.hid (HO4.out.below (below_alloc1 w4 (.cells (bC p3) 5)))
  rw [List.length_append] at HO5
  have HQ5 : Hid (SlAt enc1 1 (w4.alloc (.cells (bC p3) 5)) (some ⟨w4.heap.size, 0, none⟩) p3) := by
    obtain ⟨q, cap, hv, _, _, hsl, _⟩ := (own_bytes w4 p3 3 w4.heap.size L3.out (Nat.le_refl _) (by omega)).at enc1_len
    simp only [Value.slice.injEq] at hv
    rw [hv.1]; exact hsl
  have hS5 : Below W1.heap.size W1 (w4.alloc (.cells (bC p3) 5)) := hH4.alloc hH4.size _
  refine hK.out _ _ hS5 (fun hH5 => ?_)
  clear hK K hS5 hH4 HO4
  generalize (w4.alloc (.cells (bC p3) 5)) = w5 at *
  simp only [List.setIfInBounds_toArray, List.set_cons_zero, List.set_cons_succ]
  refine wpAnyH_ready (rs := [10]) (by kernel_rfl) (by simp) ?_
  refine AllReadyH.cons rfl (fun K hK => ?_) AllReadyH.nil
  refine stI rfl ?_
  refine op_app 109 5 1 (.int .u8 0) Try.underlying109 infoU8 rfl (by omega) enc1_len enc1_one (.tmp 12) (.tmp 15) rfl W1.heap.size (.slice q4 (p1.length + p2.length) c4) (p1 ++ p2) rfl HO5.out (some ⟨w4.heap.size, 0, none⟩) 3 3 p3 rfl L3.out HQ5.out (fun h => by cases h) (by rw [List.length_append, L1.out, L2.out]; omega) (by rw [List.length_append, L1.out, L2.out]; unfold maxLen; omega) hH5.size (fun v6 w6 ho6 hg6 _ => ?_)
  have HO6 := Lib.hid ho6
  have hS6 : Below W1.heap.size W1 w6 := hH5.trans ((grown_below hg6 (fun g hg => (HO5.out.lt g hg).1) hH5.size))
  refine hK.out _ _ hS6 (fun hH6 => ?_)
  clear hK K hS6 hH5 HO5 HQ5 ho6 hg6
  simp only [Act.put, List.setIfInBounds_toArray, List.set_cons_zero, List.set_cons_succ]
  refine takeD (i := 11) (v := v6) 4 rfl rfl (by kernel_rfl) (by kernel_rfl) (by kernel_rfl) (fun _ _ _ h => h) (Or.inl ⟨rfl, fun w' hS => rfl⟩) hH6 ?_
  simp only [Act.put, List.setIfInBounds_toArray, List.set_cons_zero, List.set_cons_succ]
  refine ⟨by kernel_rfl, ?_⟩
  have HH6 := Lib.hid hH6
  rw [← HBT.out] at HO6
  have HL10 : Hid ((bytT t).length = 10) := by show _ = _; rw [HBT.out, List.length_append, List.length_append, L1.out, L2.out, L3.out]
  clear hH6 HBT HP1 HP2 HP3 L1 L2 L3 HCell
  generalize hbt0 : bytT t = bt at *
  have HBt0 := Lib.hid hbt0
  clear hbt0
  obtain ⟨q6, c6, rfl, _, _, hsl6, hq6⟩ := HO6.out.at enc1_len
  rw [HL10.out]
  have HQ6 := Lib.hid hq6
  have HS6 := Lib.hid hsl6
  clear hq6 hsl6 HO6
  have HN2 : Hid (w6.heap[w.heap.size + 1 + 1]? = some (.cells (bC tag0) 38 (0, 0))) := by show _ = _; rw [HH6.out.block _ hlt2]; exact HG2.out
  have HN1 : Hid (w6.heap[w.heap.size + 1]? = some (.cells (bC tag0) 38 (0, 0))) := by show _ = _; rw [HH6.out.block _ (by omega)]; exact HG1.out
  have HW6 := Lib.hid (HB1.out.trans (HH6.out.mono HB1.out.size))
  have HZ6 : Hid (W1.heap.size ≤ w6.heap.size) := HH6.out.size
  clear HG0 HG1 HG2 HB1 HH6
  go_wp2_with fail
  go_loopw [5] (fun i wr => ∃ k : Nat, k ≤ 10 ∧ i = .int .i64 k ∧ Hid (Turn [w.heap.size + 1 + 1] w6 wr) ∧ Hid (wr.heap[w.heap.size + 1 + 1]? = some (.cells (bC (padK 10 bt k)) 38 (0, 0)))) (fun i _ => 10 - (intOf i).toNat)
  case atStart => exact ⟨0, by omega, rfl, Turn.refl _ _, HN2.out⟩
  case round =>
    obtain ⟨k, hk, rfl, HT, HP⟩ := hrel
    by_cases hlt : k < 10
    · have hlb : k < bt.length := by rw [HL10.out]; exact hlt
      obtain ⟨g, o, rfl, hg, hr⟩ := HS6.out k hlb
      obtain ⟨hg1, _⟩ := HQ6.out _ rfl
      have hgn : g ≠ w.heap.size + 1 + 1 := by simp only at hg1; omega
      have hc : wr.cell? ⟨g, o + k, none⟩ = some (.int .u8 (bt[k].toNat : Int)) := by
        have := hr 0 _ rfl
        rw [Nat.mul_one, Nat.add_zero] at this
        rw [cell_of (HT.out.block g hg (by simpa using hgn))]; exact this
      have hbt := byte_lt bt[k]
      have HJ := Lib.hid (padK_next 10 bt k hlb hlt)
      have hold : wr.cell? ⟨w.heap.size + 1 + 1, k, none⟩ = some (.int .u8 ((padK 10 bt k)[k]'(by rw [padK_len (by omega) hk]; exact hlt)).toNat) := by
        rw [cell_blk HP.out, bC_get]
      have hfr : wr.frozen? ⟨w.heap.size + 1 + 1, k, none⟩ = false := by simp [World.frozen?, HP.out]
      clear hr hg hg1
      go_wp2_with fail
      go_roundw
      case rel => exact ⟨k + 1, by omega, by go_num, HT.out.trans ((Turn.setCell _ _ _ _).mono (fun _ _ h => h)), by
        show _ = _
        rw [heap_setCell_self _ HP.out, ← HJ.out, ← bC_set]⟩
      case measure => simp [intOf]; omega
    · obtain rfl : k = 10 := by omega
      have HE : Hid (padK 10 bt 10 = bt) := by
        show _ = _
        rw [padK, List.take_of_length_le (by rw [HL10.out]; omega)]; simp
      rw [HE.out] at HP
      have hz6 := HZ6.out
      have hBw : Below w.heap.size w wr := HW6.out.trans (HT.out.below (fun b hb => by simp only [List.mem_singleton] at hb; omega) (by omega))
      have HN1r : Hid (wr.heap[w.heap.size + 1]? = some (.cells (bC tag0) 38 (0, 0))) := by show _ = _; rw [HT.out.block _ (lt_heap HN1.out) (by simp)]; exact HN1.out
      have siz10 : (Try.prog.info? 38).map (·.size) = some 10 := by kernel_rfl
      have hsz : (Try.prog.info? 38).map (·.size) = some (bC bt).size := by rw [siz10, bC_size, HL10.out]
      have Hsz := Lib.hid hsz
      clear siz10 hsz
      go_wp2_with (first
        | ((with_reducible refine gate_ld 38 _ rfl ?_); refine wl_ldr rfl _ _ rfl (w.heap.size + 1 + 1) 0 (bC bt).toList _ Try.underlying38 rfl (by rw [Hsz.out]; simp) rfl (range_whole (by simpa using HP.out)) ?_)
        | ((with_reducible refine gate_st 38 _ _ rfl ?_); refine wl_str rfl 38 _ _ rfl (w.heap.size + 1) (bC bt) (bC tag0) _ Hsz.out (by rw [bC_size, bC_size, HL10.out]; rfl) (bC_one _) rfl rfl HN1r.out ?_))
      refine bodyPost_ret (res_rowc (P := Try.prog) (T := 38) (T' := 38) rfl _ _ (w.heap.size + 1) (bC bt) (0, 0) rfl (setRow_at HN1r.out) Try.underlying38 rfl Hsz.out) rfl ⟨by rw [HBt0.out], setRow_below hBw (by omega) _⟩
end Go.Proofs.Ytagdedjclbmlkaa.Tg
/- The law's To: a tag, as the program's. -/
namespace Go.Proofs.Ytagdedjclbmlkaa.Tg
open Go.RowKit

theorem siz10A : (Try.prog.info? 38).map (·.size) = some 10 := by kernel_rfl
set_option maxRecDepth 100000 in
set_option maxHeartbeats 4000000 in
theorem to_any (t : T3) (w : World) (hl : t.lang.length ≤ 3) (hs : t.script.length ≤ 4) (hr : t.region.length ≤ 3) :
    Calls Try.prog 44 #[.agg (tC t)] w fun e w' => e = .returned (.agg (bC (bytT t))) ∧ Below w.heap.size w w' := by
  have HBy : Hid (∀ W : World, Calls Try.prog 54 #[.agg (tC t)] W fun e w' => e = .returned (.agg (bC (bytT t))) ∧ Below W.heap.size W w') := fun W => refBytes_any t W hl hs hr
  have H10 : Hid ((bytT t).length = 10) := by show (bytT t).length = 10; rw [bytT, List.length_append, List.length_append, padTo_len hl, padTo_len hs, padTo_len hr]
  have HG0 : Hid (((w.alloc (.cells (tC t) 102)).alloc (.cells (bC tag0) 28)).heap[w.heap.size]? = some (.cells (tC t) 102 (0, 0))) := heap_alloc2_old _ _ _
  have HG1 : Hid (((w.alloc (.cells (tC t) 102)).alloc (.cells (bC tag0) 28)).heap[w.heap.size + 1]? = some (.cells (bC tag0) 28 (0, 0))) := heap_alloc2_new _ _ _
  have HB1 : Hid (Below w.heap.size w ((w.alloc (.cells (tC t) 102)).alloc (.cells (bC tag0) 28))) := below_alloc2 _ _ _
  generalize bytT t = bt at *
  clear hl hs hr
  go_enter Try.func44, Try.ntmps44
  go_upto_region 1 with fail
  rw [show (Obj.cells #[Value.int IntKind.u8 0, Value.int IntKind.u8 0, Value.int IntKind.u8 0, Value.int IntKind.u8 0, Value.int IntKind.u8 0, Value.int IntKind.u8 0, Value.int IntKind.u8 0, Value.int IntKind.u8 0, Value.int IntKind.u8 0, Value.int IntKind.u8 0] 28) = Obj.cells (bC tag0) 28 from rfl]
  generalize ((w.alloc (.cells (tC t) 102)).alloc (.cells (bC tag0) 28)) = W1 at *
  go_upto_region 2 with (first
    | (with_reducible refine ld_R3 rfl _ rfl w.heap.size t rfl HG0.out ?_)
    | (go_at_call 54; (refine (HBy.out _).mono ?_); rintro e w2 ⟨rfl, hb2⟩; have HB2 := Lib.hid hb2; clear hb2)
    | ((with_reducible refine gate_st 38 _ _ rfl ?_); refine wl_strn rfl 38 _ _ rfl (bC bt) _ _ (by rw [siz10A, bC_size, H10.out]) (by rw [bC_size, H10.out]; rfl) (bC_one _) rfl rfl ?_))
  have HG3 : Hid ((w2.alloc (.cells (bC bt) 38)).heap[w2.heap.size]? = some (.cells (bC bt) 38 (0, 0))) := heap_alloc_new _ _
  have HB3 := Lib.hid ((HB1.out.trans (HB2.out.mono HB1.out.size)).alloc (HB1.out.trans (HB2.out.mono HB1.out.size)).size (.cells (bC bt) 38))
  have HN3 : Hid ((w2.alloc (.cells (bC bt) 38)).heap[w.heap.size + 1]? = some (.cells (bC tag0) 28 (0, 0))) := by
    show _ = _
    have hl1 := lt_heap HG1.out
    rw [heap_alloc_old _ _ (Nat.lt_of_lt_of_le hl1 HB2.out.size), HB2.out.block _ hl1]; exact HG1.out
  clear HG0 HG1 HB1 HB2 HBy
  generalize w2.alloc (.cells (bC bt) 38) = W3 at *
  have hlt : w2.heap.size < W3.heap.size := lt_heap HG3.out
  have hlt1 : w.heap.size + 1 < W3.heap.size := lt_heap HN3.out
  have hne : w2.heap.size ≠ W3.heap.size := by omega
  have HCt : Hid (∀ (j : Nat) (hj : j < bt.length), W3.cell? ⟨w2.heap.size, j, none⟩ = some (.int .u8 (bt[j].toNat : Int))) := fun j hj => by rw [cell_blk HG3.out, bC_get _ _ hj]
  have hz0 : bC (padK 10 bt 0) = #[.int .u8 0, .int .u8 0, .int .u8 0, .int .u8 0, .int .u8 0, .int .u8 0, .int .u8 0, .int .u8 0, .int .u8 0, .int .u8 0] := rfl
  have HZ0 := Lib.hid hz0
  clear hz0
  go_wp2_with fail
  rw [← HZ0.out]
  go_loopw [5] (fun i wr => ∃ j : Nat, j ≤ 10 ∧ i = .int .i64 j ∧ wr = W3.alloc (.cells (bC (padK 10 bt j)) 28)) (fun i _ => 10 - (intOf i).toNat)
  case atStart => exact ⟨0, by omega, rfl, rfl⟩
  case round =>
    obtain ⟨j, hj, rfl, rfl⟩ := hrel
    by_cases hl : j < 10
    · obtain ⟨tb, hjt, hct, hold⟩ : ∃ tb : UInt8, (bC (padK 10 bt j)).setIfInBounds j (.int .u8 (tb.toNat : Int)) = bC (padK 10 bt (j + 1)) ∧ W3.cell? ⟨w2.heap.size, j, none⟩ = some (.int .u8 (tb.toNat : Int)) ∧ (bC (padK 10 bt j))[j]? = some (.int .u8 0) := by
        have hlb : j < bt.length := by rw [H10.out]; exact hl
        refine ⟨bt[j], by rw [bC_set, padK_next 10 bt j hlb hl], HCt.out j hlb, ?_⟩
        rw [bC_get _ _ (by rw [padK_len (by omega) hj]; exact hl)]
        have : (padK 10 bt j)[j]'(by rw [padK_len (by omega) hj]; exact hl) = 0 := by
          unfold padK
          rw [List.getElem_append_right (by simp; omega)]
          simp
        rw [this]; rfl
      have HJ := Lib.hid hjt
      clear HCt hjt
      have bt' := byte_lt tb
      rcases (show j = 0 ∨ j = 1 ∨ j = 2 ∨ j = 3 ∨ j = 4 ∨ j = 5 ∨ j = 6 ∨ j = 7 ∨ j = 8 ∨ j = 9 by omega) with rfl | rfl | rfl | rfl | rfl | rfl | rfl | rfl | rfl | rfl
      all_goals
        simp only [Nat.reduceAdd] at hct hold HJ
        go_wp2_with fail
        go_roundw
        case rel => first | exact ⟨1, by omega, rfl, by rw [HJ.out]⟩ | exact ⟨2, by omega, rfl, by rw [HJ.out]⟩ | exact ⟨3, by omega, rfl, by rw [HJ.out]⟩ | exact ⟨4, by omega, rfl, by rw [HJ.out]⟩ | exact ⟨5, by omega, rfl, by rw [HJ.out]⟩ | exact ⟨6, by omega, rfl, by rw [HJ.out]⟩ | exact ⟨7, by omega, rfl, by rw [HJ.out]⟩ | exact ⟨8, by omega, rfl, by rw [HJ.out]⟩ | exact ⟨9, by omega, rfl, by rw [HJ.out]⟩ | exact ⟨10, by omega, rfl, by rw [HJ.out]⟩
        case measure => simp [intOf]
    · obtain rfl : j = 10 := by omega
      have HE : Hid (padK 10 bt 10 = bt) := by
        show _ = _
        rw [padK, List.take_of_length_le (by rw [H10.out]; omega)]; simp
      rw [HE.out]
      go_wp2_with (first
        | (with_reducible refine ld_T rfl _ rfl W3.heap.size bt H10.out rfl (heap_alloc_new _ _) ?_)
        | ((with_reducible refine gate_st 28 _ _ rfl ?_); refine st_T rfl _ _ rfl (w.heap.size + 1) bt tag0 H10.out rfl _ rfl rfl (by rw [heap_alloc_old _ _ hlt1]; exact HN3.out) ?_))
      refine bodyPost_ret (res_rowc (P := Try.prog) (T := 28) (T' := 28) rfl _ _ (w.heap.size + 1) (bC bt) (0, 0) rfl (setRow_at (old := bC tag0) (by rw [heap_alloc_old _ _ hlt1]; exact HN3.out)) Try.underlying28 rfl (by rw [sizTag, bC_size, H10.out])) rfl ⟨rfl, setRow_below (HB3.out.alloc HB3.out.size _) (by omega) _⟩
end Go.Proofs.Ytagdedjclbmlkaa.Tg
