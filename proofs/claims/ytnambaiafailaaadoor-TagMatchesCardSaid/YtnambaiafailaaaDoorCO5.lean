/- tag's Common. -/
import Derived.Test.YtnambaiafailaaaDoorMT5
namespace Go.Proofs.YtnambaiafailaaaDoor
open Go.RowKit

theorem mR_len (ks : List (List UInt8)) (xs : List B10) : (mR ks xs).length = 10 := by
  unfold mR
  cases xs.find? (inKs ks) with
  | none => rfl
  | some y => exact y.2
def coR (a b : B10) : List UInt8 := mR ((upX b).map (·.1)) (upX a)
set_option maxRecDepth 100000 in
set_option maxHeartbeats 8000000 in
theorem common_any (a b : B10) (w : World) (hmx : MX w) :
    Calls Tryd.prog 26 #[.agg (bC a.1), .agg (bC b.1)] w fun e w' => e = .returned (.agg (bC (coR a b))) ∧ Below w.heap.size w w' := by
  have HA1 : Hid ((((w.alloc (.cells (bC a.1) 29)).alloc (.cells (bC b.1) 29)).alloc (.cells (bC tag0) 29)).heap[w.heap.size]? = some (Obj.cells (bC a.1) 29 (0, 0))) := by show _ = _; rw [heap_alloc_old _ _ (by simp; omega)]; exact heap_alloc2_old _ _ _
  have HC1 : Hid ((((w.alloc (.cells (bC a.1) 29)).alloc (.cells (bC b.1) 29)).alloc (.cells (bC tag0) 29)).heap[w.heap.size + 1]? = some (Obj.cells (bC b.1) 29 (0, 0))) := by show _ = _; rw [heap_alloc_old _ _ (by simp)]; exact heap_alloc2_new _ _ _
  have HR1 : Hid ((((w.alloc (.cells (bC a.1) 29)).alloc (.cells (bC b.1) 29)).alloc (.cells (bC tag0) 29)).heap[w.heap.size + 2]? = some (Obj.cells (bC tag0) 29 (0, 0))) := by
    have := heap_alloc_new ((w.alloc (.cells (bC a.1) 29)).alloc (.cells (bC b.1) 29)) (.cells (bC tag0) 29)
    rw [World.size_alloc, World.size_alloc] at this; exact this
  have HB1 : Hid (Below w.heap.size w (((w.alloc (.cells (bC a.1) 29)).alloc (.cells (bC b.1) 29)).alloc (.cells (bC tag0) 29))) := (below_alloc2 _ _ _).alloc (by simp; omega) _
  go_enter Tryd.func26, Tryd.ntmps26
  go_upto_region 1 with fail
  rw [show (Obj.cells #[Value.int IntKind.u8 0, Value.int IntKind.u8 0, Value.int IntKind.u8 0, Value.int IntKind.u8 0, Value.int IntKind.u8 0, Value.int IntKind.u8 0, Value.int IntKind.u8 0, Value.int IntKind.u8 0, Value.int IntKind.u8 0, Value.int IntKind.u8 0] 29) = Obj.cells (bC tag0) 29 from rfl]
  simp only [Nat.add_assoc, Nat.reduceAdd]
  generalize (((w.alloc (.cells (bC a.1) 29)).alloc (.cells (bC b.1) 29)).alloc (.cells (bC tag0) 29)) = W1 at *
  have HCh : Hid (∀ W, Below W1.heap.size W1 W → Calls Tryd.prog 23 #[.agg (bC b.1)] W fun e w' => ∃ q cap, e = .returned (.slice q (upX b).length cap) ∧ SlAt encB 10 w' q (upX b) ∧ (upX b).length ≤ cap ∧ Below W.heap.size W w') := fun W hW => by
    refine (chain_any b W (hmx.below (HB1.out.trans (hW.mono HB1.out.size)))).mono ?_
    rintro e W' ⟨v, rfl, ho, hb⟩
    obtain ⟨q, cap, rfl, hcl, _, hsl, _⟩ := ho.at encB_len
    exact ⟨q, cap, rfl, hsl, hcl, hb⟩
  have HMt : Hid (∀ q cap W, Below W1.heap.size W1 W → SlAt encB 10 W q (upX b) → (upX b).length ≤ cap → Calls Tryd.prog 31 #[.agg (bC a.1), .slice q (upX b).length cap] W fun e w' => e = .returned (.tuple #[.agg (bC (coR a b)), .bool (mB ((upX b).map (·.1)) (upX a))]) ∧ Below W.heap.size W w') := fun q cap W hW hS hc => match_any a (upX b) q _ cap W rfl (by have := upX_len b; omega) hc hS (hmx.below (HB1.out.trans (hW.mono HB1.out.size)))
  have HL : Hid ((coR a b).length = 10) := mR_len _ _
  generalize mB ((upX b).map (·.1)) (upX a) = mb at *
  generalize hmr : coR a b = mr at *
  generalize upX b = ub at *
  have HLa : Hid (∀ w' : World, Below W1.heap.size W1 w' → w'.heap[w.heap.size]? = some (Obj.cells (bC a.1) 29 (0, 0))) := fun w' hb => (kp HA1 hb).out
  have HLb : Hid (∀ w' : World, Below W1.heap.size W1 w' → w'.heap[w.heap.size + 1]? = some (Obj.cells (bC b.1) 29 (0, 0))) := fun w' hb => (kp HC1 hb).out
  refine wp_region_held_drew (S := fun w' => Below W1.heap.size W1 w') (by kernel_rfl) (Below.refl _ _).drew (fun hH => ?_)
  show wpAnyH Tryd.prog Region.Mode.any _ _ _ 10 #[false, false, false, false, false, false, false, false, false, false] _ _
  generalize W1.drew = W2 at *
  refine takeD (i := 0) (v := .agg (bC a.1)) 8 rfl rfl (by kernel_rfl) (by kernel_rfl) (by kernel_rfl) (fun _ _ _ h => h) (Or.inl ⟨rfl, fun w' hS => (by exact y_ldb _ (by rfl) w.heap.size a.1 a.2 (by rfl) (HLa.out _ hS))⟩) hH ?_
  simp only [Act.put, List.setIfInBounds_toArray, List.set_cons_zero, List.set_cons_succ]
  refine takeD (i := 1) (v := .agg (bC b.1)) 9 rfl rfl (by kernel_rfl) (by kernel_rfl) (by kernel_rfl) (fun _ _ _ h => h) (Or.inl ⟨rfl, fun w' hS => (by exact y_ldb _ (by rfl) (w.heap.size + 1) b.1 b.2 (by rfl) (HLb.out _ hS))⟩) hH ?_
  simp only [Act.put, List.setIfInBounds_toArray, List.set_cons_zero, List.set_cons_succ]
  refine wpAnyH_ready (rs := [2, 7]) (by kernel_rfl) (by simp) ?_
  refine AllReadyH.cons rfl (fun K hK => ?_) (AllReadyH.cons rfl (fun K hK => ?_) AllReadyH.nil)
  · refine stI rfl ?_
    go_wp2_with (go_at_call 23; (refine (HCh.out _ hH).mono ?_); rintro e w1 ⟨q, cap, rfl, hsl, hcc, hb_w1⟩)
    have hs_w1 : Below W1.heap.size W1 w1 := hH.trans (hb_w1.mono hH.size)
    have HSl := Lib.hid hsl
    clear hsl
    refine hK.out _ _ hs_w1 (fun _ => ?_)
    clear hK K
    simp only [Act.put, List.setIfInBounds_toArray, List.set_cons_zero, List.set_cons_succ]
    refine wpAnyH_ready (rs := [3, 7]) (by kernel_rfl) (by simp) ?_
    refine AllReadyH.cons rfl (fun K hK => ?_) (AllReadyH.cons rfl (fun K hK => ?_) AllReadyH.nil)
    · refine stI rfl ?_
      go_wp2_with (go_at_call 31; (refine (HMt.out q cap _ hs_w1 HSl.out hcc).mono ?_); rintro e w2 ⟨rfl, hb_w2⟩)
      have hs_w2 : Below W1.heap.size W1 w2 := hs_w1.trans (hb_w2.mono hs_w1.size)
      refine hK.out _ _ hs_w2 (fun _ => ?_)
      clear hK K
      simp only [Act.put, List.setIfInBounds_toArray, List.set_cons_zero, List.set_cons_succ]
      refine takeD (i := 4) (v := .tuple #[.agg (bC mr), .bool mb]) 7 rfl rfl (by kernel_rfl) (by kernel_rfl) (by kernel_rfl) (fun _ _ _ h => h) (Or.inl ⟨rfl, fun w' hS => (rfl)⟩) hs_w2 ?_
      simp only [Act.put, List.setIfInBounds_toArray, List.set_cons_zero, List.set_cons_succ]
      refine takeD (i := 5) (v := .agg (bC mr)) 12 rfl rfl (by kernel_rfl) (by kernel_rfl) (by kernel_rfl) (fun _ _ _ h => h) (Or.inl ⟨rfl, fun w' hS => (rfl)⟩) hs_w2 ?_
      simp only [Act.put, List.setIfInBounds_toArray, List.set_cons_zero, List.set_cons_succ]
      refine takeD (i := 6) (v := .bool mb) 13 rfl rfl (by kernel_rfl) (by kernel_rfl) (by kernel_rfl) (fun _ _ _ h => h) (Or.inl ⟨rfl, fun w' hS => (rfl)⟩) hs_w2 ?_
      simp only [Act.put, List.setIfInBounds_toArray, List.set_cons_zero, List.set_cons_succ]
      refine wpAnyH_ready (rs := [7]) (by kernel_rfl) (by simp) ?_
      refine AllReadyH.cons rfl (fun K hK => ?_) AllReadyH.nil
      refine stI rfl ?_
      go_wp2_with fail
      have hba := below_alloc1 w2 (.cells (bC tag0) 29)
      have hs_w3 : Below W1.heap.size W1 (w2.alloc (.cells (bC tag0) 29)) := hs_w2.alloc hs_w2.size _
      have HG : Hid ((w2.alloc (.cells (bC tag0) 29)).heap[w2.heap.size]? = some (Obj.cells (bC tag0) 29 (0, 0))) := heap_alloc_new _ _
      have hge : W1.heap.size ≤ w2.heap.size := hs_w2.size
      refine hK.out _ _ hs_w3 (fun _ => ?_)
      clear hK K hba
      simp only [Act.put, List.setIfInBounds_toArray, List.set_cons_zero, List.set_cons_succ]
      show wpAnyH Tryd.prog Region.Mode.any _ _ _ _ _ _ (w2.alloc (.cells (bC tag0) 29))
      generalize (w2.alloc (.cells (bC tag0) 29)) = w3 at *
      generalize w2.heap.size = g at *
      refine wpAnyH_ready (rs := [8]) (by kernel_rfl) (by simp) ?_
      refine AllReadyH.cons rfl (fun K hK => ?_) AllReadyH.nil
      refine stI rfl (wp_store_row 29 _ _ (by rfl) g (bC mr) (by rfl) (by rfl) 29 (bC tag0) HG.out (by rw [sizTag, bC_size, HL.out]) (by rw [bC_size, bC_size, HL.out]; rfl) (bC_one _) ?_)
      have hS9 : Below W1.heap.size W1 (w3.setRow g (bC mr)) := setRow_below hs_w3 hge _
      have HG9 : Hid ((w3.setRow g (bC mr)).heap[g]? = some (Obj.cells (bC mr) 29 (0, 0))) := setRow_at HG.out
      refine hK.out (.put _ none undef) _ hS9 (fun _ => ?_)
      clear hK K
      simp only [Act.put, List.setIfInBounds_toArray, List.set_cons_zero, List.set_cons_succ]
      show wpAnyH Tryd.prog Region.Mode.any _ _ _ _ _ _ (w3.setRow g (bC mr))
      generalize (w3.setRow g (bC mr)) = W9 at *
      refine takeD (i := 9) (v := .bool mb) 6 rfl rfl (by kernel_rfl) (by kernel_rfl) (by kernel_rfl) (fun _ _ _ h => h) (Or.inl ⟨rfl, fun w' hS => (rfl)⟩) hS9 ?_
      simp only [Act.put, List.setIfInBounds_toArray, List.set_cons_zero, List.set_cons_succ]
      refine ⟨by kernel_rfl, ?_⟩
      have HR9 := kp HR1 hS9
      have HB9 := bt HB1 hS9
      go_wp2_with (first
        | (with_reducible refine ld_T rfl _ rfl g mr HL.out rfl HG9.out ?_)
        | ((with_reducible refine gate_st 29 _ _ rfl ?_); refine st_T rfl _ _ rfl (w.heap.size + 2) mr tag0 HL.out rfl _ rfl rfl HR9.out ?_))
      exact bodyPost_ret (res_rowc (P := Tryd.prog) (T := 29) (T' := 29) rfl _ _ (w.heap.size + 2) (bC mr) (0, 0) rfl (setRow_at HR9.out) Tryd.underlying29 rfl (by rw [sizTag, bC_size, HL.out])) rfl ⟨by rw [hmr], setRow_below HB9.out (by omega) _⟩
    · refine stI rfl ?_
      go_wp2_with fail
      have hba := below_alloc1 w1 (.cells (bC tag0) 29)
      have hs_w4 : Below W1.heap.size W1 (w1.alloc (.cells (bC tag0) 29)) := hs_w1.alloc hs_w1.size _
      have HG : Hid ((w1.alloc (.cells (bC tag0) 29)).heap[w1.heap.size]? = some (Obj.cells (bC tag0) 29 (0, 0))) := heap_alloc_new _ _
      have hge : W1.heap.size ≤ w1.heap.size := hs_w1.size
      have HSl := ks HSl hba
      refine hK.out _ _ hs_w4 (fun _ => ?_)
      clear hK K hba
      simp only [Act.put, List.setIfInBounds_toArray, List.set_cons_zero, List.set_cons_succ]
      show wpAnyH Tryd.prog Region.Mode.any _ _ _ _ _ _ (w1.alloc (.cells (bC tag0) 29))
      generalize (w1.alloc (.cells (bC tag0) 29)) = w4 at *
      generalize w1.heap.size = g at *
      refine wpAnyH_ready (rs := [3]) (by kernel_rfl) (by simp) ?_
      refine AllReadyH.cons rfl (fun K hK => ?_) AllReadyH.nil
      refine stI rfl ?_
      go_wp2_with (go_at_call 31; (refine (HMt.out q cap _ hs_w4 HSl.out hcc).mono ?_); rintro e w5 ⟨rfl, hb_w5⟩)
      have hs_w5 : Below W1.heap.size W1 w5 := hs_w4.trans (hb_w5.mono hs_w4.size)
      have HG := kp HG hb_w5
      refine hK.out _ _ hs_w5 (fun _ => ?_)
      clear hK K
      simp only [Act.put, List.setIfInBounds_toArray, List.set_cons_zero, List.set_cons_succ]
      refine takeD (i := 4) (v := .tuple #[.agg (bC mr), .bool mb]) 7 rfl rfl (by kernel_rfl) (by kernel_rfl) (by kernel_rfl) (fun _ _ _ h => h) (Or.inl ⟨rfl, fun w' hS => (rfl)⟩) hs_w5 ?_
      simp only [Act.put, List.setIfInBounds_toArray, List.set_cons_zero, List.set_cons_succ]
      refine takeD (i := 5) (v := .agg (bC mr)) 12 rfl rfl (by kernel_rfl) (by kernel_rfl) (by kernel_rfl) (fun _ _ _ h => h) (Or.inl ⟨rfl, fun w' hS => (rfl)⟩) hs_w5 ?_
      simp only [Act.put, List.setIfInBounds_toArray, List.set_cons_zero, List.set_cons_succ]
      refine takeD (i := 6) (v := .bool mb) 13 rfl rfl (by kernel_rfl) (by kernel_rfl) (by kernel_rfl) (fun _ _ _ h => h) (Or.inl ⟨rfl, fun w' hS => (rfl)⟩) hs_w5 ?_
      simp only [Act.put, List.setIfInBounds_toArray, List.set_cons_zero, List.set_cons_succ]
      refine wpAnyH_ready (rs := [8]) (by kernel_rfl) (by simp) ?_
      refine AllReadyH.cons rfl (fun K hK => ?_) AllReadyH.nil
      refine stI rfl (wp_store_row 29 _ _ (by rfl) g (bC mr) (by rfl) (by rfl) 29 (bC tag0) HG.out (by rw [sizTag, bC_size, HL.out]) (by rw [bC_size, bC_size, HL.out]; rfl) (bC_one _) ?_)
      have hS9 : Below W1.heap.size W1 (w5.setRow g (bC mr)) := setRow_below hs_w5 hge _
      have HG9 : Hid ((w5.setRow g (bC mr)).heap[g]? = some (Obj.cells (bC mr) 29 (0, 0))) := setRow_at HG.out
      refine hK.out (.put _ none undef) _ hS9 (fun _ => ?_)
      clear hK K
      simp only [Act.put, List.setIfInBounds_toArray, List.set_cons_zero, List.set_cons_succ]
      show wpAnyH Tryd.prog Region.Mode.any _ _ _ _ _ _ (w5.setRow g (bC mr))
      generalize (w5.setRow g (bC mr)) = W9 at *
      refine takeD (i := 9) (v := .bool mb) 6 rfl rfl (by kernel_rfl) (by kernel_rfl) (by kernel_rfl) (fun _ _ _ h => h) (Or.inl ⟨rfl, fun w' hS => (rfl)⟩) hS9 ?_
      simp only [Act.put, List.setIfInBounds_toArray, List.set_cons_zero, List.set_cons_succ]
      refine ⟨by kernel_rfl, ?_⟩
      have HR9 := kp HR1 hS9
      have HB9 := bt HB1 hS9
      go_wp2_with (first
        | (with_reducible refine ld_T rfl _ rfl g mr HL.out rfl HG9.out ?_)
        | ((with_reducible refine gate_st 29 _ _ rfl ?_); refine st_T rfl _ _ rfl (w.heap.size + 2) mr tag0 HL.out rfl _ rfl rfl HR9.out ?_))
      exact bodyPost_ret (res_rowc (P := Tryd.prog) (T := 29) (T' := 29) rfl _ _ (w.heap.size + 2) (bC mr) (0, 0) rfl (setRow_at HR9.out) Tryd.underlying29 rfl (by rw [sizTag, bC_size, HL.out])) rfl ⟨by rw [hmr], setRow_below HB9.out (by omega) _⟩
  · refine stI rfl ?_
    go_wp2_with fail
    have hba := below_alloc1 W2 (.cells (bC tag0) 29)
    have hs_w6 : Below W1.heap.size W1 (W2.alloc (.cells (bC tag0) 29)) := hH.alloc hH.size _
    have HG : Hid ((W2.alloc (.cells (bC tag0) 29)).heap[W2.heap.size]? = some (Obj.cells (bC tag0) 29 (0, 0))) := heap_alloc_new _ _
    have hge : W1.heap.size ≤ W2.heap.size := hH.size
    refine hK.out _ _ hs_w6 (fun _ => ?_)
    clear hK K hba
    simp only [Act.put, List.setIfInBounds_toArray, List.set_cons_zero, List.set_cons_succ]
    show wpAnyH Tryd.prog Region.Mode.any _ _ _ _ _ _ (W2.alloc (.cells (bC tag0) 29))
    generalize (W2.alloc (.cells (bC tag0) 29)) = w6 at *
    generalize W2.heap.size = g at *
    refine wpAnyH_ready (rs := [2]) (by kernel_rfl) (by simp) ?_
    refine AllReadyH.cons rfl (fun K hK => ?_) AllReadyH.nil
    refine stI rfl ?_
    go_wp2_with (go_at_call 23; (refine (HCh.out _ hs_w6).mono ?_); rintro e w7 ⟨q, cap, rfl, hsl, hcc, hb_w7⟩)
    have hs_w7 : Below W1.heap.size W1 w7 := hs_w6.trans (hb_w7.mono hs_w6.size)
    have HSl := Lib.hid hsl
    clear hsl
    have HG := kp HG hb_w7
    refine hK.out _ _ hs_w7 (fun _ => ?_)
    clear hK K
    simp only [Act.put, List.setIfInBounds_toArray, List.set_cons_zero, List.set_cons_succ]
    refine wpAnyH_ready (rs := [3]) (by kernel_rfl) (by simp) ?_
    refine AllReadyH.cons rfl (fun K hK => ?_) AllReadyH.nil
    refine stI rfl ?_
    go_wp2_with (go_at_call 31; (refine (HMt.out q cap _ hs_w7 HSl.out hcc).mono ?_); rintro e w8 ⟨rfl, hb_w8⟩)
    have hs_w8 : Below W1.heap.size W1 w8 := hs_w7.trans (hb_w8.mono hs_w7.size)
    have HG := kp HG hb_w8
    refine hK.out _ _ hs_w8 (fun _ => ?_)
    clear hK K
    simp only [Act.put, List.setIfInBounds_toArray, List.set_cons_zero, List.set_cons_succ]
    refine takeD (i := 4) (v := .tuple #[.agg (bC mr), .bool mb]) 7 rfl rfl (by kernel_rfl) (by kernel_rfl) (by kernel_rfl) (fun _ _ _ h => h) (Or.inl ⟨rfl, fun w' hS => (rfl)⟩) hs_w8 ?_
    simp only [Act.put, List.setIfInBounds_toArray, List.set_cons_zero, List.set_cons_succ]
    refine takeD (i := 5) (v := .agg (bC mr)) 12 rfl rfl (by kernel_rfl) (by kernel_rfl) (by kernel_rfl) (fun _ _ _ h => h) (Or.inl ⟨rfl, fun w' hS => (rfl)⟩) hs_w8 ?_
    simp only [Act.put, List.setIfInBounds_toArray, List.set_cons_zero, List.set_cons_succ]
    refine takeD (i := 6) (v := .bool mb) 13 rfl rfl (by kernel_rfl) (by kernel_rfl) (by kernel_rfl) (fun _ _ _ h => h) (Or.inl ⟨rfl, fun w' hS => (rfl)⟩) hs_w8 ?_
    simp only [Act.put, List.setIfInBounds_toArray, List.set_cons_zero, List.set_cons_succ]
    refine wpAnyH_ready (rs := [8]) (by kernel_rfl) (by simp) ?_
    refine AllReadyH.cons rfl (fun K hK => ?_) AllReadyH.nil
    refine stI rfl (wp_store_row 29 _ _ (by rfl) g (bC mr) (by rfl) (by rfl) 29 (bC tag0) HG.out (by rw [sizTag, bC_size, HL.out]) (by rw [bC_size, bC_size, HL.out]; rfl) (bC_one _) ?_)
    have hS9 : Below W1.heap.size W1 (w8.setRow g (bC mr)) := setRow_below hs_w8 hge _
    have HG9 : Hid ((w8.setRow g (bC mr)).heap[g]? = some (Obj.cells (bC mr) 29 (0, 0))) := setRow_at HG.out
    refine hK.out (.put _ none undef) _ hS9 (fun _ => ?_)
    clear hK K
    simp only [Act.put, List.setIfInBounds_toArray, List.set_cons_zero, List.set_cons_succ]
    show wpAnyH Tryd.prog Region.Mode.any _ _ _ _ _ _ (w8.setRow g (bC mr))
    generalize (w8.setRow g (bC mr)) = W9 at *
    refine takeD (i := 9) (v := .bool mb) 6 rfl rfl (by kernel_rfl) (by kernel_rfl) (by kernel_rfl) (fun _ _ _ h => h) (Or.inl ⟨rfl, fun w' hS => (rfl)⟩) hS9 ?_
    simp only [Act.put, List.setIfInBounds_toArray, List.set_cons_zero, List.set_cons_succ]
    refine ⟨by kernel_rfl, ?_⟩
    have HR9 := kp HR1 hS9
    have HB9 := bt HB1 hS9
    go_wp2_with (first
      | (with_reducible refine ld_T rfl _ rfl g mr HL.out rfl HG9.out ?_)
      | ((with_reducible refine gate_st 29 _ _ rfl ?_); refine st_T rfl _ _ rfl (w.heap.size + 2) mr tag0 HL.out rfl _ rfl rfl HR9.out ?_))
    exact bodyPost_ret (res_rowc (P := Tryd.prog) (T := 29) (T' := 29) rfl _ _ (w.heap.size + 2) (bC mr) (0, 0) rfl (setRow_at HR9.out) Tryd.underlying29 rfl (by rw [sizTag, bC_size, HL.out])) rfl ⟨by rw [hmr], setRow_below HB9.out (by omega) _⟩
end Go.Proofs.YtnambaiafailaaaDoor
