/- What a nil tree's iterations answer. -/
import Derived.Test.YtagdedjclbmlkaaC21
namespace Go.Proofs.Ytagdedjclbmlkaa
open Go.RowKit

attribute [local go_sem] Oper.semAt_some

theorem noLV (x : LV none) : False := by
  have := x.mem
  cases this
/-- A range over a nil tree's leaves: no round. -/
theorem rangeNil {g : Operand} {p : Tmp} {assign body : Code} {Q : Exit → Act → World → Prop} {a : Act} {w : World} (bx : Nat) (fv : Value) (hg : a.eval g = .func (.func 55) #[] #[.pointer (some ⟨bx, 0, none⟩), fv])
    (hbx : w.heap[bx]? = some (.cells #[.pointer none] 31 (0, 0)))
    (h : ∀ (D : Nat) (W : World), w.heap.size ≤ D → Below w.heap.size w W → W.heap[D]? = some (.deferred (some [])) → Q .normal { a with defers := { target := .collected D, args := #[] } :: a.defers } W) :
    (Code.rangeFunc g #[p] assign body).wpIn Fence.wide 5 Try.prog Q a w := by
  refine wpIn_rangeFunc_ownH (F := Fence.wide) rfl (by omega) hg trivial (enters_of Try.func55 (by kernel_rfl) rfl)
    (lvNil_stops 4 bx fv (KpT w.heap.size []) w hbx) KpT.trans (KpT.put (Nat.le_refl _)) (Below.refl _ _) (fun _ => rfl)
    (fun _ W => Below w.heap.size w W) (fun _ _ _ => False) (ownFrom_below (Nat.le_refl _) (Nat.le_refl _)) (fun _ _ _ _ _ hs _ _ => hs) (Below.refl _ _) (fun _ _ _ => True) (fun _ _ _ _ _ _ hs _ _ => hs) ?_ ?_ ?_ ?_
  · intro l pre x
    exact (noLV x).elim
  · intro l pre x
    exact (noLV x).elim
  · intro D xs W hD _ hB hK
    exact h D W hD hB hK
  · intro D c pre W _ hp _ _
    exact hp.elim
theorem siz58 : (Try.prog.info? 58).map (·.size) = some 1 := by kernel_rfl
set_option maxRecDepth 100000 in
set_option maxHeartbeats 4000000 in
theorem mapNil_any (fv : FuncId) (w : World) :
    Calls Try.prog 31 #[.pointer none, .func (.func fv) #[] #[]] w fun e w' => e = .returned (.slice none 0 0) ∧ Below w.heap.size w w' := by
  refine (callsIn_wide (n := 5)).1 ?_
  refine callsIn_of_wp_marks Try.func31 rfl trivial ?_ rfl
  simp only [Try.ntmps31, List.size_toArray, List.length_cons, List.length_nil, Nat.reduceAdd, Nat.reduceSub, Array.replicate_succ, Array.replicate_zero, List.push_toArray, List.append_toArray, List.nil_append, List.cons_append]
  have HB1 := Lib.hid (below_alloc2 w (.cells #[.func (.func fv) #[] #[]] 78) (.cells #[.slice none 0 0] 58))
  have HG1 := Lib.hid (heap_alloc2_new w (.cells #[.func (.func fv) #[] #[]] 78) (.cells #[.slice none 0 0] 58))
  gi_upto_region 2 with fail
  generalize ((w.alloc (.cells #[.func (.func fv) #[] #[]] 78)).alloc (.cells #[.slice none 0 0] 58)) = W1 at *
  gi_wp2_with (first
    | (refine ⟨trivial, ?_⟩; gi_at_call 45; (refine (callsIn_wide.2 (leaves_any _ none 0 0 _)).mono ?_); rintro e w5 ⟨rfl, rfl⟩))
  have hbl := below_alloc2 W1 (.cells #[.pointer none] 31) (.cells #[.slice none 0 0] 109)
  have HG2 : Hid (((W1.alloc (.cells #[.pointer none] 31)).alloc (.cells #[.slice none 0 0] 109)).heap[w.heap.size + 1]? = some (.cells #[.slice none 0 0] 58 (0, 0))) := (hbl.block _ (lt_heap HG1.out)).trans HG1.out
  have HB2 : Hid (Below w.heap.size w ((W1.alloc (.cells #[.pointer none] 31)).alloc (.cells #[.slice none 0 0] 109))) := HB1.out.trans (hbl.mono HB1.out.size)
  refine rangeNil W1.heap.size _ rfl (heap_alloc2_old _ _ _) ?_
  intro D W hD hB hK
  clear hbl
  generalize ((W1.alloc (.cells #[.pointer none] 31)).alloc (.cells #[.slice none 0 0] 109)) = W2 at *
  have hc : W.cell? ⟨w.heap.size + 1, 0, none⟩ = some (.slice none 0 0) := by rw [cell_blk ((hB.block _ (lt_heap HG2.out)).trans HG2.out)]; rfl
  have HBf := Lib.hid (HB2.out.trans (hB.mono HB2.out.size))
  have hD2 : w.heap.size ≤ D := Nat.le_trans HB2.out.size hD
  have HK := Lib.hid hK
  clear hB hK
  gi_wp2
  refine ⟨by simp, .inl ⟨_, _, rfl, run_takeDeferred HK.out, ?_⟩⟩
  exact ⟨_, results_tmp rfl _ _ _, rfl, HBf.out.trans (belowK_b (w := w) (Nat.le_refl _) W D _ _ hD2 HK.out rfl rfl)⟩
set_option maxRecDepth 100000 in
set_option maxHeartbeats 4000000 in
theorem keysNil_any (k : List UInt8) (d : Int) (w : World) (hk : k.length = 25) :
    Calls Try.prog 24 #[.pointer none, .agg (pC k d).toArray] w fun e w' => e = .returned (.slice none 0 0) ∧ Below w.heap.size w w' := by
  refine (callsIn_wide (n := 5)).1 ?_
  refine callsIn_of_wp_marks Try.func24 rfl trivial ?_ rfl
  simp only [Try.ntmps24, List.size_toArray, List.length_cons, List.length_nil, Nat.reduceAdd, Nat.reduceSub, Array.replicate_succ, Array.replicate_zero, List.push_toArray, List.append_toArray, List.nil_append, List.cons_append]
  have HB1 := Lib.hid (below_alloc2 w (.cells (pC k d).toArray 63) (.cells #[.slice none 0 0] 64))
  have HG0 := Lib.hid (heap_alloc2_old w (.cells (pC k d).toArray 63) (.cells #[.slice none 0 0] 64))
  have HG1 := Lib.hid (heap_alloc2_new w (.cells (pC k d).toArray 63) (.cells #[.slice none 0 0] 64))
  have HK := Lib.hid hk
  clear hk
  gi_upto_region 2 with fail
  generalize ((w.alloc (.cells (pC k d).toArray 63)).alloc (.cells #[.slice none 0 0] 64)) = W1 at *
  gi_wp2_with (first
    | ((refine inl_ldr rfl 63 _ rfl w.heap.size 0 (pC k d) _ Try.underlying63 rfl (by rw [sizPre, pC_len HK.out]) rfl (range_whole (by simpa using HG0.out)) ?_))
    | (refine ⟨trivial, ?_⟩; gi_at_call 46; (refine (callsIn_wide.2 (pbytes_any k d _ HK.out)).mono ?_); rintro e w3 ⟨q, c, rfl, hf3, hb3⟩; have HB3 := Lib.hid hb3; clear hb3)
    | (refine ⟨trivial, ?_⟩; gi_at_call 45; (refine (callsIn_wide.2 (leaves_any _ q _ c _)).mono ?_); rintro e w5 ⟨rfl, rfl⟩))
  have hbl := below_alloc2 w3 (.cells #[.pointer none] 31) (.cells #[.slice q (preB k d).length c] 109)
  have HG3 : Hid (w3.heap[w.heap.size + 1]? = some (.cells #[.slice none 0 0] 64 (0, 0))) := (HB3.out.block _ (lt_heap HG1.out)).trans HG1.out
  have HB3w : Hid (Below w.heap.size w w3) := HB1.out.trans (HB3.out.mono HB1.out.size)
  have HG2 : Hid (((w3.alloc (.cells #[.pointer none] 31)).alloc (.cells #[.slice q (preB k d).length c] 109)).heap[w.heap.size + 1]? = some (.cells #[.slice none 0 0] 64 (0, 0))) := (hbl.block _ (lt_heap HG3.out)).trans HG3.out
  have HB2 : Hid (Below w.heap.size w ((w3.alloc (.cells #[.pointer none] 31)).alloc (.cells #[.slice q (preB k d).length c] 109))) := HB3w.out.trans (hbl.mono HB3w.out.size)
  refine rangeNil w3.heap.size _ rfl (heap_alloc2_old _ _ _) ?_
  intro D W hD hB hK
  clear hbl
  generalize ((w3.alloc (.cells #[.pointer none] 31)).alloc (.cells #[.slice q (preB k d).length c] 109)) = W2 at *
  have hc : W.cell? ⟨w.heap.size + 1, 0, none⟩ = some (.slice none 0 0) := by rw [cell_blk ((hB.block _ (lt_heap HG2.out)).trans HG2.out)]; rfl
  have HBf := Lib.hid (HB2.out.trans (hB.mono HB2.out.size))
  have hD2 : w.heap.size ≤ D := Nat.le_trans HB2.out.size hD
  have HKd := Lib.hid hK
  clear hB hK
  gi_wp2
  refine ⟨by simp, .inl ⟨_, _, rfl, run_takeDeferred HKd.out, ?_⟩⟩
  exact ⟨_, results_tmp rfl _ _ _, rfl, HBf.out.trans (belowK_b (w := w) (Nat.le_refl _) W D _ _ hD2 HKd.out rfl rfl)⟩
end Go.Proofs.Ytagdedjclbmlkaa
