/- tag's Below. -/
import Derived.Test.YtnambaiafailaaaDoorMP5
import Derived.Test.YtnambaiafailaaaDoorTBh5
namespace Go.Proofs.YtnambaiafailaaaDoor
open Go.RowKit

attribute [local go_sem] Oper.semAt_some

/-- What a round that lays blocks alone keeps: every block of cells. -/
def KpB (n₀ : Nat) (W W' : World) : Prop := Below n₀ W W' ∧ ∀ (k : Nat) (cs : Array Value) (T : TypeId) (t : Nat × Nat), W.heap[k]? = some (Obj.cells cs T t) → W'.heap[k]? = W.heap[k]?
theorem KpB.trans {n₀ : Nat} {W1 W2 W3 : World} (h : KpB n₀ W1 W2) (k : KpB n₀ W2 W3) : KpB n₀ W1 W3 :=
  ⟨h.1.trans k.1, fun b cs T t hc => (k.2 b cs T t ((h.2 b cs T t hc).trans hc)).trans (h.2 b cs T t hc)⟩
theorem kpB_put {n₀ : Nat} {w : World} (hn : n₀ ≤ w.heap.size) (W : World) (l : Nat) (o o' : Obj) (hl : w.heap.size ≤ l) (h : W.heap[l]? = some o) (hc : o.isCells = false) (hw : o.isWalk = false) : KpB n₀ W (W.putObj l o') :=
  ⟨belowK_b hn W l o o' hl h hc hw, fun k cs T t hk => World.putObj_heap_other (fun e => by
    rw [e] at hk; rw [hk] at h; cases h; cases hc)⟩
theorem kpB_below {n₀ : Nat} {W W' : World} (hn : n₀ ≤ W.heap.size) (h : Below W.heap.size W W') : KpB n₀ W W' := ⟨h.mono hn, fun k _ _ _ hk => h.block k (lt_heap hk)⟩
theorem kpB_ok {n₀ : Nat} {w0 : World} (hn : n₀ ≤ w0.heap.size) (hmx : ∀ W, Below n₀ w0 W → MX W) : KpOk (KpB n₀) n₀ w0 (fun _ => True) (fun _ _ => True) where
  init := fun _ _ => trivial
  keepV := fun _ _ _ _ => trivial
  belV := fun _ _ _ _ => trivial
  fresh := fun _ _ _ _ _ _ => trivial
  kept := fun _ _ g cs T t _ _ h hc => h.2 g cs T t hc
  below := fun _ _ h => h.1
  le := hn
  mx := hmx
/-- A row of a block that is cells abides what the law asks. -/
theorem row_own5 (g : Nat) (cs : Array Value) (T : TypeId) : Own (fun (_ : List B10) W => W.heap[g]? = some (Obj.cells cs T (0, 0))) := fun _ X Y row h hg hr => by
  refine (hg.block g (lt_heap h) (fun e => ?_)).trans h
  obtain ⟨o, ho, hc⟩ := hr g e.symm
  rw [h] at ho; cases ho; cases hc
theorem pure_own5 {B : Nat} (p : List B10 → Prop) : OwnFrom B (fun pre (_ : World) => p pre) := fun _ _ _ _ h _ _ => h
theorem row_from5 (B g : Nat) (cs : Array Value) (T : TypeId) {s : Unit} {X Y : World} {row : Option Nat} (h : X.heap[g]? = some (Obj.cells cs T (0, 0))) (hg : X.grownBy Y row) (hr : ∀ r, row = some r → B ≤ r ∧ ∃ o : Obj, X.heap[r]? = some o ∧ o.isCells = false) : Y.heap[g]? = some (Obj.cells cs T (0, 0)) := by
  refine (hg.block g (lt_heap h) (fun e => ?_)).trans h
  obtain ⟨_, o, ho, hc⟩ := hr g e.symm
  rw [h] at ho; cases ho; cases hc
def memX (v : List UInt8) (xs : List B10) : Bool := decide (v ∈ xs.map (·.1))
set_option maxRecDepth 100000 in
set_option maxHeartbeats 4000000 in
theorem below_any (x0 : B10) (v : List UInt8) (w : World) (hv : v.length = 10) (hmx : MX w) :
    Calls Tryd.prog 25 #[.agg (bC x0.1), .agg (bC v)] w fun e w' => e = .returned (.bool (memX v (upX x0))) ∧ Below w.heap.size w w' := by
  refine (callsIn_wide (n := 5)).1 ?_
  have HV := Lib.hid hv
  have HG0 : Hid ((((w.alloc (.cells (bC x0.1) 29)).alloc (.cells (bC v) 29)).alloc (.cells #[.bool false] 4)).heap[w.heap.size]? = some (Obj.cells (bC x0.1) 29 (0, 0))) := by show _ = _; rw [heap_alloc_old _ _ (by simp; omega)]; exact heap_alloc2_old _ _ _
  have HG1 : Hid ((((w.alloc (.cells (bC x0.1) 29)).alloc (.cells (bC v) 29)).alloc (.cells #[.bool false] 4)).heap[w.heap.size + 1]? = some (Obj.cells (bC v) 29 (0, 0))) := by show _ = _; rw [heap_alloc_old _ _ (by simp)]; exact heap_alloc2_new _ _ _
  have HG2 : Hid (Boxed (((w.alloc (.cells (bC x0.1) 29)).alloc (.cells (bC v) 29)).alloc (.cells #[.bool false] 4)) (w.heap.size + 2) 4 (.bool false)) := by
    have := Boxed.new ((w.alloc (.cells (bC x0.1) 29)).alloc (.cells (bC v) 29)) 4 (.bool false)
    rw [World.size_alloc, World.size_alloc] at this; exact this
  have HB1 : Hid (Below w.heap.size w (((w.alloc (.cells (bC x0.1) 29)).alloc (.cells (bC v) 29)).alloc (.cells #[.bool false] 4))) := (below_alloc2 _ _ _).alloc (by simp; omega) _
  have HZ1 : Hid ((((w.alloc (.cells (bC x0.1) 29)).alloc (.cells (bC v) 29)).alloc (.cells #[.bool false] 4)).heap.size = w.heap.size + 3) := by show _ = _; simp
  clear hv
  refine callsIn_of_wp_marks Tryd.func25 rfl trivial ?_ rfl
  simp only [Tryd.ntmps25, List.size_toArray, List.length_cons, List.length_nil, Nat.reduceAdd, Nat.reduceSub, Array.replicate_succ, Array.replicate_zero, List.push_toArray, List.append_toArray, List.nil_append, List.cons_append]
  gi_upto_region 1 with fail
  simp only [Nat.add_assoc, Nat.reduceAdd] at *
  generalize (((w.alloc (.cells (bC x0.1) 29)).alloc (.cells (bC v) 29)).alloc (.cells #[.bool false] 4)) = W1 at *
  gi_wp2_with (first
    | (refine inl_ldr rfl 29 _ rfl w.heap.size 0 (bC x0.1).toList _ Tryd.underlying29 rfl (by rw [sizTag]; simp [bC, x0.2]) rfl (range_whole (by simpa using HG0.out)) ?_)
    | (refine ⟨trivial, ?_⟩; gi_at_call 53; (refine (callsIn_wide.2 (run_up x0.1 _)).mono ?_); rintro e w5 ⟨rfl, rfl⟩))
  have HGx : Hid ((W1.alloc (.cells (bC x0.1) 29)).heap[W1.heap.size]? = some (Obj.cells (bC x0.1) 29 (0, 0))) := heap_alloc_new _ _
  have HGv : Hid ((W1.alloc (.cells (bC x0.1) 29)).heap[w.heap.size + 1]? = some (Obj.cells (bC v) 29 (0, 0))) := kp HG1 (below_alloc1 _ _)
  have HGb : Hid (Boxed (W1.alloc (.cells (bC x0.1) 29)) (w.heap.size + 2) 4 (.bool false)) := Boxed.alloc HG2.out _
  have HB2 : Hid (Below w.heap.size w (W1.alloc (.cells (bC x0.1) 29))) := HB1.out.alloc HB1.out.size _
  have HZ2 : Hid ((W1.alloc (.cells (bC x0.1) 29)).heap.size = w.heap.size + 4) := by show _ = _; simp [HZ1.out]
  have hz1 := HZ1.out
  rw [hz1] at HGx ⊢
  generalize (W1.alloc (.cells (bC x0.1) 29)) = W0 at *
  have hz2 := HZ2.out
  have hBsz := HB2.out.size
  clear hz1 HG0 HG1 HG2 HB1 HZ1
  refine wpIn_rangeFunc_ownH (F := Fence.wide) rfl (by omega) (gf := 64) (lb := #[.pointer (some ⟨w.heap.size + 3, 0, none⟩)]) rfl trivial (enters_of Tryd.func64 (by kernel_rfl) rfl)
    (up_stops 4 (by omega) (w.heap.size + 3) w.heap.size x0 W0 _ _ _ (kpB_ok hBsz (fun W hW => hmx.below (HB2.out.trans hW))) HGx.out) KpB.trans (kpB_put hBsz) (Below.refl _ _) (fun _ => rfl)
    (fun pre W => ((memX v pre = false ∧ W.heap[w.heap.size + 1]? = some (Obj.cells (bC v) 29 (0, 0))) ∧ Boxed W (w.heap.size + 2) 4 (.bool false)) ∧ Below w.heap.size w W)
    (fun c pre W => ((c = .ret ∧ memX v pre = true) ∧ Boxed W (w.heap.size + 2) 4 (.bool true)) ∧ Below w.heap.size w W)
    (OwnFrom.and (OwnFrom.and (OwnFrom.and (pure_own5 _) (Own.from (row_own5 _ _ _) _)) (Own.from (boxed_own (w.heap.size + 2) 4 (fun _ => .bool false)) _)) (ownFrom_below (Nat.le_refl _) hBsz))
    (fun c => OwnFrom.and (OwnFrom.and (pure_own5 _) (Own.from (boxed_own (w.heap.size + 2) 4 (fun _ => .bool true)) _)) (ownFrom_below (Nat.le_refl _) hBsz))
    ⟨⟨⟨rfl, HGv.out⟩, HGb.out⟩, HB2.out⟩
    (fun x a' W => ∃ Bx, W.heap[Bx]? = some (Obj.cells (bC x.1) 29 (0, 0)) ∧ a' = { tmps := #[.agg (bC x0.1), .agg (bC v), .pointer (some ⟨w.heap.size, 0, none⟩), .pointer (some ⟨w.heap.size + 1, 0, none⟩), .pointer (some ⟨w.heap.size + 2, 0, none⟩), .pointer (some ⟨Bx, 0, none⟩), .agg (bC x0.1), .func (.func 64) #[] #[.pointer (some ⟨w.heap.size + 3, 0, none⟩)], .agg (bC x.1), undef, undef, undef], defers := [] })
    (fun x a' _ X Y row hs hg hr => by
      obtain ⟨Bx, h1, h2⟩ := hs
      exact ⟨Bx, row_from5 _ _ _ _ (s := ()) h1 hg hr, h2⟩)
    ?assign ?body ?done ?stop
  case assign =>
    rintro l pre x W K hI hK
    have HI := Lib.hid hI
    have HK := Lib.hid hK
    clear hI hK
    unfold encX
    gi_wp2_with (first
      | (refine inl_strn rfl 29 _ _ rfl (bC x.1) (bC tag0) 29 (by rw [sizTag, bC_size, x.2]) (by rw [bC_size, bC_size, x.2]; rfl) (bC_one _) rfl rfl ?_))
    obtain ⟨⟨⟨hm, hgv⟩, hbx⟩, hB⟩ := HI.out
    exact HK.out _ _ ((KeepsOthers.alloc _ _).from _) (kpB_below hB.size (below_alloc1 _ _)) ⟨⟨⟨hm, (kp (Lib.hid hgv) (below_alloc1 _ _)).out⟩, hbx.alloc _⟩, hB.alloc hB.size _⟩ ⟨W.heap.size, heap_alloc_new _ _, rfl⟩
  case body =>
    rintro l pre x a' W _ _ ⟨⟨⟨hm, hgv⟩, hbx⟩, hB⟩ ⟨Bx, hx, rfl⟩ hlt
    have hc := hbx.cell
    have hf := hbx.frozen
    have HX := Lib.hid hx
    have HGv2 := Lib.hid hgv
    have HHb := Lib.hid hbx
    have he : ∀ W, (binOp .eql 29 (.agg (bC x.1)) (.agg (bC v))).run Tryd.prog W = .ok (.bool (x.1 == v)) W := fun W => eql10 W x.1 v x.2 HV.out
    clear hx hgv hbx
    have hmem : memX v (pre ++ [x]) = (memX v pre || x.1 == v) := by
      unfold memX
      rw [Bool.eq_iff_iff, Bool.or_eq_true, decide_eq_true_eq, decide_eq_true_eq, List.map_append, List.mem_append, beq_iff_eq]
      constructor
      · rintro (h | h)
        · exact .inl h
        · exact .inr (List.mem_singleton.1 h).symm
      · rintro (h | h)
        · exact .inl h
        · exact .inr (List.mem_singleton.2 h.symm)
    cases hxv : (x.1 == v)
    · rw [hxv] at he hmem
      gi_wp2_with (first
        | (refine inl_ldr rfl 29 _ rfl Bx 0 (bC x.1).toList _ Tryd.underlying29 rfl (by rw [sizTag]; simp [bC, x.2]) rfl (range_whole (by simpa using HX.out)) ?_)
        | (refine inl_ldr rfl 29 _ rfl (w.heap.size + 1) 0 (bC v).toList _ Tryd.underlying29 rfl (by rw [sizTag]; simp [bC, HV.out]) rfl (range_whole (by simpa using HGv2.out)) ?_))
      exact ⟨KeepsFrom.refl _ _, ⟨Below.refl _ _, fun _ _ _ _ _ => rfl⟩, ⟨⟨⟨by rw [hmem, hm]; rfl, HGv2.out⟩, HHb.out⟩, hB⟩⟩
    · rw [hxv] at he hmem
      gi_wp2_with (first
        | (refine inl_ldr rfl 29 _ rfl Bx 0 (bC x.1).toList _ Tryd.underlying29 rfl (by rw [sizTag]; simp [bC, x.2]) rfl (range_whole (by simpa using HX.out)) ?_)
        | (refine inl_ldr rfl 29 _ rfl (w.heap.size + 1) 0 (bC v).toList _ Tryd.underlying29 rfl (by rw [sizTag]; simp [bC, HV.out]) rfl (range_whole (by simpa using HGv2.out)) ?_))
      exact ⟨(KeepsOthers.setCell _ _ _).from _, ⟨⟨rfl, by rw [hmem]; simp⟩, HHb.out.set _⟩, hB.setCell (p := ⟨w.heap.size + 2, 0, none⟩) (by simp) _⟩
  case done =>
    rintro D ys W hD rfl ⟨⟨⟨hm, hgv⟩, hbx⟩, hB⟩ hK
    have hc := hbx.cell
    have hf := hbx.frozen
    clear hgv
    gi_wp2
    have hK' := (KeepsOthers.setCell W ⟨w.heap.size + 2, 0, none⟩ (.bool false)).same D _ hK rfl
    refine ⟨by simp, .inl ⟨_, _, rfl, run_takeDeferred hK', ?_⟩⟩
    have hc5 := cell_kept (hbx.set (.bool false)).cell (grownBy_putObj' _ D (.deferred none)) (fun r e => by cases e; exact ⟨_, hK', rfl⟩)
    refine ⟨.bool false, ?_, by rw [hm], (hB.setCell (p := ⟨w.heap.size + 2, 0, none⟩) (by simp) _).trans (belowK_b (w := w) (Nat.le_refl _) _ D _ _ (by omega) hK' rfl rfl)⟩
    simp [results, Tryd.f25, go_sem, hc5]
  case stop =>
    rintro D c pre W hD hpre ⟨⟨⟨rfl, hm⟩, hbx⟩, hB⟩ hK
    gi_wp2
    refine ⟨by simp, .inl ⟨_, _, rfl, run_takeDeferred hK, ?_⟩⟩
    have hc5 := cell_kept hbx.cell (grownBy_putObj' _ D (.deferred none)) (fun r e => by cases e; exact ⟨_, hK, rfl⟩)
    refine ⟨.bool true, ?_, ?_, hB.trans (belowK_b (w := w) (Nat.le_refl _) W D _ _ (by omega) hK rfl rfl)⟩
    · simp [results, Tryd.f25, go_sem, hc5]
    · have : memX v (upX x0) = true := by
        unfold memX at hm ⊢
        simp only [decide_eq_true_eq, List.mem_map] at hm ⊢
        obtain ⟨y, hy, e⟩ := hm
        exact ⟨y, hpre.subset hy, e⟩
      rw [this]
end Go.Proofs.YtnambaiafailaaaDoor
