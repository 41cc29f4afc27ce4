/- tag's Chain. -/
import Derived.Test.YtnambaiafailaaaDoorI5
import Derived.Sort.CutIn
namespace Go.Proofs.YtnambaiafailaaaDoor
open Go.RowKit

attribute [local go_sem] Oper.semAt_some

theorem up_stops (n : Nat) (hn : 1 ≤ n) (Bn n₀ : Nat) (x0 : B10) (w0 : World) (Kp : World → World → Prop) (V : World → Prop) (Sf : Nat → World → Prop) (hKp : KpOk Kp n₀ w0 V Sf)
    (hBn : w0.heap[Bn]? = some (Obj.cells (bC x0.1) 29 (0, 0))) :
    SeqStopsK Fence.wide n Tryd.prog 64 #[.pointer (some ⟨Bn, 0, none⟩)] encX Kp (fun ys => ys = upX x0) (fun pre => pre <+: upX x0) (upX x0).length w0 := fun l J Jx W hW hJ _ hY h0 =>
  up1_in n hn l Bn n₀ x0 w0 Kp V Sf hKp J Jx hY W hW hJ (by rw [hW.block _ (lt_heap hBn)]; exact hBn) h0
def encB (x : B10) : List Value := (bC x.1).toList
theorem encB_len (x : B10) : (encB x).length = 10 := by simp [encB, bC, x.2]
theorem encB_one (x : B10) : ∀ u ∈ encB x, u.oneCell' = true := by
  intro u hu
  simp only [encB, bC, List.toList_toArray, List.mem_map] at hu
  obtain ⟨c, _, rfl⟩ := hu
  rfl
theorem infoTg : (Tryd.prog.info? 29).map (fun i => (i.zero, i.size, i.bytes)) = some (some (.agg (bC tag0)), 10, 10) := by kernel_rfl
/-- The row of a slice in a box. -/
def RowIs (W : World) (B k : Nat) : Prop := ∃ v, Boxed W B 46 v ∧ v.ownBlock = some k
/-- What a round that collects keeps. -/
def KpC (n₀ B : Nat) (W W' : World) : Prop :=
  Below n₀ W W' ∧ (∀ (k : Nat) (cs : Array Value) (T : TypeId) (t : Nat × Nat), cs.size = 10 → k ≠ B → ¬ RowIs W B k → W.heap[k]? = some (Obj.cells cs T t) → W'.heap[k]? = W.heap[k]? ∧ ¬ RowIs W' B k) ∧
    ((∀ k, RowIs W B k → k < W.heap.size) → ∀ k, RowIs W' B k → k < W'.heap.size)
theorem KpC.trans {n₀ B : Nat} {W1 W2 W3 : World} (h : KpC n₀ B W1 W2) (k : KpC n₀ B W2 W3) : KpC n₀ B W1 W3 := by
  refine ⟨h.1.trans k.1, fun b cs T t hs hb hr hc => ?_, fun hv => k.2.2 (h.2.2 hv)⟩
  obtain ⟨e1, r1⟩ := h.2.1 b cs T t hs hb hr hc
  obtain ⟨e2, r2⟩ := k.2.1 b cs T t hs hb r1 (e1.trans hc)
  exact ⟨e2.trans e1, r2⟩
theorem rowIs_of {W W' : World} {B k : Nat} (he : W'.heap[B]? = W.heap[B]?) (h : RowIs W' B k) : RowIs W B k := by
  obtain ⟨v, hv, hk⟩ := h
  exact ⟨v, he.symm.trans hv, hk⟩
theorem kpC_put {n₀ B : Nat} {w : World} (hn : n₀ ≤ w.heap.size) (hB : B < w.heap.size) (W : World) (l : Nat) (o o' : Obj) (hl : w.heap.size ≤ l) (h : W.heap[l]? = some o) (hc : o.isCells = false) (hw : o.isWalk = false) : KpC n₀ B W (W.putObj l o') := by
  have hg := grownBy_putObj' W l o'
  have hBl : (W.putObj l o').heap[B]? = W.heap[B]? := World.putObj_heap_other (by omega)
  refine ⟨belowK_b hn W l o o' hl h hc hw, fun k cs T t _ hb hr hk => ⟨?_, fun hr' => hr (rowIs_of hBl hr')⟩, fun hv k hr => ?_⟩
  · refine World.putObj_heap_other (fun e => ?_)
    rw [e] at hk
    rw [hk] at h
    cases h; cases hc
  · have := hv k (rowIs_of hBl hr)
    have hs : (W.putObj l o').heap.size = W.heap.size := by simp [World.putObj]
    omega
theorem kpC_below {n₀ B : Nat} {W W' : World} (hn : n₀ ≤ W.heap.size) (hB : B < W.heap.size) (h : Below W.heap.size W W') : KpC n₀ B W W' :=
  ⟨h.mono hn, fun k cs T t _ _ hr hk => ⟨h.block k (lt_heap hk), fun hr' => hr (rowIs_of (h.block B hB) hr')⟩, fun hv k hr => Nat.lt_of_lt_of_le (hv k (rowIs_of (h.block B hB) hr)) h.size⟩
theorem kpC_ok {n₀ B : Nat} {w0 : World} (hB : Boxed w0 B 46 (.slice none 0 0)) (hn : n₀ ≤ w0.heap.size) (hmx : ∀ W, Below n₀ w0 W → MX W) :
    KpOk (KpC n₀ B) n₀ w0 (fun W => B < W.heap.size ∧ ∀ k, RowIs W B k → k < W.heap.size) (fun g W => g ≠ B ∧ ¬ RowIs W B g) where
  init := fun W h => ⟨Nat.lt_of_lt_of_le hB.lt h.size, fun k hr => by
    obtain ⟨v, hv, hk⟩ := rowIs_of (h.block B hB.lt) hr
    have : v = .slice none 0 0 := by
      have := hv.symm.trans hB
      simpa using this
    rw [this] at hk; cases hk⟩
  keepV := fun W W' hV h => ⟨Nat.lt_of_lt_of_le hV.1 h.1.size, h.2.2 hV.2⟩
  belV := fun W W' hV h => ⟨Nat.lt_of_lt_of_le hV.1 h.size, fun k hr => Nat.lt_of_lt_of_le (hV.2 k (rowIs_of (h.block B hV.1) hr)) h.size⟩
  fresh := fun W W' g hV h hg => ⟨by have := hV.1; omega, fun hr => by have := hV.2 g (rowIs_of (h.block B hV.1) hr); omega⟩
  kept := fun W W' g cs T t hs hg h hc => (h.2.1 g cs T t hs hg.1 hg.2 hc).1
  below := fun _ _ h => h.1
  le := hn
  mx := hmx
/-- What the box's slice owns, in its row. -/
theorem row_own {W : World} {B base k : Nat} {v : Value} {xs : List B10} (hv : Boxed W B 46 v) (h : OwnE encB 29 10 W base v xs) (hr : RowIs W B k) :
    v.ownBlock = some k ∧ base ≤ k ∧ ∃ cur, W.heap[k]? = some (Obj.cells cur 29 (0, 0)) ∧ xs.length * 10 ≤ cur.size := by
  obtain ⟨u, hu, hk⟩ := hr
  have e : u = v := by
    have := hu.symm.trans hv
    simpa using this
  subst e
  obtain ⟨h1, ⟨rfl, h2⟩ | ⟨g, cap, cur, rfl, hg, hh, hc, hm, hs, ht⟩⟩ := h
  · cases hk
  · obtain rfl : g = k := by simpa [Value.ownBlock] using hk
    refine ⟨rfl, hg, cur, hh, ?_⟩
    rw [hs]
    exact Nat.mul_le_mul_right _ hc
/-- Behind an append. -/
theorem kpC_app {n₀ B base : Nat} {W w1 : World} {tmp : Obj} {v v' : Value} {pre : List B10} {x : B10} (hv : Boxed W B 46 v) (ho : OwnE encB 29 10 W base v pre) (hnil : pre = [] → W.heap.size ≤ base)
    (hg : (W.alloc tmp).grownBy w1 v.ownBlock) (hv2 : Boxed (w1.setCell ⟨B, 0, none⟩ v') B 46 v') (ho2 : OwnE encB 29 10 (w1.setCell ⟨B, 0, none⟩ v') base v' (pre ++ [x])) (hb : Below n₀ W (w1.setCell ⟨B, 0, none⟩ v')) : KpC n₀ B W (w1.setCell ⟨B, 0, none⟩ v') := by
  have hkeep : ∀ (k : Nat) (cs : Array Value) (T : TypeId) (t : Nat × Nat), k ≠ B → ¬ RowIs W B k → W.heap[k]? = some (Obj.cells cs T t) → (w1.setCell ⟨B, 0, none⟩ v').heap[k]? = W.heap[k]? := by
    intro k cs T t hkb hr hk
    have h1 : w1.heap[k]? = (W.alloc tmp).heap[k]? := hg.block k (by have := lt_heap hk; simp; omega) (fun e => hr ⟨v, hv, e.symm⟩)
    have h2 : (w1.setCell ⟨B, 0, none⟩ v').heap[k]? = w1.heap[k]? := Below.heap_setCell _ _ _ k (fun e => hkb e)
    rw [h2, h1]
    exact Below.heap_alloc _ _ k (lt_heap hk)
  refine ⟨hb, fun k cs T t hs hkb hr hk => ⟨hkeep k cs T t hkb hr hk, fun hr' => ?_⟩, fun _ k hr => ?_⟩
  · obtain ⟨_, hbk, cur, hcur, hlen⟩ := row_own hv2 ho2 hr'
    have hkk := (hkeep k cs T t hkb hr hk).trans hk
    rw [hkk] at hcur
    simp only [Option.some.injEq, Obj.cells.injEq] at hcur
    rw [← hcur.1, hs] at hlen
    simp only [List.length_append, List.length_cons, List.length_nil] at hlen
    have h0 : pre.length = 0 := by omega
    have := hnil (List.length_eq_zero_iff.1 h0)
    have := lt_heap hk
    omega
  · obtain ⟨_, _, cur, hcur, _⟩ := row_own hv2 ho2 hr
    exact lt_heap hcur
set_option maxRecDepth 100000 in
set_option maxHeartbeats 4000000 in
theorem chain_any (x0 : B10) (w : World) (hmx : MX w) :
    Calls Tryd.prog 23 #[.agg (bC x0.1)] w fun e W' => ∃ v, e = .returned v ∧ OwnE (encB) 29 10 W' w.heap.size v (upX x0) ∧ Below w.heap.size w W' := by
  refine (callsIn_wide (n := 5)).1 ?_
  refine callsIn_of_wp_marks Tryd.func23 rfl trivial ?_ rfl
  simp only [Tryd.ntmps23, List.size_toArray, List.length_cons, List.length_nil, Nat.reduceAdd, Nat.reduceSub, Array.replicate_succ, Array.replicate_zero, List.push_toArray, List.append_toArray, List.nil_append, List.cons_append]
  have HG0 : Hid (((w.alloc (.cells (bC x0.1) 29)).alloc (.cells #[.slice none 0 0] 46)).heap[w.heap.size]? = some (.cells (bC x0.1) 29 (0, 0))) := heap_alloc2_old _ _ _
  have HG1 : Hid (((w.alloc (.cells (bC x0.1) 29)).alloc (.cells #[.slice none 0 0] 46)).heap[w.heap.size + 1]? = some (.cells #[.slice none 0 0] 46 (0, 0))) := heap_alloc2_new _ _ _
  have HB1 : Hid (Below w.heap.size w ((w.alloc (.cells (bC x0.1) 29)).alloc (.cells #[.slice none 0 0] 46))) := below_alloc2 _ _ _
  have HZ1 : Hid (((w.alloc (.cells (bC x0.1) 29)).alloc (.cells #[.slice none 0 0] 46)).heap.size = w.heap.size + 2) := by show _ = _; simp
  gi_upto_region 2 with fail
  generalize ((w.alloc (.cells (bC x0.1) 29)).alloc (.cells #[.slice none 0 0] 46)) = W1 at *
  gi_wp2_with (first
    | ((refine inl_ldr rfl 29 _ rfl w.heap.size 0 (bC x0.1).toList _ Tryd.underlying29 rfl (by rw [sizTag]; simp [bC, x0.2]) rfl (range_whole (by simpa using HG0.out)) ?_))
    | (refine ⟨trivial, ?_⟩; gi_at_call 53; (refine (callsIn_wide.2 (run_up x0.1 _)).mono ?_); rintro e w5 ⟨rfl, rfl⟩))
  have HGb : Hid (Boxed (W1.alloc (.cells (bC x0.1) 29)) (w.heap.size + 1) 46 (.slice none 0 0)) := Boxed.alloc HG1.out _
  have HGx : Hid ((W1.alloc (.cells (bC x0.1) 29)).heap[W1.heap.size]? = some (Obj.cells (bC x0.1) 29 (0, 0))) := heap_alloc_new _ _
  have HB2 : Hid (Below w.heap.size w (W1.alloc (.cells (bC x0.1) 29))) := HB1.out.alloc HB1.out.size _
  have HZ2 : Hid ((W1.alloc (.cells (bC x0.1) 29)).heap.size = w.heap.size + 3) := by show _ = _; simp [HZ1.out]
  have hz1 := HZ1.out
  rw [hz1] at HGx ⊢
  generalize (W1.alloc (.cells (bC x0.1) 29)) = W0 at *
  have hz2 := HZ2.out
  have hBsz := HB2.out.size
  clear hz1 HG0 HG1 HB1 HZ1
  refine wpIn_rangeFunc_ownH (F := Fence.wide) rfl (by omega) (gf := 64) (lb := #[.pointer (some ⟨w.heap.size + 2, 0, none⟩)]) rfl trivial (enters_of Tryd.func64 (by kernel_rfl) rfl)
    (up_stops 4 (by omega) (w.heap.size + 2) w.heap.size x0 W0 _ _ _ (kpC_ok HGb.out hBsz (fun W hW => hmx.below (HB2.out.trans hW))) HGx.out) KpC.trans (kpC_put hBsz (by omega)) (Below.refl _ _) (fun _ => rfl)
    (fun pre W => (∃ v, Boxed W (w.heap.size + 1) 46 v ∧ W.ownsRow w.heap.size 29 10 v pre.length (pre.flatMap encB) ∧ (pre = [] → v = .slice none 0 0)) ∧ Below w.heap.size w W)
    (fun _ _ _ => False)
    (OwnFrom.and (Own.from (holdsRow_own w.heap.size (w.heap.size + 1) 46 29 10 (fun pre : List B10 => pre.length) (fun pre => pre.flatMap encB) (fun pre v => pre = [] → v = .slice none 0 0)) _) (ownFrom_below (Nat.le_refl _) hBsz))
    (fun _ _ _ _ _ hs _ _ => hs)
    ⟨⟨_, HGb.out, OwnE.nil _ _, fun _ => rfl⟩, HB2.out⟩
    (fun x a' W => ∃ Bx, W.heap[Bx]? = some (Obj.cells (bC x.1) 29 (0, 0)) ∧ a' = { tmps := #[.agg (bC x0.1), .pointer (some ⟨w.heap.size, 0, none⟩), .slice none 0 0, .pointer (some ⟨w.heap.size + 1, 0, none⟩), .pointer (some ⟨Bx, 0, none⟩), .agg (bC x0.1), .func (.func 64) #[] #[.pointer (some ⟨w.heap.size + 2, 0, none⟩)], .agg (bC x.1), undef, undef, undef, undef, undef], defers := [] })
    (fun x a' _ X Y row hs hg hr => by
      obtain ⟨Bx, h1, h2⟩ := hs
      refine ⟨Bx, (hg.block Bx (lt_heap h1) (fun e => ?_)).trans h1, h2⟩
      obtain ⟨_, o, ho, hc⟩ := hr Bx e.symm
      rw [h1] at ho; cases ho; cases hc)
    ?assign ?body ?done ?stop
  case assign =>
    rintro l pre x W K hI hK
    have HI := Lib.hid hI
    have HK := Lib.hid hK
    clear hI hK
    unfold encX
    gi_wp2_with (first
      | (refine inl_strn rfl 29 _ _ rfl (bC x.1) (bC tag0) 29 (by rw [sizTag, bC_size, x.2]) (by rw [bC_size, bC_size, x.2]; rfl) (bC_one _) rfl rfl ?_))
    obtain ⟨⟨v, hv, ho, hnv⟩, hB⟩ := HI.out
    exact HK.out _ _ ((KeepsOthers.alloc _ _).from _) (kpC_below hB.size hv.lt (below_alloc1 _ _)) ⟨⟨v, hv.alloc _, OwnE.below (enc := encB) ho (below_alloc1 _ _), hnv⟩, hB.alloc hB.size _⟩ ⟨W.heap.size, heap_alloc_new _ _, rfl⟩
  case body =>
    rintro l pre x a' W _ _ ⟨⟨v, hv, ho, hnv⟩, hB⟩ ⟨Bx, hx, rfl⟩ hlt
    obtain ⟨base, hb0, hbW, hob, hnil⟩ : ∃ base, w.heap.size ≤ base ∧ base ≤ W.heap.size ∧ OwnE encB 29 10 W base v pre ∧ (pre = [] → W.heap.size ≤ base) := by
      by_cases h : pre = []
      · have := hnv h
        subst this
        exact ⟨W.heap.size, hB.size, Nat.le_refl _, by rw [h]; exact OwnE.nil _ _, fun _ => Nat.le_refl _⟩
      · exact ⟨w.heap.size, Nat.le_refl _, hB.size, ho, fun e => absurd e h⟩
    have hc := hv.cell
    have hf := hv.frozen
    have hl4 := upX_len x0
    have HX := Lib.hid hx
    have HO := Lib.hid hob
    have HHv := Lib.hid hv
    clear hx hob ho hv
    gi_wp2_with (first
      | (refine inl_ldr rfl 29 _ rfl Bx 0 (bC x.1).toList _ Tryd.underlying29 rfl (by rw [sizTag]; simp [bC, x.2]) rfl (range_whole (by simpa using HX.out)) ?_)
      | (refine inl_bs1 (enc := encB) (k := 10) 46 29 10 (.agg (bC tag0)) Tryd.underlying46 infoTg (by omega) (by omega) encB_len rfl _ rfl x rfl ?_)
      | (refine inl_app1 (enc := encB) (k := 10) 46 29 10 (.agg (bC tag0)) Tryd.underlying46 infoTg rfl (by omega) encB_len encB_one rfl _ _ rfl base v pre rfl (HO.out.below (below_alloc1 _ _)) W.heap.size 1 x rfl (fun j u hu => by rw [Nat.zero_add, cell_blk (heap_alloc_new _ _)]; simpa using hu) (by omega) (by unfold maxLen; omega) (by simp; omega) (fun v' w1 ho1 hg1 => ?_); obtain ⟨q', cap', hv', -⟩ := ho1.at encB_len; rw [show (pre ++ [x]).length = pre.length + 1 from by simp] at hv'; obtain ⟨hv1, hv2, hr2, hk2, hb2⟩ := HHv.out.appended (by decide) (HO.out.base hb0) hB.size (Nat.le_succ _) (ho1.base hb0) hg1; have hr3 := World.ownsRow.kept ho1 (grownBy_setCell' w1 (w.heap.size + 1) v') (.inr (hv1.not_row (by decide) ho1).symm); have hp := kpC_app HHv.out HO.out hnil hg1 hv2 hr3 hb2; have hc1 := hv1.cell; have hf1 := hv1.frozen; have HF := Lib.hid (And.intro hk2 (And.intro hp (And.intro hv2 (And.intro hr2 hb2)))); clear hk2 hp hv2 hr2 hb2 hr3 ho1 hg1 hv1; subst hv'))
    obtain ⟨hk2, hp, hv2, hr2, hb2⟩ := HF.out
    exact ⟨hk2.from _, hp, ⟨_, hv2, hr2, fun e => absurd e (by simp)⟩, hB.trans hb2⟩
  case done =>
    rintro D ys W hD rfl ⟨⟨v, hv, ho, _⟩, hB⟩ hK
    have hc := hv.cell
    gi_wp2
    refine ⟨by simp, .inl ⟨_, _, rfl, run_takeDeferred hK, ?_⟩⟩
    exact ⟨_, results_tmp rfl _ _ _, v, rfl, ownsRow_putObj ho _ hK rfl, hB.trans (belowK_b (w := w) (Nat.le_refl _) W D _ _ (by omega) hK rfl rfl)⟩
  case stop =>
    rintro D c pre W _ _ h _
    exact h.elim
end Go.Proofs.YtnambaiafailaaaDoor
