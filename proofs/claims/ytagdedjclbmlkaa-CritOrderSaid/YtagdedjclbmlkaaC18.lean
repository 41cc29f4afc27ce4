/- Map of items. -/
import Derived.Test.YtagdedjclbmlkaaC17
import Derived.RangeFuncNested
import Derived.Deep.RegionHeld
namespace Go.Proofs.Ytagdedjclbmlkaa
open Go.RowKit

attribute [local go_sem] Oper.semAt_some

/-- A block of cells, under what an iterator keeps. -/
theorem ownFrom_cells {β : Type} (B k : Nat) (cs : Array Value) (T : TypeId) : OwnFrom B (fun (_ : β) W => W.heap[k]? = some (.cells cs T (0, 0))) := by
  rintro s X Y row h hg hr
  refine (hg.block k (lt_heap h) (fun e => ?_)).trans h
  obtain ⟨_, o, ho, hc⟩ := hr k e.symm
  rw [h] at ho; cases ho; cases hc
theorem ownFrom_inT {β : Type} (B : Nat) : ∀ t : T, OwnFrom B (fun (_ : β) W => InT W t)
  | .leaf a _ _ => ownFrom_cells B a _ NODE
  | .fork a _ l r => fun s X Y row h hg hr =>
    ⟨ownFrom_cells (β := β) B a _ NODE s X Y row h.1 hg hr, ownFrom_inT (β := β) B l s X Y row h.2.1 hg hr, ownFrom_inT (β := β) B r s X Y row h.2.2 hg hr⟩
theorem ownFrom_inO {β : Type} (B : Nat) (o : Option T) : OwnFrom B (fun (_ : β) W => InO W o) := by
  cases o with
  | none => intro s X Y row h _ _; trivial
  | some t => exact ownFrom_inT B t
theorem InO.kp {n₀ : Nat} {Ts : List TypeId} (hN : NODE ∉ Ts) {W W' : World} {o : Option T} (h : InO W o) (hk : KpT n₀ Ts W W') : InO W' o := by
  cases o with
  | none => trivial
  | some t => exact InT.kp (t := t) hN h hk
/-- Behind an append; behind a store into the box. -/
theorem kpT_grow {α : Type} {enc : α → List Value} {k n₀ : Nat} {tE : TypeId} {Ts : List TypeId} {W w1 : World} {v : Value} {pre : List α} (ho : OwnE enc tE k W n₀ v pre) (hE : tE ∈ Ts) (hg : W.grownBy w1 v.ownBlock) (hn : n₀ ≤ W.heap.size) : KpT n₀ Ts W w1 := by
  obtain ⟨_, ⟨rfl, _⟩ | ⟨j, cap, cur, rfl, hj, hh, _⟩⟩ := ho
  · exact ⟨grown_below hg (fun g e => by simp [Value.ownBlock] at e) hn, fun g cs T hgc _ => hg.block g (lt_heap hgc) (by simp [Value.ownBlock])⟩
  · refine ⟨grown_below hg (fun g e => ?_) hn, fun g cs T hgc hT => hg.block g (lt_heap hgc) (fun e => ?_)⟩
    · have : j = g := by simpa [Value.ownBlock] using e
      omega
    · obtain rfl : j = g := by simpa [Value.ownBlock] using e.symm
      rw [hgc] at hh
      simp only [Option.some.injEq, Obj.cells.injEq] at hh
      exact hT (hh.2.1 ▸ hE)
theorem kpT_set {n₀ B : Nat} {tS : TypeId} {Ts : List TypeId} {W : World} {v v' : Value} (hv : Boxed W B tS v) (hS : tS ∈ Ts) (hB : n₀ ≤ B) : KpT n₀ Ts W (W.setCell ⟨B, 0, none⟩ v') :=
  ⟨grown_below (v := .slice (some ⟨B, 0, none⟩) 1 1) (grownBy_setCell' W B v') (fun g e => by
      have : B = g := by simpa [Value.ownBlock] using e
      omega) (Nat.le_of_lt (Nat.lt_of_le_of_lt hB hv.lt)), fun g cs T hgc hT => Below.heap_setCell _ _ _ g (fun e => by
    subst e
    have := hgc.symm.trans hv
    simp only [Option.some.injEq, Obj.cells.injEq] at this
    exact hT (this.2.1 ▸ hS))⟩
theorem fil_nil {o : Option T} (l : List (LV o)) : fil [] l = l := by
  unfold fil
  rw [List.filter_eq_self]
  intro x _
  rfl
theorem ag95 (w : World) : (isAgg 95).run Try.prog w = .ok false w := by simp [isAgg, run_underlying Try.underlying95]
theorem ag99 (w : World) : (isAgg 99).run Try.prog w = .ok false w := by simp [isAgg, run_underlying Try.underlying99]
theorem takeD {P : Program} {md : Region.Mode} {ops : Array Oper} {Q : Exit → Act → World → Prop} {S : World → Prop} {i : Nat} {oi : Oper} {v : Value} {fuel : Nat} {listed : Array Bool} {a : Act} {w : World} (d : Nat) (hi : ops[i]? = some oi) (hd : oi.dst = some d)
    (hs : Region.noSelect ops = true) (hf : Region.free md ops listed i = true) (hr : (Region.ready md ops listed).contains i = true)
    (hQ : ∀ c a w, Q (.panic c) (a.put (some d) v) w → Q (.panic c) a w) (hy : YieldsIf P ops S oi v a) (hS : S w)
    (h : wpAnyH P md ops Q S fuel (listed.setIfInBounds i true) (a.put (some d) v) w) : wpAnyH P md ops Q S (fuel + 1) listed a w :=
  wpAnyH_take hi hs hf hr (by rw [hd]; exact hQ) hy hS (by rw [hd]; exact h)
theorem oneH {P : Program} {md : Region.Mode} {ops : Array Oper} {Q : Exit → Act → World → Prop} {S : World → Prop} (i : Nat) {fuel : Nat} {listed : Array Bool} {a : Act} {w : World} (hr : Region.ready md ops listed = [i])
    (h : wpOp P ops Q i (fun a' w' => S w' ∧ wpAnyH P md ops Q S fuel (listed.setIfInBounds i true) a' w') a w) : wpAnyH P md ops Q S (fuel + 1) listed a w :=
  wpAnyH_all hr (by simp) fun j hj => by
    rw [List.mem_singleton] at hj
    subst hj
    exact h
theorem twoH {P : Program} {md : Region.Mode} {ops : Array Oper} {Q : Exit → Act → World → Prop} {S : World → Prop} (i j : Nat) {fuel : Nat} {listed : Array Bool} {a : Act} {w : World} (hr : Region.ready md ops listed = [i, j])
    (h : wpOp P ops Q i (fun a' w' => S w' ∧ wpAnyH P md ops Q S fuel (listed.setIfInBounds i true) a' w') a w) (h' : wpOp P ops Q j (fun a' w' => S w' ∧ wpAnyH P md ops Q S fuel (listed.setIfInBounds j true) a' w') a w) : wpAnyH P md ops Q S (fuel + 1) listed a w :=
  wpAnyH_all hr (by simp) fun k hk => by
    simp only [List.mem_cons, List.not_mem_nil, or_false] at hk
    rcases hk with rfl | rfl
    · exact h
    · exact h'
theorem exec_bs1 {P : Program} {o : Oper} {a : Act} {w : World} {α : Type} {enc : α → List Value} {k : Nat} (T E : TypeId) (bytes : Nat) (z : Value) (hT : P.underlying T = some (.slice E)) (hinf : (P.info? E).map (fun i => (i.zero, i.size, i.bytes)) = some (some z, k, bytes)) (hk0 : 0 < k) (hk2 : k ≤ 1000000) (hk : ∀ x, (enc x).length = k)
    (x : Operand) (ho : o.op = .buildSlice T 1 #[(0, x)]) (y : α) (hx : a.eval x = .agg (enc y).toArray) : (execOp a.eval o).run P w = .ok (.value (.slice (some ⟨w.heap.size, 0, none⟩) 1 1)) (w.alloc (.cells (enc y).toArray E)) := by
  obtain ⟨ie, hie, hz, hsz, hby⟩ := info_parts hinf
  have hb := run_buildSlice (P := P) w T E 1 #[(0, .agg (enc y).toArray)] (enc y).toArray ie z hT hie hz (by rw [hsz]; omega) (by rw [hsz]; omega) (by
    rw [hsz]
    have := Great.fill_whole (s := k) hk0 [.agg (enc y).toArray] ((Array.range (1 * k)).map (z.cells[· % z.cells.size]!)) (fun v hv => by
      simp at hv; subst hv
      show (enc y).toArray.size = k
      simp [hk]) (by simp)
    simp only [List.zipIdx_cons, List.zipIdx_nil, List.map_cons, List.map_nil] at this
    rw [this]
    simp [Value.cells])
  unfold execOp
  have hp : (#[(0, x)].map fun (p : Nat × Operand) => (p.1, a.eval p.2)) = #[(0, Value.agg (enc y).toArray)] := by simp [hx]
  simp only [ho, Sem.run_bind, hp, hb, Result.andThen_ok, Sem.run_pure]
theorem exec_callV {P : Program} {o : Oper} {a : Act} {f : FuncId} (x : Operand) {xs : Array Operand} {ts : Array TypeId} {vs : Array Value} (ho : o.op = .call { callee := .value x, args := xs, argTypes := ts }) (hx : a.eval x = .func (.func f) #[] #[]) (hf : ∀ args w, (callFunc f args).run P w = .ok (.enter f args) w) (hxs : xs.map a.eval = vs) (w : World) : (execOp a.eval o).run P w = .ok (.enter f vs) w := by
  unfold execOp
  simp [ho, resolve, invoke, hxs, hf, hx, Deferred.ofValue]
theorem put_comm (a : Act) {d d' : Nat} (h : d ≠ d') (v v' : Value) : (a.put (some d) v).put (some d') v' = (a.put (some d') v').put (some d) v := by
  simp only [Act.put, Array.setIfInBounds_comm v v' h]
theorem exec_stB {P : Program} {o : Oper} {a : Act} {w : World} {T : TypeId} (hsz : (P.info? T).map (·.size) = some 1) (x y : Operand) (ho : o.op = .store T x y) (b : Nat) {T' : TypeId} {old : Value} (v : Value) (hv : Boxed w b T' old) (hx : a.eval x = .pointer (some ⟨b, 0, none⟩)) (hy : a.eval y = v) (h1 : ∃ q n c, v = .slice q n c) :
    (execOp a.eval o).run P w = .ok .skip (w.setCell ⟨b, 0, none⟩ v) := by
  have hc := hv.cell
  have hf := hv.frozen
  obtain ⟨q, n, c, rfl⟩ := h1
  cases hq : P.info? T with
  | none => simp [hq] at hsz
  | some inf =>
    have hs : inf.size = 1 := by simpa [hq] using hsz
    unfold execOp
    simp only [ho, hx, hy, Sem.run_bind]
    simp [go_sem, sizeOf, typeInfo, hq, hs, hc, hf]
theorem oneSlice {α : Type} {enc : α → List Value} {k : Nat} {E : TypeId} {w : World} {base : Nat} {v : Value} {xs : List α} (h : OwnE enc E k w base v xs) : ∃ q n c, v = .slice q n c := by
  obtain ⟨p, c, rfl⟩ := h.slice
  exact ⟨_, _, _, rfl⟩
theorem slat1 {α : Type} {enc : α → List Value} {k : Nat} (w : World) (y : α) (E : TypeId) : SlAt enc k (w.alloc (.cells (enc y).toArray E)) (some ⟨w.heap.size, 0, none⟩) [y] := fun i hi => by
  have h0 : i = 0 := by simp at hi; omega
  subst h0
  refine ⟨w.heap.size, 0, rfl, by simp, ?_⟩
  rw [Nat.zero_mul]
  exact range_whole (by simpa using heap_alloc_new w (.cells (enc y).toArray E))
/-- A load that may come up ahead of a call, behind it, or behind the laying of the element. -/
theorem free_call {P : Program} {md : Region.Mode} {ops : Array Oper} {Q : Exit → Act → World → Prop} {S : World → Prop} {fuel : Nat} {L : Array Bool} {a : Act} {w : World} (W : World) (hb : Below W.heap.size W w) (hS : ∀ w', Below W.heap.size W w' → S w')
    (i0 ic ib d0 dc db : Nat) {o0 oc ob : Oper} (v vc : Value) (obj : Obj) (f : FuncId) (args : Array Value) (h0 : ops[i0]? = some o0) (hc : ops[ic]? = some oc) (hbs : ops[ib]? = some ob)
    (g0 : o0.guard = none) (gc : oc.guard = none) (gb : ob.guard = none) (q0 : o0.dst = some d0) (qc : oc.dst = some dc) (qb : ob.dst = some db) (hi : i0 ≠ ic ∧ i0 ≠ ib) (hd : d0 ≠ dc ∧ d0 ≠ db)
    (r0 : Region.ready md ops L = [i0, ic]) (r1 : Region.ready md ops (L.setIfInBounds i0 true) = [ic]) (r2 : Region.ready md ops ((L.setIfInBounds i0 true).setIfInBounds ic true) = [ib]) (r3 : Region.ready md ops (L.setIfInBounds ic true) = [i0, ib]) (r4 : Region.ready md ops ((L.setIfInBounds ic true).setIfInBounds ib true) = [i0])
    (x0 : ∀ w', Below W.heap.size W w' → (execOp a.eval o0).run P w' = .ok (.value v) w') (x1 : ∀ w', Below W.heap.size W w' → (execOp (a.put (some dc) vc).eval o0).run P w' = .ok (.value v) w') (x2 : ∀ p w', Below W.heap.size W w' → (execOp ((a.put (some dc) vc).put (some db) p).eval o0).run P w' = .ok (.value v) w')
    (y0 : (execOp a.eval oc).run P w = .ok (.enter f args) w) (y1 : (execOp (a.put (some d0) v).eval oc).run P w = .ok (.enter f args) w) (K : Calls P f args w fun e w' => e = .returned vc ∧ Below w.heap.size w w')
    (z0 : ∀ w', (execOp (a.put (some dc) vc).eval ob).run P w' = .ok (.value (.slice (some ⟨w'.heap.size, 0, none⟩) 1 1)) (w'.alloc obj)) (z1 : ∀ w', (execOp ((a.put (some d0) v).put (some dc) vc).eval ob).run P w' = .ok (.value (.slice (some ⟨w'.heap.size, 0, none⟩) 1 1)) (w'.alloc obj))
    (hT : ∀ w2, Below W.heap.size W w2 → wpAnyH P md ops Q S fuel (((L.setIfInBounds i0 true).setIfInBounds ic true).setIfInBounds ib true) (((a.put (some d0) v).put (some dc) vc).put (some db) (.slice (some ⟨w2.heap.size, 0, none⟩) 1 1)) (w2.alloc obj)) :
    wpAnyH P md ops Q S (fuel + 3) L a w := by
  have ba : ∀ w2, Below W.heap.size W w2 → Below W.heap.size W (w2.alloc obj) := fun w2 h => h.alloc h.size _
  refine twoH i0 ic r0 (wpOp_val h0 g0 (x0 w hb) ⟨hS w hb, oneH ic r1 (wpOp_enter hc gc (by rw [q0]; exact y1) K fun w2 hb2 => ?_)⟩) (wpOp_enter hc gc y0 K fun w2 hb2 => ?_)
  · have h2 : Below W.heap.size W w2 := hb.trans (hb2.mono hb.size)
    refine ⟨hS w2 h2, oneH ib r2 (wpOp_val hbs gb (by rw [q0, qc]; exact z1 w2) ⟨hS _ (ba w2 h2), ?_⟩)⟩
    rw [q0, qc, qb]
    exact hT w2 h2
  · have h2 : Below W.heap.size W w2 := hb.trans (hb2.mono hb.size)
    refine ⟨hS w2 h2, twoH i0 ib r3 (wpOp_val h0 g0 (by rw [qc]; exact x1 w2 h2) ⟨hS w2 h2, ?_⟩) (wpOp_val hbs gb (by rw [qc]; exact z0 w2) ⟨hS _ (ba w2 h2), ?_⟩)⟩
    · rw [Array.setIfInBounds_comm _ _ hi.1.symm, qc, q0, put_comm a hd.1.symm]
      refine oneH ib r2 (wpOp_val hbs gb (z1 w2) ⟨hS _ (ba w2 h2), ?_⟩)
      rw [qb]
      exact hT w2 h2
    · refine oneH i0 r4 (wpOp_val h0 g0 (by rw [qc, qb]; exact x2 _ _ (ba w2 h2)) ⟨hS _ (ba w2 h2), ?_⟩)
      rw [qc, qb, q0, put_comm _ hd.2.symm, put_comm a hd.1.symm, Array.setIfInBounds_comm _ _ hi.2.symm, Array.setIfInBounds_comm _ _ hi.1.symm]
      exact hT w2 h2
theorem siz95 : (Try.prog.info? 95).map (·.size) = some 1 := by kernel_rfl
def nm (o : Option T) (h : WFO o) (l : List (LV o)) : List KV := l.map (kvOf h)
theorem nm_snoc {o : Option T} (h : WFO o) (l : List (LV o)) (x : LV o) : nm o h (l ++ [x]) = nm o h l ++ [kvOf h x] := by simp [nm]
set_option maxRecDepth 100000 in
set_option maxHeartbeats 4000000 in
theorem mapI_any (o : Option T) (w : World) (B tb : Nat) (hT : TreeAt w B tb o) (hn : (allO o).length ≤ 1000000) :
    Calls Try.prog 40 #[ptrA tb, .func (.func 41) #[] #[]] w fun e W' => ∃ v ys, e = .returned v ∧ OwnE kvC 98 26 W' w.heap.size v ys ∧ ys.map KV.p = allO o ∧ Below w.heap.size w W' := by
  refine (callsIn_wide (n := 5)).1 ?_
  refine callsIn_of_wp_marks Try.func40 rfl trivial ?_ rfl
  simp only [Try.ntmps40, List.size_toArray, List.length_cons, List.length_nil, Nat.reduceAdd, Nat.reduceSub, Array.replicate_succ, Array.replicate_zero, List.push_toArray, List.append_toArray, List.nil_append, List.cons_append]
  have HG0 : Hid (((w.alloc (.cells #[.func (.func 41) #[] #[]] 99)).alloc (.cells #[.slice none 0 0] 95)).heap[w.heap.size]? = some (.cells #[.func (.func 41) #[] #[]] 99 (0, 0))) := heap_alloc2_old _ _ _
  have HG1 : Hid (((w.alloc (.cells #[.func (.func 41) #[] #[]] 99)).alloc (.cells #[.slice none 0 0] 95)).heap[w.heap.size + 1]? = some (.cells #[.slice none 0 0] 95 (0, 0))) := heap_alloc2_new _ _ _
  have HB1 : Hid (Below w.heap.size w ((w.alloc (.cells #[.func (.func 41) #[] #[]] 99)).alloc (.cells #[.slice none 0 0] 95))) := below_alloc2 _ _ _
  have HZ1 : Hid (((w.alloc (.cells #[.func (.func 41) #[] #[]] 99)).alloc (.cells #[.slice none 0 0] 95)).heap.size = w.heap.size + 2) := by show _ = _; simp
  have HT := Lib.hid hT
  clear hT
  gi_upto_region 2 with fail
  generalize ((w.alloc (.cells #[.func (.func 41) #[] #[]] 99)).alloc (.cells #[.slice none 0 0] 95)) = W1 at *
  gi_wp2_with (first
    | (refine ⟨trivial, ?_⟩; gi_at_call 45; (refine (callsIn_wide.2 (leaves_any _ none 0 0 _)).mono ?_); rintro e w5 ⟨rfl, rfl⟩))
  have HGf : Hid (((W1.alloc (.cells #[.pointer (some ⟨tb, 0, none⟩)] 31)).alloc (.cells #[.slice none 0 0] 109)).heap[w.heap.size]? = some (.cells #[.func (.func 41) #[] #[]] 99 (0, 0))) := by
    show _ = _
    exact ((below_alloc2 W1 _ _).block _ (lt_heap HG0.out)).trans HG0.out
  have HGo : Hid (Boxed ((W1.alloc (.cells #[.pointer (some ⟨tb, 0, none⟩)] 31)).alloc (.cells #[.slice none 0 0] 109)) (w.heap.size + 1) 95 (.slice none 0 0)) := ((below_alloc2 W1 _ _).block _ (lt_heap HG1.out)).trans HG1.out
  have HGt : Hid (((W1.alloc (.cells #[.pointer (some ⟨tb, 0, none⟩)] 31)).alloc (.cells #[.slice none 0 0] 109)).heap[W1.heap.size]? = some (.cells #[.pointer (some ⟨tb, 0, none⟩)] 31 (0, 0))) := heap_alloc2_old _ _ _
  have HGb : Hid (((W1.alloc (.cells #[.pointer (some ⟨tb, 0, none⟩)] 31)).alloc (.cells #[.slice none 0 0] 109)).heap[W1.heap.size + 1]? = some (.cells #[.slice none 0 0] 109 (0, 0))) := heap_alloc2_new _ _ _
  have HB2 : Hid (Below w.heap.size w ((W1.alloc (.cells #[.pointer (some ⟨tb, 0, none⟩)] 31)).alloc (.cells #[.slice none 0 0] 109))) := HB1.out.trans ((below_alloc2 W1 _ _).mono HB1.out.size)
  have HZ2 : Hid (((W1.alloc (.cells #[.pointer (some ⟨tb, 0, none⟩)] 31)).alloc (.cells #[.slice none 0 0] 109)).heap.size = w.heap.size + 4) := by show _ = _; simp [HZ1.out]
  have hz1 := HZ1.out
  rw [hz1] at HGt HGb ⊢
  generalize ((W1.alloc (.cells #[.pointer (some ⟨tb, 0, none⟩)] 31)).alloc (.cells #[.slice none 0 0] 109)) = W0 at *
  have hz2 := HZ2.out
  have hBsz := HB2.out.size
  have hT0 := HT.out.below HB2.out
  have hall : (allL [] o).length ≤ 1000000 := by
    have := congrArg List.length (fil_all (fr := []) hT0.wf)
    rw [fil_nil, List.length_map] at this
    rw [this]
    exact Nat.le_trans (List.length_filter_le _ _) hn
  clear hz1 HG0 HG1 HB1 HZ1
  refine wpIn_rangeFunc_ownH (F := Fence.wide) rfl (by omega) (gf := 55) (lb := #[.pointer (some ⟨w.heap.size + 2, 0, none⟩), .pointer (some ⟨w.heap.size + 3, 0, none⟩)]) rfl trivial (enters_of Try.func55 (by kernel_rfl) rfl)
    (lv_stops 4 (w.heap.size + 2) (w.heap.size + 3) w.heap.size tb B _ o none 0 0 [] W0 [95, 98] (by decide) (by decide) (by decide) (by decide) rfl (by omega) hBsz hT0.n HGt.out HGb.out (.inl rfl)) KpT.trans (KpT.put hBsz) (Below.refl _ _) (fun _ => rfl)
    (fun pre W => (∃ v, Boxed W (w.heap.size + 1) 95 v ∧ W.ownsRow w.heap.size 98 26 v (nm o hT0.wf pre).length ((nm o hT0.wf pre).flatMap kvC) ∧ True) ∧ (InO W o ∧ W.heap[w.heap.size]? = some (.cells #[.func (.func 41) #[] #[]] 99 (0, 0)) ∧ Below w.heap.size w W))
    (fun _ _ _ => False)
    (OwnFrom.and (Own.from (holdsRow_own w.heap.size (w.heap.size + 1) 95 98 26 (fun pre : List (LV o) => (nm o hT0.wf pre).length) (fun pre => (nm o hT0.wf pre).flatMap kvC) (fun _ _ => True)) _) (OwnFrom.and (ownFrom_inO _ o) (OwnFrom.and (ownFrom_cells _ _ _ _) (ownFrom_below (Nat.le_refl _) hBsz))))
    (fun _ _ _ _ _ hs _ _ => hs)
    ⟨⟨_, HGo.out, OwnE.nil _ _, trivial⟩, hT0.ins, HGf.out, HB2.out⟩
    (fun x a' _ => a' = { tmps := #[ptrA tb, .func (.func 41) #[] #[], undef, .pointer (some ⟨w.heap.size, 0, none⟩), .slice none 0 0, .pointer (some ⟨w.heap.size + 1, 0, none⟩), .pointer (some ⟨x.val.1, 0, none⟩), ptrA tb, .func (.func 55) #[] #[.pointer (some ⟨w.heap.size + 2, 0, none⟩), .pointer (some ⟨w.heap.size + 3, 0, none⟩)], .pointer (some ⟨x.val.1, 0, none⟩), undef, undef, undef, undef, undef, undef, undef, undef, undef, undef, undef, undef, undef, undef], defers := [] })
    (fun x a' _ X Y row hs _ _ => hs)
    ?assign ?body ?done ?stop
  case assign =>
    rintro l pre x W K hI hK
    have HI := Lib.hid hI
    have HK := Lib.hid hK
    clear hI hK
    unfold encL
    gi_wp2
    exact HK.out _ _ ((KeepsOthers.refl _).from _) (KpT.below HI.out.2.2.2.size (Below.refl _ _)) HI.out rfl
  case body =>
    rintro l pre x a' W hWl _ ⟨⟨v, hv, ho, -⟩, hI, hF, hB⟩ rfl hlt
    have hx := hI.leafAt x.val x.mem
    have hk := lvsO_len hT0.wf x.val x.mem
    have hol := OwnE.at kvC_len ho
    obtain ⟨q, cap, hve, -⟩ := hol
    have hlen : (nm o hT0.wf pre).length ≤ 1000000 := by
      rw [fil_nil] at hlt
      unfold nm
      rw [List.length_map]
      omega
    subst hve
    have hc5 := hv.cell
    have hc3 : W.cell? ⟨w.heap.size, 0, none⟩ = some (.func (.func 41) #[] #[]) := by rw [cell_blk hF]; rfl
    have hl5 := hv.lt
    have hl3 := lt_heap hF
    have hxl := lt_heap hx
    have hR1 : W.rangeAt x.val.1 1 (bC x.val.2.1).toList := nodeV_key (range_whole hx)
    have hc51 : W.cell? ⟨x.val.1, 51, none⟩ = some (.int .i64 x.val.2.2) := by
      have := nodeV_tail (range_whole hx) hk hk 0 _ rfl
      exact this
    have KI : Hid (∀ w', Calls Try.prog 41 #[.agg (bC x.val.2.1), .int .i64 x.val.2.2] w' fun e w'' => e = .returned (.agg (kvC (kvOf hT0.wf x)).toArray) ∧ Below w'.heap.size w' w'') := fun w' => item_any (kvOf hT0.wf x) w'
    have HV := Lib.hid hv
    have HO := Lib.hid ho
    have HI := Lib.hid hI
    have HF := Lib.hid hF
    have HB := Lib.hid hB
    clear hv ho hI hF hB hlt
    refine wpIn_block ?_
    refine wpIn_region_any (by kernel_rfl) (any_round (by kernel_rfl) (fun h => ?_) _ _ _ _ (wpAny_of_held (S := KpT w.heap.size [95, 98] W) _ _ _ _ ?_))
    · obtain ⟨_, _, h⟩ := h
      exact h
    show wpAnyH _ _ _ _ _ _ _ _ (World.drew _)
    have hbd : Below W.heap.size W W.drew := ⟨rfl, rfl, rfl, Nat.le_refl _, fun _ _ => rfl⟩
    have hS0 : KpT w.heap.size [95, 98] W W.drew := KpT.below HB.out.size hbd
    have hSf : ∀ w', KpT w.heap.size [95, 98] W w' → w'.cell? ⟨w.heap.size, 0, none⟩ = some (.func (.func 41) #[] #[]) := fun w' h => by
      rw [cell_blk ((h.2 _ _ _ HF.out (by decide)).trans HF.out)]; rfl
    have hSx : ∀ w', KpT w.heap.size [95, 98] W w' → w'.heap[x.val.1]? = some (.cells (leafC x.val.2.1 x.val.2.2).toArray NODE (0, 0)) := fun w' h => (h.2 _ _ _ hx (by decide)).trans hx
    generalize W.drew = Wd at *
    refine takeD (i := 1) (v := .func (.func 41) #[] #[]) 11 rfl rfl (by kernel_rfl) (by kernel_rfl) (by kernel_rfl) (fun _ _ _ h => h) (Or.inl ⟨rfl, fun w' hS => exec_ld1G _ ag99 (.tmp 3) rfl _ 0 _ rfl (hSf w' hS)⟩) hS0 ?_
    simp only [Act.put, List.setIfInBounds_toArray, List.set_cons_zero, List.set_cons_succ]
    refine takeD (i := 2) (v := .pointer (some ⟨x.val.1, 0, none⟩)) 12 rfl rfl (by kernel_rfl) (by kernel_rfl) (by kernel_rfl) (fun _ _ _ h => h) (Or.inl ⟨rfl, fun w' hS => rfl⟩) hS0 ?_
    simp only [Act.put, List.setIfInBounds_toArray, List.set_cons_zero, List.set_cons_succ]
    refine takeD (i := 3) (v := .pointer (some ⟨x.val.1, 0, none⟩)) 13 rfl rfl (by kernel_rfl) (by kernel_rfl) (by kernel_rfl) (fun _ _ _ h => h) (Or.inl ⟨rfl, fun w' hS => exec_nilc (.tmp 12) rfl ⟨x.val.1, 0, none⟩ rfl⟩) hS0 ?_
    simp only [Act.put, List.setIfInBounds_toArray, List.set_cons_zero, List.set_cons_succ]
    refine takeD (i := 4) (v := .pointer (some ⟨x.val.1, 1, none⟩)) 14 rfl rfl (by kernel_rfl) (by kernel_rfl) (by kernel_rfl) (fun _ _ _ h => h) (Or.inl ⟨rfl, fun w' hS => by kernel_rfl⟩) hS0 ?_
    simp only [Act.put, List.setIfInBounds_toArray, List.set_cons_zero, List.set_cons_succ]
    refine takeD (i := 5) (v := .agg (bC x.val.2.1)) 15 rfl rfl (by kernel_rfl) (by kernel_rfl) (by kernel_rfl) (fun _ _ _ h => h) (Or.inl ⟨rfl, fun w' hS => exec_ldr 30 (.tmp 14) rfl x.val.1 1 (bC x.val.2.1).toList _ Try.underlying30 rfl (by rw [sizKey]; simp [bC, hk]) rfl (nodeV_key (range_whole (hSx w' hS)))⟩) hS0 ?_
    simp only [Act.put, List.setIfInBounds_toArray, List.set_cons_zero, List.set_cons_succ]
    refine takeD (i := 6) (v := .pointer (some ⟨x.val.1, 0, none⟩)) 16 rfl rfl (by kernel_rfl) (by kernel_rfl) (by kernel_rfl) (fun _ _ _ h => h) (Or.inl ⟨rfl, fun w' hS => rfl⟩) hS0 ?_
    simp only [Act.put, List.setIfInBounds_toArray, List.set_cons_zero, List.set_cons_succ]
    refine takeD (i := 7) (v := .pointer (some ⟨x.val.1, 0, none⟩)) 17 rfl rfl (by kernel_rfl) (by kernel_rfl) (by kernel_rfl) (fun _ _ _ h => h) (Or.inl ⟨rfl, fun w' hS => exec_nilc (.tmp 16) rfl ⟨x.val.1, 0, none⟩ rfl⟩) hS0 ?_
    simp only [Act.put, List.setIfInBounds_toArray, List.set_cons_zero, List.set_cons_succ]
    refine takeD (i := 8) (v := .pointer (some ⟨x.val.1, 51, none⟩)) 18 rfl rfl (by kernel_rfl) (by kernel_rfl) (by kernel_rfl) (fun _ _ _ h => h) (Or.inl ⟨rfl, fun w' hS => by kernel_rfl⟩) hS0 ?_
    simp only [Act.put, List.setIfInBounds_toArray, List.set_cons_zero, List.set_cons_succ]
    refine takeD (i := 9) (v := .int .i64 x.val.2.2) 19 rfl rfl (by kernel_rfl) (by kernel_rfl) (by kernel_rfl) (fun _ _ _ h => h) (Or.inl ⟨rfl, fun w' hS => exec_ld1G 3 ag3 (.tmp 18) rfl x.val.1 51 _ rfl (by
      have := nodeV_tail (range_whole (hSx w' hS)) hk hk 0 _ rfl
      exact this)⟩) hS0 ?_
    simp only [Act.put, List.setIfInBounds_toArray, List.set_cons_zero, List.set_cons_succ]
    have hSo : ∀ w', Below W.heap.size W w' → w'.cell? ⟨w.heap.size + 1, 0, none⟩ = some (.slice q (nm o hT0.wf pre).length cap) := fun w' h => (cell_of (h.block _ hl5) 0).trans hc5
    refine free_call W hbd (fun w' h => KpT.below HB.out.size h) 0 10 11 10 20 21 (.slice q (nm o hT0.wf pre).length cap) (.agg (kvC (kvOf hT0.wf x)).toArray) (.cells (kvC (kvOf hT0.wf x)).toArray 98) 41 #[.agg (bC x.val.2.1), .int .i64 x.val.2.2] rfl rfl rfl rfl rfl rfl rfl rfl rfl (by decide) (by decide)
      (by kernel_rfl) (by kernel_rfl) (by kernel_rfl) (by kernel_rfl) (by kernel_rfl) (fun w' h => exec_ld1G _ ag95 (.tmp 5) rfl _ 0 _ rfl (hSo w' h)) (fun w' h => exec_ld1G _ ag95 (.tmp 5) rfl _ 0 _ rfl (hSo w' h)) (fun p w' h => exec_ld1G _ ag95 (.tmp 5) rfl _ 0 _ rfl (hSo w' h))
      (by refine exec_callV (xs := #[.tmp 15, .tmp 19]) (ts := #[30, 3]) (.tmp 11) rfl ?_ (enters_of Try.func41 (by kernel_rfl) rfl) ?_ _ <;> simp [Act.eval, Act.put]) (by refine exec_callV (xs := #[.tmp 15, .tmp 19]) (ts := #[30, 3]) (.tmp 11) rfl ?_ (enters_of Try.func41 (by kernel_rfl) rfl) ?_ _ <;> simp [Act.eval, Act.put]) (KI.out _)
      (fun w' => exec_bs1 (enc := kvC) (k := 26) 95 98 40 _ Try.underlying95 infoItem (by omega) (by omega) kvC_len _ rfl (kvOf hT0.wf x) rfl) (fun w' => exec_bs1 (enc := kvC) (k := 26) 95 98 40 _ Try.underlying95 infoItem (by omega) (by omega) kvC_len _ rfl (kvOf hT0.wf x) rfl) ?_
    intro w2 h2
    simp only [Act.put, List.setIfInBounds_toArray, List.set_cons_zero, List.set_cons_succ]
    have ho2 : OwnE kvC 98 26 w2 w.heap.size (.slice q (nm o hT0.wf pre).length cap) (nm o hT0.wf pre) := OwnE.below HO.out h2
    have hv2 : Boxed w2 (w.heap.size + 1) 95 (.slice q (nm o hT0.wf pre).length cap) := (h2.block _ hl5).trans HV.out
    refine oneH 12 (by kernel_rfl) (wpOp_wp rfl rfl (op_app (enc := kvC) (k := 26) 95 98 40 _ Try.underlying95 infoItem kv0_sz (by omega) kvC_len kvC_one (.tmp 10) (.tmp 21) rfl w.heap.size _ (nm o hT0.wf pre) rfl (ho2.below (below_alloc1 _ _)) (some ⟨w2.heap.size, 0, none⟩) 1 1 [kvOf hT0.wf x] rfl rfl (slat1 w2 _ _) (fun e => by cases e) (by omega) (by unfold maxLen; omega) (by have := HB.out.size; have := h2.size; simp; omega) (fun v' w3 ho3 hg3 _ => ?_)))
    have hba := below_alloc1 w2 (.cells (kvC (kvOf hT0.wf x)).toArray 98)
    obtain ⟨hv1, hv3, hr3, hk3, hb3⟩ := hv2.appended (by decide) ho2 (Nat.le_trans HB.out.size h2.size) (Nat.le_succ _) ho3 hg3
    have hk1 : KpT w.heap.size [95, 98] W w3 := ((KpT.below HB.out.size h2).trans (KpT.below (Nat.le_trans HB.out.size h2.size) hba)).trans (kpT_grow (ho2.below hba) (by simp) hg3 (Nat.le_trans HB.out.size (Nat.le_trans h2.size hba.size)))
    have hk2 := hk1.trans (kpT_set (v' := v') hv1 (by simp) (Nat.le_succ _))
    refine ⟨hk1, ?_⟩
    simp only [Act.put, List.setIfInBounds_toArray, List.set_cons_zero, List.set_cons_succ]
    refine oneH 13 (by kernel_rfl) (wpOp_skip rfl rfl (w' := w3.setCell ⟨w.heap.size + 1, 0, none⟩ v') ?_ ⟨hk2, ?_⟩)
    · exact exec_stB siz95 (.tmp 5) (.tmp 22) rfl _ v' hv1 rfl rfl (oneSlice ho3)
    refine wpAnyH_done (by kernel_rfl) ?_ _
    refine ⟨((KeepsOthers.of_grownBy (grown_of_below h2) (fun j o' e _ => by cases e)).trans hk3).from _, hk2, ⟨v', hv3, ?_, trivial⟩, HI.out.kp (by decide) hk2, (hk2.2 _ _ _ HF.out (by decide)).trans HF.out, HB.out.trans hk2.1⟩
    rw [nm_snoc]
    exact hr3
  case done =>
    rintro D ys W hD rfl ⟨⟨v, hv, ho, _⟩, hI, hF, hB⟩ hK
    have hc := hv.cell
    gi_wp2
    refine ⟨by simp, .inl ⟨_, _, rfl, run_takeDeferred hK, ?_⟩⟩
    refine ⟨_, results_tmp rfl _ _ _, v, nm o hT0.wf (fil [] (allL [] o)), rfl, ownsRow_putObj ho _ hK rfl, ?_, hB.trans (belowK_b (w := w) (Nat.le_refl _) W D _ _ (by omega) hK rfl rfl)⟩
    unfold nm
    rw [List.map_map]
    refine (fil_all (fr := []) hT0.wf).trans ?_
    rw [List.filter_eq_self]
    intro y _
    rfl
  case stop =>
    rintro D c pre W _ _ h _
    exact h.elim
end Go.Proofs.Ytagdedjclbmlkaa
