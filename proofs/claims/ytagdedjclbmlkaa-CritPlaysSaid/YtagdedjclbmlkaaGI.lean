/- A region that draws its order: quiet operations, then two variables laid and stored ('x, y := .., ..'). Over any program. -/
import Derived.Test.YtagdedjclbmlkaaG1
import Derived.Test.YtagdedjclbmlkaaG4
import Derived.Orders
import Derived.Shelf.Abstract
namespace Go.Proofs.Ytagdedjclbmlkaa
open Go.RowKit

section
variable {P : Program} {Q : Exit → Act → World → Prop}
/-- Each operation hangs on earlier ones alone. -/
def ordB (md : Region.Mode) (ops : Array Oper) : Bool := (List.range ops.size).all fun i => ((ops[i]?).map fun o => o.after.all fun e => !Region.binds md e || decide (e.on < i)).getD true
/-- Does operation i wait for operation j? -/
def waitsB (md : Region.Mode) (ops : Array Oper) (i j : Nat) : Bool := ((ops[i]?).map fun o => o.after.any fun e => Region.binds md e && e.on == j).getD false
theorem ready_waits {md : Region.Mode} {ops : Array Oper} {listed : Array Bool} {i j : Nat} (h : i ∈ Region.ready md ops listed) (hw : waitsB md ops i j = true) : listed.getD j false = true := by
  obtain ⟨_, o, ho, hall⟩ := mem_ready.1 h
  unfold waitsB at hw
  rw [ho] at hw
  simp only [Option.map_some, Option.getD_some, Array.any_eq_true'] at hw
  obtain ⟨e, he, hb⟩ := hw
  simp only [Bool.and_eq_true, beq_iff_eq] at hb
  rw [← hb.2]; exact hall e he hb.1
theorem all_of_ready_nil {md : Region.Mode} {ops : Array Oper} {listed : Array Bool} (hz : listed.size = ops.size) (ho : ordB md ops = true) (hr : Region.ready md ops listed = []) : ∀ i, i < ops.size → listed.getD i false = true := by
  intro i
  induction i using Nat.strongRecOn with
  | ind i ih =>
    intro hi
    cases hl : listed.getD i false with
    | true => rfl
    | false =>
      exfalso
      have hm : i ∈ Region.ready md ops listed := by
        refine mem_ready.2 ⟨?_, ops[i], Array.getElem?_eq_getElem hi, fun e he hb => ?_⟩
        · simp only [Array.getD_eq_getD_getElem?, Array.getElem?_eq_getElem (hz ▸ hi : i < listed.size), Option.getD_some] at hl ⊢; exact hl
        · have h1 := List.all_eq_true.1 ho i (List.mem_range.2 hi)
          rw [Array.getElem?_eq_getElem hi] at h1
          simp only [Option.map_some, Option.getD_some, Array.all_eq_true'] at h1
          have h2 := h1 e he
          rw [hb] at h2
          have h3 : e.on < i := by simpa using h2
          exact ih e.on h3 (by omega)
      rw [hr] at hm
      cases hm
theorem wpAny_inv {md : Region.Mode} {ops : Array Oper} (Inv : Array Bool → Act → World → Prop) (ho : ordB md ops = true)
    (hs : ∀ listed a w, listed.size = ops.size → Inv listed a w → ∀ i ∈ Region.ready md ops listed, wpOp P ops Q i (Inv (listed.setIfInBounds i true)) a w)
    (he : ∀ listed a w, listed.size = ops.size → (∀ i, i < ops.size → listed.getD i false = true) → Inv listed a w → Q .normal a w) :
    ∀ fuel (listed : Array Bool) a w, listed.size = ops.size → listed.toList.count false ≤ fuel → Inv listed a w → wpAny P md ops Q fuel listed a w := by
  intro fuel
  induction fuel with
  | zero =>
    intro listed a w hz hf hi
    have hr : Region.ready md ops listed = [] := by
      rw [List.eq_nil_iff_forall_not_mem]
      intro i hm
      obtain ⟨h1, o, h2, _⟩ := mem_ready.1 hm
      have hil : i < listed.size := by rw [hz]; exact (Array.getElem?_eq_some_iff.1 h2).1
      have h3 : listed[i] = false := by simpa [Array.getD_eq_getD_getElem?, Array.getElem?_eq_getElem hil] using h1
      have h4 : false ∈ listed.toList := by rw [← h3]; exact Array.getElem_mem_toList hil
      have := List.count_pos_iff.2 h4
      omega
    exact ⟨hr, he listed a w hz (all_of_ready_nil hz ho hr) hi⟩
  | succ fuel ih =>
    intro listed a w hz hf hi
    refine ⟨fun hr => he listed a w hz (all_of_ready_nil hz ho hr) hi, fun i hm => wpOp_mono (fun a' w' h => ih _ a' w' (by simpa using hz) ?_ h) (hs listed a w hz hi i hm)⟩
    obtain ⟨h1, o, h2, _⟩ := mem_ready.1 hm
    have hil : i < listed.size := by rw [hz]; exact (Array.getElem?_eq_some_iff.1 h2).1
    have h3 : listed[i] = false := by simpa [Array.getD_eq_getD_getElem?, Array.getElem?_eq_getElem hil] using h1
    have h4 : false ∈ listed.toList := by rw [← h3]; exact Array.getElem_mem_toList hil
    have hc := List.count_pos_iff.2 h4
    rw [Array.toList_setIfInBounds, List.count_set (by simpa using hil)]
    have h5 : listed.toList[i]'(by simpa using hil) = false := by simpa using h3
    rw [h5, if_pos (show (false == false) = true from rfl), if_neg (show ¬ (true == false) = true by decide)]
    omega

/-- A frame that is as another but for the slots of a list. -/
structure Fr (a0 : Act) (D : List Nat) (a : Act) : Prop where
  size : a.tmps.size = a0.tmps.size
  defers : a.defers = a0.defers
  off : ∀ k, k ∉ D → a.tmps.getD k undef = a0.tmps.getD k undef
theorem Fr.put {a0 a : Act} {D : List Nat} (h : Fr a0 D a) (d : Nat) (v : Value) (hd : d ∈ D) : Fr a0 D (a.put (some d) v) :=
  ⟨by simpa [Act.put] using h.size, h.defers, fun k hk => by
    have hne : d ≠ k := fun e => hk (e ▸ hd)
    rw [← h.off k hk]
    simp [Act.put, Array.getD_eq_getD_getElem?, hne]⟩
theorem put_same (a : Act) (d : Nat) (v : Value) (hd : d < a.tmps.size) : (a.put (some d) v).tmps.getD d undef = v := by
  simp [Act.put, Array.getD_eq_getD_getElem?, hd]
theorem put_other (a : Act) (d k : Nat) (v : Value) (hd : d ≠ k) : (a.put (some d) v).tmps.getD k undef = a.tmps.getD k undef := by
  simp [Act.put, Array.getD_eq_getD_getElem?, hd]
/-- The slots' values, written into a frame. -/
def puts (t : Array Value) : List (Nat × Value) → Array Value
  | [] => t
  | (d, v) :: r => puts (t.setIfInBounds d v) r
theorem puts_size : ∀ (l : List (Nat × Value)) (t : Array Value), (puts t l).size = t.size
  | [], _ => rfl
  | (d, v) :: r, t => by rw [puts, puts_size r]; simp
theorem puts_off (k : Nat) : ∀ (l : List (Nat × Value)) (t : Array Value), k ∉ l.map (·.1) → (puts t l).getD k undef = t.getD k undef
  | [], _, _ => rfl
  | (d, v) :: r, t, h => by
    simp only [List.map_cons, List.mem_cons, not_or] at h
    rw [puts, puts_off k r _ h.2]
    simp [Array.getD_eq_getD_getElem?, Ne.symm h.1]
theorem puts_at : ∀ (l : List (Nat × Value)) (t : Array Value), (l.map (·.1)).Nodup → (∀ x ∈ l, x.1 < t.size) → ∀ x ∈ l, (puts t l).getD x.1 undef = x.2
  | [], _, _, _, x, hx => by cases hx
  | (d, v) :: r, t, hn, hb, x, hx => by
    simp only [List.map_cons, List.nodup_cons] at hn
    rcases List.mem_cons.1 hx with rfl | hx
    · rw [puts, puts_off d r _ hn.1]
      have : d < t.size := hb (d, v) List.mem_cons_self
      simp [Array.getD_eq_getD_getElem?, this]
    · rw [puts]
      exact puts_at r _ hn.2 (fun y hy => by simpa using hb y (List.mem_cons_of_mem _ hy)) x hx
theorem Fr.eq {a0 a : Act} {l : List (Nat × Value)} (h : Fr a0 (l.map (·.1)) a) (hn : (l.map (·.1)).Nodup) (hb : ∀ x ∈ l, x.1 < a0.tmps.size) (hv : ∀ x ∈ l, a.tmps.getD x.1 undef = x.2) : a = ⟨puts a0.tmps l, a0.defers⟩ := by
  obtain ⟨t, df⟩ := a
  have e : t = puts a0.tmps l := by
    refine Array.ext (by rw [puts_size]; exact h.size) fun k hk hk2 => ?_
    have e1 : t.getD k undef = (puts a0.tmps l).getD k undef := by
      by_cases hm : k ∈ l.map (·.1)
      · obtain ⟨x, hx, rfl⟩ := List.mem_map.1 hm
        rw [puts_at l _ hn hb x hx]; exact hv x hx
      · rw [puts_off k l _ hm]; exact h.off k hm
    simpa [Array.getD_eq_getD_getElem?, hk, hk2] using e1
  subst e
  have := h.defers
  simp only at this
  rw [this]

theorem set_ne {listed : Array Bool} {i j : Nat} {d : Bool} (h : i ≠ j) : (listed.setIfInBounds i true).getD j d = listed.getD j d := by
  simp [Array.getD_eq_getD_getElem?, h]
theorem wpOp_val {ops : Array Oper} {i : Nat} {o : Oper} {a : Act} {w w' : World} {v : Value} {K : Act → World → Prop} (hi : ops[i]? = some o) (hg : o.guard = none) (hr : (execOp a.eval o).run P w = .ok (.value v) w') (h : K (a.put o.dst v) w') : wpOp P ops Q i K a w := by
  unfold wpOp
  simp only [hi]
  rw [if_pos (by unfold Region.wanted; rw [hg])]
  left
  unfold Oper.wp
  rw [hr]
  exact h
theorem wpOp_skip {ops : Array Oper} {i : Nat} {o : Oper} {a : Act} {w w' : World} {K : Act → World → Prop} (hi : ops[i]? = some o) (hg : o.guard = none) (hr : (execOp a.eval o).run P w = .ok .skip w') (h : K (a.put o.dst undef) w') : wpOp P ops Q i K a w := by
  unfold wpOp
  simp only [hi]
  rw [if_pos (by unfold Region.wanted; rw [hg])]
  left
  unfold Oper.wp
  rw [hr]
  exact h
theorem wpOp_enter {ops : Array Oper} {i : Nat} {o : Oper} {a : Act} {w : World} {f : FuncId} {args : Array Value} {v : Value} {K : Act → World → Prop} (hi : ops[i]? = some o) (hg : o.guard = none) (hr : (execOp a.eval o).run P w = .ok (.enter f args) w)
    (hc : Calls P f args w fun e w' => e = .returned v ∧ Below w.heap.size w w') (h : ∀ w', Below w.heap.size w w' → K (a.put o.dst v) w') : wpOp P ops Q i K a w := by
  unfold wpOp
  simp only [hi]
  rw [if_pos (by unfold Region.wanted; rw [hg])]
  left
  unfold Oper.wp
  rw [hr, Oper.upon_enter]
  refine hc.mono ?_
  rintro e w' ⟨rfl, hb⟩
  exact h w' hb
/-- A load of a row; a call of a function by name. -/
theorem wpOp_ldr {ops : Array Oper} {i : Nat} {o : Oper} {a : Act} {w : World} {K : Act → World → Prop} (hi : ops[i]? = some o) (hg : o.guard = none) (T : TypeId) (x : Operand) (ho : o.op = .load T x)
    (b f : Nat) (cs : List Value) (d : TypeDesc) (hu : P.underlying T = some d) (hd : d.isRow = true) (hs : (P.info? T).map (·.size) = some cs.length) (hx : a.eval x = .pointer (some ⟨b, f, none⟩)) (hc : w.rangeAt b f cs) (h : K (a.put o.dst (.agg cs.toArray)) w) : wpOp P ops Q i K a w := by
  refine wpOp_val hi hg ?_ h
  have := run_loadAt_mid (P := P) _ b f T cs d hc hu hd hs
  unfold execOp
  simp only [ho, hx, Sem.run_bind, this, Result.andThen_ok, Sem.run_pure]
theorem exec_ldr {o : Oper} {a : Act} {w : World} (T : TypeId) (x : Operand) (ho : o.op = .load T x)
    (b f : Nat) (cs : List Value) (d : TypeDesc) (hu : P.underlying T = some d) (hd : d.isRow = true) (hs : (P.info? T).map (·.size) = some cs.length) (hx : a.eval x = .pointer (some ⟨b, f, none⟩)) (hc : w.rangeAt b f cs) : (execOp a.eval o).run P w = .ok (.value (.agg cs.toArray)) w := by
  have := run_loadAt_mid (P := P) _ b f T cs d hc hu hd hs
  unfold execOp
  simp only [ho, hx, Sem.run_bind, this, Result.andThen_ok, Sem.run_pure]
theorem exec_str {o : Oper} {a : Act} {w : World} (T : TypeId) (x y : Operand) (ho : o.op = .store T x y) (g : Nat) (cs old : Array Value) (T' : TypeId)
    (hi : (P.info? T).map (·.size) = some cs.size) (hs : cs.size = old.size) (h1 : cs.all (·.oneCell') = true) (hx : a.eval x = .pointer (some ⟨g, 0, none⟩)) (hy : a.eval y = .agg cs) (hg : w.heap[g]? = some (.cells old T')) : (execOp a.eval o).run P w = .ok .skip (w.setRow g cs) := by
  unfold execOp
  simp only [ho, hx, hy, Instr.storeAt, Instr.sureAddr, Sem.run_bind, Sem.run_pure, Result.andThen_ok, run_storeVar_row w g T' T old cs hg hi hs.symm h1]
theorem wpOp_mv {ops : Array Oper} {i : Nat} {o : Oper} {a : Act} {w : World} {K : Act → World → Prop} (hi : ops[i]? = some o) (hg : o.guard = none) (x : Operand) (ho : o.op = .move x) (v : Value) (hx : a.eval x = v) (h : K (a.put o.dst v) w) : wpOp P ops Q i K a w := by
  refine wpOp_val hi hg ?_ h
  unfold execOp
  simp only [ho, hx, Sem.run_pure]
theorem wpOp_ix {ops : Array Oper} {i : Nat} {o : Oper} {a : Act} {w : World} {K : Act → World → Prop} (hi : ops[i]? = some o) (hg : o.guard = none) (T E : TypeId) (x y : Operand) (ho : o.op = .indexAddr T x y) (hT : P.underlying T = some (.slice E)) (k : Nat) (hE : (P.info? E).map (·.size) = some k) (b f n c j : Nat)
    (hx : a.eval x = .slice (some ⟨b, f, none⟩) n c) (hy : a.eval y = .int .i64 (j : Int)) (hj : j < n) (h : K (a.put o.dst (.pointer (some ⟨b, f + j * k, none⟩))) w) : wpOp P ops Q i K a w := by
  refine wpOp_val hi hg ?_ h
  cases hq : P.info? E with
  | none => simp [hq] at hE
  | some i =>
    have hs : i.size = k := by simpa [hq] using hE
    unfold execOp
    simp only [ho, hx, hy]
    simp [go_sem, hT, sizeOf, typeInfo, hq, hs, hj]
theorem exec_call1 {o : Oper} {a : Act} {f : FuncId} {x : Operand} {ts : Array TypeId} {v : Value} (ho : o.op = .call { callee := .value (.func f), args := #[x], argTypes := ts }) (hf : ∀ args w, (callFunc f args).run P w = .ok (.enter f args) w) (hx : a.eval x = v) (w : World) :
    (execOp a.eval o).run P w = .ok (.enter f #[v]) w := by
  unfold execOp
  simp [ho, resolve, invoke, hx, hf, Deferred.ofValue, show a.eval (.func f) = .func (.func f) #[] #[] from rfl]
theorem listed_set {listed : Array Bool} {i j : Nat} (hj : (listed.setIfInBounds i true).getD j false = true) : j = i ∨ listed.getD j false = true := by
  by_cases h : i = j
  · exact Or.inl h.symm
  · right
    simpa [Array.getD_eq_getD_getElem?, Array.getElem?_setIfInBounds, h] using hj
theorem listed_of {listed : Array Bool} {i j : Nat} (hj : listed.getD j false = true) : (listed.setIfInBounds i true).getD j false = true := by
  by_cases h : i = j
  · subst h
    by_cases hz : i < listed.size
    · simp [Array.getD_eq_getD_getElem?, hz]
    · simp [Array.getD_eq_getD_getElem?, hz] at hj
  · simpa [Array.getD_eq_getD_getElem?, Array.getElem?_setIfInBounds, h] using hj
/-- Of a variable that is laid in slot p: where it lies, and what it holds. -/
def LaidV (W0 : World) (a : Act) (w : World) (p : Nat) (cs : Array Value) (T : TypeId) : Prop :=
  ∃ g, a.tmps.getD p undef = .pointer (some ⟨g, 0, none⟩) ∧ W0.heap.size ≤ g ∧ w.heap[g]? = some (.cells cs T (0, 0))
theorem LaidV.below {W0 : World} {a a' : Act} {w w' : World} {p : Nat} {cs : Array Value} {T : TypeId} (h : LaidV W0 a w p cs T) (ha : a'.tmps.getD p undef = a.tmps.getD p undef) (hb : Below w.heap.size w w') : LaidV W0 a' w' p cs T := by
  obtain ⟨g, h1, h2, h3⟩ := h
  exact ⟨g, ha.trans h1, h2, (hb.block g (lt_heap h3)).trans h3⟩
/-- What holds between the operations of such a region. -/
structure PairInv (W0 : World) (a0 : Act) (DV : List (Nat × Value)) (p q : Nat) (z1 z2 c1 c2 : Array Value) (T1 T2 : TypeId) (listed : Array Bool) (a : Act) (w : World) : Prop where
  fr : Fr a0 (DV.map (·.1) ++ [p, q]) a
  bel : Below W0.heap.size W0 w
  val : ∀ i (h : i < DV.length), listed.getD i false = true → a.tmps.getD (DV[i]).1 undef = (DV[i]).2
  one : listed.getD DV.length false = true → LaidV W0 a w p (if listed.getD (DV.length + 2) false then c1 else z1) T1
  two : listed.getD (DV.length + 1) false = true → LaidV W0 a w q (if listed.getD (DV.length + 3) false then c2 else z2) T2
  ne : listed.getD DV.length false = true → listed.getD (DV.length + 1) false = true → a.tmps.getD p undef ≠ a.tmps.getD q undef
  o3 : listed.getD (DV.length + 2) false = true → listed.getD DV.length false = true ∧ listed.getD (DV.length + 1) false = true
  o4 : listed.getD (DV.length + 3) false = true → listed.getD DV.length false = true ∧ listed.getD (DV.length + 1) false = true
theorem wp_region_pair {id : Nat} {a0 : Act} {W0 : World} {l : List Oper} (DV : List (Nat × Value)) (p q : Nat) (z1 z2 c1 c2 : Array Value) (T1 T2 : TypeId)
    (hm : P.follows .mixedOrders = true) (ho : ordB .any l.toArray = true) (hlen : l.length = DV.length + 4)
    (hn : (DV.map (·.1) ++ [p, q]).Nodup) (hbd : ∀ k ∈ DV.map (·.1) ++ [p, q], k < a0.tmps.size)
    (o1 o2 o3 o4 : Oper) (g1 : l[DV.length]? = some o1) (g2 : l[DV.length + 1]? = some o2) (g3 : l[DV.length + 2]? = some o3) (g4 : l[DV.length + 3]? = some o4)
    (e1 : o1.dst = some p ∧ o1.guard = none ∧ ∀ (a : Act) (w : World), (execOp a.eval o1).run P w = .ok (.value (.pointer (some ⟨w.heap.size, 0, none⟩))) (w.alloc (.cells z1 T1)))
    (e2 : o2.dst = some q ∧ o2.guard = none ∧ ∀ (a : Act) (w : World), (execOp a.eval o2).run P w = .ok (.value (.pointer (some ⟨w.heap.size, 0, none⟩))) (w.alloc (.cells z2 T2)))
    (e3 : o3.dst = none ∧ o3.guard = none ∧ ∀ (a : Act) (w : World) (g : Nat), (∀ j, (h : j < DV.length) → waitsB .any l.toArray (DV.length + 2) j = true → a.tmps.getD (DV[j]).1 undef = (DV[j]).2) → a.tmps.getD p undef = .pointer (some ⟨g, 0, none⟩) → w.heap[g]? = some (.cells z1 T1 (0, 0)) → (execOp a.eval o3).run P w = .ok .skip (w.setRow g c1))
    (e4 : o4.dst = none ∧ o4.guard = none ∧ ∀ (a : Act) (w : World) (g : Nat), (∀ j, (h : j < DV.length) → waitsB .any l.toArray (DV.length + 3) j = true → a.tmps.getD (DV[j]).1 undef = (DV[j]).2) → a.tmps.getD q undef = .pointer (some ⟨g, 0, none⟩) → w.heap[g]? = some (.cells z2 T2 (0, 0)) → (execOp a.eval o4).run P w = .ok .skip (w.setRow g c2))
    (w31 : waitsB .any l.toArray (DV.length + 2) DV.length = true) (w42 : waitsB .any l.toArray (DV.length + 3) (DV.length + 1) = true)
    (w32 : waitsB .any l.toArray (DV.length + 2) (DV.length + 1) = true) (w41 : waitsB .any l.toArray (DV.length + 3) DV.length = true)
    (hq : ∀ i (h : i < DV.length) (a : Act) (w : World), Fr a0 (DV.map (·.1) ++ [p, q]) a → (∀ j, (hj : j < DV.length) → waitsB .any l.toArray i j = true → a.tmps.getD (DV[j]).1 undef = (DV[j]).2) → Below W0.heap.size W0 w →
      ∀ K : Act → World → Prop, (∀ w', Below w.heap.size w w' → K (a.put (some (DV[i]).1) (DV[i]).2) w') → wpOp P l.toArray Q i K a w)
    (hend : ∀ (w : World) (g h : Nat), g ≠ h → W0.heap.size ≤ g → W0.heap.size ≤ h → Below W0.heap.size W0 w → w.heap[g]? = some (.cells c1 T1 (0, 0)) → w.heap[h]? = some (.cells c2 T2 (0, 0)) →
      Q .normal ⟨puts a0.tmps (DV ++ [(p, .pointer (some ⟨g, 0, none⟩)), (q, .pointer (some ⟨h, 0, none⟩))]), a0.defers⟩ w) :
    (Code.region id l.toArray true).wp P Q a0 W0 := by
  have hsz : l.toArray.size = DV.length + 4 := by simpa using hlen
  have hpq : p ≠ q := by
    have := (List.nodup_append.1 hn).2.1
    simpa using this
  have hDp : ∀ i (h : i < DV.length), (DV[i]).1 ≠ p ∧ (DV[i]).1 ≠ q := fun i h => by
    have h3 := (List.nodup_append.1 hn).2.2
    have hmem : (DV[i]).1 ∈ DV.map (·.1) := List.mem_map.2 ⟨DV[i], List.getElem_mem h, rfl⟩
    exact ⟨h3 _ hmem p (by simp), h3 _ hmem q (by simp)⟩
  have hDi : ∀ i j (h : i < DV.length) (h' : j < DV.length), i ≠ j → (DV[i]).1 ≠ (DV[j]).1 := fun i j h h' hne => by
    have h1 := List.pairwise_iff_getElem.1 (List.nodup_append.1 hn).1
    rcases Nat.lt_or_gt_of_ne hne with hlt | hlt
    · have := h1 i j (by simpa using h) (by simpa using h') hlt
      simpa using this
    · have := h1 j i (by simpa using h') (by simpa using h) hlt
      simpa using this.symm
  refine wp_region_any hm (wpAny_inv (PairInv W0 a0 DV p q z1 z2 c1 c2 T1 T2) ho ?_ ?_ _ _ _ _ (by simp) ?_ ?_)
  · intro listed a w hz I i hi
    obtain ⟨hun, oi, hoi, _⟩ := mem_ready.1 hi
    have hisz : i < DV.length + 4 := by rw [← hsz]; exact (Array.getElem?_eq_some_iff.1 hoi).1
    have hunf : listed.getD i false = false := by
      have h1 : i < listed.size := by rw [hz, hsz]; exact hisz
      simpa [Array.getD_eq_getD_getElem?, Array.getElem?_eq_getElem h1] using hun
    have hlt : ∀ k, listed.getD k false = true → k ≠ i := fun k hk e => by rw [e, hunf] at hk; cases hk
    have hset : (listed.setIfInBounds i true).getD i false = true := by
      have h1 : i < listed.size := by rw [hz, hsz]; exact hisz
      simp [Array.getD_eq_getD_getElem?, h1]
    rcases (by omega : i < DV.length ∨ i = DV.length ∨ i = DV.length + 1 ∨ i = DV.length + 2 ∨ i = DV.length + 3) with h | rfl | rfl | rfl | rfl
    · refine hq i h a w I.fr (fun j hj hw => I.val j hj (ready_waits hi hw)) I.bel _ (fun w' hb => ?_)
      have s2 : (listed.setIfInBounds i true).getD (DV.length + 2) false = listed.getD (DV.length + 2) false := set_ne (by omega)
      have s3 : (listed.setIfInBounds i true).getD (DV.length + 3) false = listed.getD (DV.length + 3) false := set_ne (by omega)
      have s0 : (listed.setIfInBounds i true).getD DV.length false = listed.getD DV.length false := set_ne (by omega)
      have s1 : (listed.setIfInBounds i true).getD (DV.length + 1) false = listed.getD (DV.length + 1) false := set_ne (by omega)
      refine ⟨I.fr.put _ _ (by simp only [List.mem_append]; exact Or.inl (List.mem_map.2 ⟨DV[i], List.getElem_mem h, rfl⟩)), I.bel.trans (hb.mono I.bel.size), fun j hj hl => ?_, fun hl => ?_, fun hl => ?_, fun hl hl' => ?_, fun hl => ?_, fun hl => ?_⟩
      · by_cases e : j = i
        · subst e
          exact put_same _ _ _ (by rw [I.fr.size]; exact hbd _ (by simp only [List.mem_append]; exact Or.inl (List.mem_map.2 ⟨DV[j], List.getElem_mem h, rfl⟩)))
        · rw [put_other _ _ _ _ (hDi i j h hj (Ne.symm e))]
          exact I.val j hj ((listed_set hl).resolve_left e)
      · rw [s2]; rw [s0] at hl
        exact (I.one hl).below (put_other _ _ _ _ (hDp i h).1) hb
      · rw [s3]; rw [s1] at hl
        exact (I.two hl).below (put_other _ _ _ _ (hDp i h).2) hb
      · rw [s0] at hl; rw [s1] at hl'
        rw [put_other _ _ _ _ (hDp i h).1, put_other _ _ _ _ (hDp i h).2]
        exact I.ne hl hl'
      · rw [s2] at hl; rw [s0, s1]; exact I.o3 hl
      · rw [s3] at hl; rw [s0, s1]; exact I.o4 hl
    · refine wpOp_val (o := o1) (by simpa using g1) e1.2.1 (e1.2.2 a w) ?_
      rw [e1.1]
      have hb := below_alloc1 w (.cells z1 T1)
      have hf2 : listed.getD (DV.length + 2) false = false := by
        cases h : listed.getD (DV.length + 2) false with
        | false => rfl
        | true => exact absurd rfl (hlt _ (I.o3 h).1)
      have hf3 : listed.getD (DV.length + 3) false = false := by
        cases h : listed.getD (DV.length + 3) false with
        | false => rfl
        | true => exact absurd rfl (hlt _ (I.o4 h).1)
      have s2 : (listed.setIfInBounds DV.length true).getD (DV.length + 2) false = false := (set_ne (by omega)).trans hf2
      have s3 : (listed.setIfInBounds DV.length true).getD (DV.length + 3) false = false := (set_ne (by omega)).trans hf3
      have s1 : (listed.setIfInBounds DV.length true).getD (DV.length + 1) false = listed.getD (DV.length + 1) false := set_ne (by omega)
      have hps : p < a.tmps.size := by rw [I.fr.size]; exact hbd _ (by simp)
      refine ⟨I.fr.put _ _ (by simp), I.bel.trans (hb.mono I.bel.size), fun j hj hl => ?_, fun hl => ?_, fun hl => ?_, fun hl hl' => ?_, fun hl => ?_, fun hl => ?_⟩
      · rw [put_other _ _ _ _ (Ne.symm (hDp j hj).1)]
        exact I.val j hj ((listed_set hl).resolve_left (by omega))
      · rw [s2]; exact ⟨w.heap.size, put_same _ _ _ hps, I.bel.size, heap_alloc_new _ _⟩
      · rw [s3]; rw [s1] at hl
        have := I.two hl
        rw [hf3] at this
        exact this.below (put_other _ _ _ _ hpq) hb
      · rw [s1] at hl'
        obtain ⟨g, hg1, _, hg3⟩ := I.two hl'
        rw [put_same _ _ _ hps, put_other _ _ _ _ hpq, hg1]
        intro e
        simp only [Value.pointer.injEq, Option.some.injEq, Addr.mk.injEq] at e
        have := lt_heap hg3
        omega
      · rw [s2] at hl; cases hl
      · rw [s3] at hl; cases hl
    · refine wpOp_val (o := o2) (by simpa using g2) e2.2.1 (e2.2.2 a w) ?_
      rw [e2.1]
      have hb := below_alloc1 w (.cells z2 T2)
      have hf2 : listed.getD (DV.length + 2) false = false := by
        cases h : listed.getD (DV.length + 2) false with
        | false => rfl
        | true => exact absurd rfl (hlt _ (I.o3 h).2)
      have hf3 : listed.getD (DV.length + 3) false = false := by
        cases h : listed.getD (DV.length + 3) false with
        | false => rfl
        | true => exact absurd rfl (hlt _ (I.o4 h).2)
      have s2 : (listed.setIfInBounds (DV.length + 1) true).getD (DV.length + 2) false = false := (set_ne (by omega)).trans hf2
      have s3 : (listed.setIfInBounds (DV.length + 1) true).getD (DV.length + 3) false = false := (set_ne (by omega)).trans hf3
      have s0 : (listed.setIfInBounds (DV.length + 1) true).getD DV.length false = listed.getD DV.length false := set_ne (by omega)
      have hqs : q < a.tmps.size := by rw [I.fr.size]; exact hbd _ (by simp)
      refine ⟨I.fr.put _ _ (by simp), I.bel.trans (hb.mono I.bel.size), fun j hj hl => ?_, fun hl => ?_, fun hl => ?_, fun hl hl' => ?_, fun hl => ?_, fun hl => ?_⟩
      · rw [put_other _ _ _ _ (Ne.symm (hDp j hj).2)]
        exact I.val j hj ((listed_set hl).resolve_left (by omega))
      · rw [s2]; rw [s0] at hl
        have := I.one hl
        rw [hf2] at this
        exact this.below (put_other _ _ _ _ (Ne.symm hpq)) hb
      · rw [s3]; exact ⟨w.heap.size, put_same _ _ _ hqs, I.bel.size, heap_alloc_new _ _⟩
      · rw [s0] at hl
        obtain ⟨g, hg1, _, hg3⟩ := I.one hl
        rw [put_same _ _ _ hqs, put_other _ _ _ _ (Ne.symm hpq), hg1]
        intro e
        simp only [Value.pointer.injEq, Option.some.injEq, Addr.mk.injEq] at e
        have := lt_heap hg3
        omega
      · rw [s2] at hl; cases hl
      · rw [s3] at hl; cases hl
    · have hl0 := ready_waits hi w31
      have hl1 := ready_waits hi w32
      obtain ⟨g, hg1, hg2, hg3⟩ := I.one hl0
      obtain ⟨h, hh1, hh2, hh3⟩ := I.two hl1
      have hgh : h ≠ g := fun e => I.ne hl0 hl1 (by rw [hg1, hh1, e])
      rw [hunf] at hg3
      refine wpOp_skip (o := o3) (by simpa using g3) e3.2.1 (e3.2.2 a w g (fun j hj hw => I.val j hj (ready_waits hi hw)) hg1 hg3) ?_
      rw [e3.1]
      have s3 : (listed.setIfInBounds (DV.length + 2) true).getD (DV.length + 3) false = listed.getD (DV.length + 3) false := set_ne (by omega)
      refine ⟨I.fr, setRow_below I.bel hg2 c1, fun j hj hl => I.val j hj ((listed_set hl).resolve_left (by omega)), fun _ => ?_, fun _ => ?_, fun _ _ => I.ne hl0 hl1, fun _ => ⟨listed_of hl0, listed_of hl1⟩, fun _ => ⟨listed_of hl0, listed_of hl1⟩⟩
      · rw [hset]; exact ⟨g, hg1, hg2, setRow_at hg3⟩
      · rw [s3]; exact ⟨h, hh1, hh2, (setRow_other _ _ _ _ hgh).trans hh3⟩
    · have hl0 := ready_waits hi w41
      have hl1 := ready_waits hi w42
      obtain ⟨g, hg1, hg2, hg3⟩ := I.one hl0
      obtain ⟨h, hh1, hh2, hh3⟩ := I.two hl1
      have hgh : g ≠ h := fun e => I.ne hl0 hl1 (by rw [hg1, hh1, e])
      rw [hunf] at hh3
      refine wpOp_skip (o := o4) (by simpa using g4) e4.2.1 (e4.2.2 a w h (fun j hj hw => I.val j hj (ready_waits hi hw)) hh1 hh3) ?_
      rw [e4.1]
      have s2 : (listed.setIfInBounds (DV.length + 3) true).getD (DV.length + 2) false = listed.getD (DV.length + 2) false := set_ne (by omega)
      refine ⟨I.fr, setRow_below I.bel hh2 c2, fun j hj hl => I.val j hj ((listed_set hl).resolve_left (by omega)), fun _ => ?_, fun _ => ?_, fun _ _ => I.ne hl0 hl1, fun _ => ⟨listed_of hl0, listed_of hl1⟩, fun _ => ⟨listed_of hl0, listed_of hl1⟩⟩
      · rw [s2]; exact ⟨g, hg1, hg2, (setRow_other _ _ _ _ hgh).trans hg3⟩
      · rw [hset]; exact ⟨h, hh1, hh2, setRow_at hh3⟩
  · intro listed a w hz hall I
    have hA : ∀ i, i < DV.length + 4 → listed.getD i false = true := fun i hi => hall i (by rw [hsz]; exact hi)
    obtain ⟨g, hg1, hg2, hg3⟩ := I.one (hA _ (by omega))
    obtain ⟨h, hh1, hh2, hh3⟩ := I.two (hA _ (by omega))
    have hgh : g ≠ h := fun e => I.ne (hA _ (by omega)) (hA _ (by omega)) (by rw [hg1, hh1, e])
    rw [hA _ (by omega)] at hg3 hh3
    have hmap : (DV ++ [(p, Value.pointer (some ⟨g, 0, none⟩)), (q, Value.pointer (some ⟨h, 0, none⟩))]).map (·.1) = DV.map (·.1) ++ [p, q] := by simp
    have e := Fr.eq (l := DV ++ [(p, Value.pointer (some ⟨g, 0, none⟩)), (q, Value.pointer (some ⟨h, 0, none⟩))]) (a0 := a0) (a := a) (by rw [hmap]; exact I.fr) (by rw [hmap]; exact hn)
      (fun x hx => hbd _ (by rw [← hmap]; exact List.mem_map.2 ⟨x, hx, rfl⟩)) (fun x hx => by
        rcases List.mem_append.1 hx with hx | hx
        · obtain ⟨i, hi, rfl⟩ := List.mem_iff_getElem.1 hx
          exact I.val i hi (hA i (by omega))
        · simp only [List.mem_cons, List.not_mem_nil, or_false] at hx
          rcases hx with rfl | rfl
          · exact hg1
          · exact hh1)
    rw [e]
    exact hend w g h hgh hg2 hh2 I.bel hg3 hh3
  · simp
  · have hf : ∀ i, (Array.replicate l.toArray.size false).getD i false = false := fun i => by
      rw [Array.getD_eq_getD_getElem?, Array.getElem?_replicate]
      split <;> rfl
    refine ⟨⟨rfl, rfl, fun _ _ => rfl⟩, ⟨rfl, rfl, rfl, Nat.le_refl _, fun _ _ => rfl⟩, fun i _ h => ?_, fun h => ?_, fun h => ?_, fun h => ?_, fun h => ?_, fun h => ?_⟩ <;> (rw [hf] at h; cases h)
end
end Go.Proofs.Ytagdedjclbmlkaa
