/- The leaves, one by one: what is kept between rounds; the inner closure. -/
import Derived.Test.YtagdedjclbmlkaaC13
import Derived.Test.YtagdedjclbmlkaaGX
import Derived.Sort.CutIn
import Derived.Lib.QuietBelowIn
namespace Go.Proofs.Ytagdedjclbmlkaa
open Go.RowKit

attribute [local go_sem] Oper.semAt_some

/-- What a round may turn: blocks of some types. -/
def KpT (n₀ : Nat) (Ts : List TypeId) (W W' : World) : Prop :=
  Below n₀ W W' ∧ ∀ (k : Nat) (cs : Array Value) (T : TypeId), W.heap[k]? = some (.cells cs T (0, 0)) → T ∉ Ts → W'.heap[k]? = W.heap[k]?
theorem KpT.trans {n₀ : Nat} {Ts : List TypeId} {A B C : World} (h : KpT n₀ Ts A B) (k : KpT n₀ Ts B C) : KpT n₀ Ts A C :=
  ⟨h.1.trans k.1, fun g cs T hg hT => by
    have e := h.2 g cs T hg hT
    exact (k.2 g cs T (e.trans hg) hT).trans e⟩
theorem KpT.below {n₀ : Nat} {Ts : List TypeId} {A B : World} (hn : n₀ ≤ A.heap.size) (h : Below A.heap.size A B) : KpT n₀ Ts A B :=
  ⟨h.mono hn, fun g _ _ hg _ => h.block g (lt_heap hg)⟩
theorem KpT.put {n₀ : Nat} {Ts : List TypeId} {w : World} (hn : n₀ ≤ w.heap.size) (W : World) (l : Nat) (o o' : Obj) (hl : w.heap.size ≤ l) (h : W.heap[l]? = some o) (hc : o.isCells = false) (hw : o.isWalk = false) : KpT n₀ Ts W (W.putObj l o') :=
  ⟨belowK_b hn W l o o' hl h hc hw, fun g cs T hg _ => World.putObj_heap_other (fun e => by rw [e, h] at hg; cases hg; cases hc)⟩
/-- The leaves of a tree, in order. -/
def lvs : T → List (Nat × List UInt8 × Int)
  | .leaf a k v => [(a, k, v)]
  | .fork _ _ l r => lvs l ++ lvs r
theorem lvs_all : ∀ t : T, (lvs t).map (·.2) = t.all
  | .leaf _ _ _ => rfl
  | .fork _ _ l r => by simp [lvs, T.all, lvs_all l, lvs_all r]
def lvsO : Option T → List (Nat × List UInt8 × Int)
  | none => []
  | some t => lvs t
theorem lvsO_all (o : Option T) : (lvsO o).map (·.2) = allO o := by
  cases o with
  | none => rfl
  | some t => exact lvs_all t
theorem InT.leafAt {w : World} : ∀ {t : T}, InT w t → ∀ x ∈ lvs t, w.heap[x.1]? = some (.cells (leafC x.2.1 x.2.2).toArray NODE (0, 0))
  | .leaf a k v, h, x, hx => by simp only [lvs, List.mem_singleton] at hx; subst hx; exact h
  | .fork a b l r, h, x, hx => by
    simp only [lvs, List.mem_append] at hx
    rcases hx with hx | hx
    · exact h.2.1.leafAt x hx
    · exact h.2.2.leafAt x hx
theorem InO.leafAt {w : World} {o : Option T} (h : InO w o) : ∀ x ∈ lvsO o, w.heap[x.1]? = some (.cells (leafC x.2.1 x.2.2).toArray NODE (0, 0)) := by
  cases o with
  | none => intro x hx; cases hx
  | some t => exact InT.leafAt (t := t) h
theorem lvsO_len {o : Option T} (h : WFO o) : ∀ x ∈ lvsO o, x.2.1.length = 25 := fun x hx => h.len x.2 (by rw [← lvsO_all]; exact List.mem_map.2 ⟨x, hx, rfl⟩)
/-- One leaf of a tree. -/
structure LV (o : Option T) where
  val : Nat × List UInt8 × Int
  mem : val ∈ lvsO o
def lvIn (o : Option T) (l : List (Nat × List UInt8 × Int)) (h : ∀ x ∈ l, x ∈ lvsO o) : List (LV o) := l.pmap (fun x hx => LV.mk x hx) h
theorem lvIn_map {o : Option T} : ∀ {l : List (Nat × List UInt8 × Int)} (h : ∀ x ∈ l, x ∈ lvsO o), (lvIn o l h).map LV.val = l
  | [], _ => rfl
  | x :: l, h => by
    show x :: (lvIn o l fun y hy => h y (List.mem_cons_of_mem _ hy)).map LV.val = x :: l
    rw [lvIn_map]
theorem lvIn_append {o : Option T} {l m : List (Nat × List UInt8 × Int)} (h : ∀ x ∈ l ++ m, x ∈ lvsO o) : lvIn o (l ++ m) h = lvIn o l (fun x hx => h x (List.mem_append.2 (.inl hx))) ++ lvIn o m (fun x hx => h x (List.mem_append.2 (.inr hx))) := List.pmap_append _
/-- What the walk reads lies as it lay. -/
structure LvM (o : Option T) (fb yb l : Nat) (fq : Option Addr) (fn fc : Nat) (fr : List UInt8) (W : World) : Prop where
  ins : InO W o
  fbx : W.heap[fb]? = some (.cells #[.slice fq fn fc] 109 (0, 0))
  ybx : W.heap[yb]? = some (.cells #[.func (.yield l) #[] #[]] 120 (0, 0))
  frs : fr = [] ∨ ∃ b o cs, fq = some ⟨b, o, none⟩ ∧ W.heap[b]? = some (.cells cs 5 (0, 0)) ∧ W.rangeAt b o (bC fr).toList
theorem InT.kp {n₀ : Nat} {Ts : List TypeId} (hN : NODE ∉ Ts) {W W' : World} : ∀ {t : T}, InT W t → KpT n₀ Ts W W' → InT W' t
  | .leaf a _ _, h, hk => (hk.2 a _ _ h hN).trans h
  | .fork a _ _ _, h, hk => ⟨(hk.2 a _ _ h.1 hN).trans h.1, h.2.1.kp hN hk, h.2.2.kp hN hk⟩
theorem LvM.kp {o : Option T} {fb yb l : Nat} {fq : Option Addr} {fn fc : Nat} {fr : List UInt8} {n₀ : Nat} {Ts : List TypeId} {W W' : World} (h : LvM o fb yb l fq fn fc fr W) (hN : NODE ∉ Ts) (hF : 109 ∉ Ts) (hY : 120 ∉ Ts) (hU : 5 ∉ Ts) (hk : KpT n₀ Ts W W') : LvM o fb yb l fq fn fc fr W' where
  ins := by
    cases o with
    | none => trivial
    | some t => exact InT.kp (t := t) hN h.ins hk
  fbx := (hk.2 _ _ _ h.fbx hF).trans h.fbx
  ybx := (hk.2 _ _ _ h.ybx hY).trans h.ybx
  frs := h.frs.imp (fun e => e) fun ⟨b, o, cs, h1, h2, h3⟩ => ⟨b, o, cs, h1, (hk.2 _ _ _ h2 hU).trans h2, range_of_block h3 (hk.2 _ _ _ h2 hU)⟩
theorem LvM.below {o : Option T} {fb yb l : Nat} {fq : Option Addr} {fn fc : Nat} {fr : List UInt8} {W W' : World} (h : LvM o fb yb l fq fn fc fr W) (hb : Below W.heap.size W W') : LvM o fb yb l fq fn fc fr W' :=
  h.kp (Ts := []) (by simp) (by simp) (by simp) (by simp) (KpT.below (Nat.le_refl _) hb)
theorem LvM.front {o : Option T} {fb yb l : Nat} {fq : Option Addr} {fn fc : Nat} {fr : List UInt8} {W : World} (h : LvM o fb yb l fq fn fc fr W) : SlAt enc1 1 W fq fr := by
  rcases h.frs with rfl | ⟨b, o, cs, rfl, h2, h3⟩
  · exact SlAt.nil _ _
  · exact slat_bytes (lt_heap h2) h3
theorem agFn (w : World) : (isAgg 120).run Try.prog w = .ok false w := by simp [isAgg, run_underlying Try.underlying120]
theorem exec_callG {o : Oper} {a : Act} {f : FuncId} {xs : Array Operand} {ts : Array TypeId} {vs : Array Value} (ho : o.op = .call { callee := .value (.func f), args := xs, argTypes := ts }) (hf : ∀ args w, (callFunc f args).run Try.prog w = .ok (.enter f args) w) (hx : xs.map a.eval = vs) (w : World) : (execOp a.eval o).run Try.prog w = .ok (.enter f vs) w := by
  unfold execOp
  simp [ho, resolve, invoke, hx, hf, Deferred.ofValue, show a.eval (.func f) = .func (.func f) #[] #[] from rfl]
theorem exec_slA {o : Oper} {a : Act} {t : Nat} {b : Nat} (w : World) (ho : o.op = .slice 85 (.tmp t) none none none) (hx : a.eval (.tmp t) = .pointer (some ⟨b, 26, none⟩)) : (execOp a.eval o).run Try.prog w = .ok (.value (.slice (some ⟨b, 26, none⟩) 25 25)) w := by
  unfold execOp
  simp only [ho, hx]
  simp [go_sem, Try.underlying85]
set_option maxRecDepth 100000 in
set_option maxHeartbeats 4000000 in
theorem lf11_in (n l fb yb a : Nat) (fq : Option Addr) (fn fc : Nat) (k fr : List UInt8) (v : Int) (W : World) (R : Ending → World → Prop) (hk : k.length = 25) (hfn : fr.length = fn)
    (ha : W.heap[a]? = some (.cells (leafC k v).toArray NODE (0, 0))) (hfb : W.heap[fb]? = some (.cells #[.slice fq fn fc] 109 (0, 0))) (hfr : SlAt enc1 1 W fq fr) (hyb : W.heap[yb]? = some (.cells #[.func (.yield l) #[] #[]] 120 (0, 0)))
    (hno : pre fr k = false → ∀ W', Below W.heap.size W W' → R (.returned (.bool true)) W')
    (hyes : pre fr k = true → ∀ W', Below W.heap.size W W' → YieldAt Fence.wide (n - 1) Try.prog l #[.pointer (some ⟨a, 0, none⟩)] W' fun e W'' => ∃ b : Bool, e = .returned (.bool b) ∧ R e W'') :
    CallsIn Fence.wide n Try.prog 57 #[.pointer (some ⟨a, 0, none⟩), .pointer (some ⟨fb, 0, none⟩), .pointer (some ⟨yb, 0, none⟩)] W R := by
  have HA := Lib.hid ha
  have HFb := Lib.hid hfb
  have HYb := Lib.hid hyb
  have KP : Hid (∀ W', Below W.heap.size W W' → Calls Try.prog 58 #[.slice (some ⟨a, 26, none⟩) 25 25, .slice fq fn fc] W' fun e w' => e = .returned (.bool (pre fr k)) ∧ Below W'.heap.size W' w') := fun W' hb =>
    (hasPrefix_any a 26 25 25 fq fn fc k fr W' hk (Nat.le_refl _) hfn (Nat.lt_of_lt_of_le (lt_heap ha) hb.size) (nodeV_bytes (range_whole ((hb.block _ (lt_heap ha)).trans ha)) hk) (hfr.below hb)).mono fun e w' h => ⟨h.1, by rw [h.2]; exact Below.refl _ _⟩
  have HNo := Lib.hid hno
  have HYes := Lib.hid hyes
  have cfb : ∀ W', Below W.heap.size W W' → W'.cell? ⟨fb, 0, none⟩ = some (.slice fq fn fc) := fun W' hb => by rw [cell_blk ((hb.block _ (lt_heap hfb)).trans hfb)]; rfl
  have cyb : ∀ W', Below W.heap.size W W' → W'.cell? ⟨yb, 0, none⟩ = some (.func (.yield l) #[] #[]) := fun W' hb => by rw [cell_blk ((hb.block _ (lt_heap hyb)).trans hyb)]; rfl
  have HCf := Lib.hid cfb
  have HCy := Lib.hid cyb
  clear ha hfb hyb hno hyes hk hfn hfr cfb cyb
  cases hp : pre fr k with
  | false =>
    have HR := Lib.hid (HNo.out hp)
    rw [hp] at KP
    have hc0 := HCf.out W (Below.refl _ _)
    have hl0 := lt_heap HFb.out
    clear HNo HYes hp
    refine callsIn_wide.2 ?_
    go_enter Try.func57, Try.ntmps57
    go_upto_region 1 with fail
    refine wp_region_quiet_below (by kernel_rfl) (by kernel_rfl) ?_
    repeat (first
      | go_big_quiet_skip
      | (refine wq_ld1 rfl 109 (.tmp 1) rfl fb 0 (.slice fq fn fc) agSb rfl hc0 hl0 ?_; simp only [Act.put, List.setIfInBounds_toArray, List.set_cons_zero, List.set_cons_succ])
      | go_big_quiet_step (first | (exact Calls.regrown_of (KP.out _ (below_regrown W _ _)))))
    refine wpQuiet_nil ?_
    rintro _ ⟨⟨dq, osq⟩, rfl⟩
    have HB := Lib.hid (below_regrown W dq osq)
    go_wp2_with fail
    exact HR.out _ HB.out
  | true =>
    have HR := Lib.hid (HYes.out hp)
    rw [hp] at KP
    clear HNo HYes hp
    refine callsIn_of_wp Try.func57 rfl trivial ?_ rfl
    simp only [Try.ntmps57, List.size_toArray, List.length_cons, List.length_nil, Nat.reduceAdd, Nat.reduceSub, Array.replicate_succ, Array.replicate_zero, List.push_toArray, List.append_toArray, List.nil_append, List.cons_append]
    gi_upto_region 1 with fail
    refine wpIn_region_any (by kernel_rfl) ?_
    show wpAnyIn _ _ _ _ _ _ _ _ _ (World.drew _)
    have HB0 : Hid (Below W.heap.size W W.drew) := ⟨rfl, rfl, rfl, Nat.le_refl _, fun _ _ => rfl⟩
    have hc0 := HCf.out W.drew HB0.out
    generalize W.drew = W1 at *
    refine takeW (i := 0) (v := .pointer (some ⟨a, 0, none⟩)) 5 rfl rfl (by kernel_rfl) (by kernel_rfl) (by kernel_rfl) (fun _ _ _ h => h) ⟨Or.inl ⟨by rfl, fun w => rfl⟩, fun _ => rfl⟩ ?_
    simp only [Act.put, List.setIfInBounds_toArray, List.set_cons_zero, List.set_cons_succ]
    refine takeW (i := 1) (v := .pointer (some ⟨a, 0, none⟩)) 6 rfl rfl (by kernel_rfl) (by kernel_rfl) (by kernel_rfl) (fun _ _ _ h => h) ⟨Or.inl ⟨by rfl, fun w => by exact exec_nilc (.tmp 5) rfl ⟨a, 0, none⟩ rfl⟩, fun _ => rfl⟩ ?_
    simp only [Act.put, List.setIfInBounds_toArray, List.set_cons_zero, List.set_cons_succ]
    refine takeW (i := 2) (v := .pointer (some ⟨a, 26, none⟩)) 7 rfl rfl (by kernel_rfl) (by kernel_rfl) (by kernel_rfl) (fun _ _ _ h => h) ⟨Or.inl ⟨by rfl, fun w => by kernel_rfl⟩, fun _ => rfl⟩ ?_
    simp only [Act.put, List.setIfInBounds_toArray, List.set_cons_zero, List.set_cons_succ]
    refine takeW (i := 3) (v := .slice (some ⟨a, 26, none⟩) 25 25) 8 rfl rfl (by kernel_rfl) (by kernel_rfl) (by kernel_rfl) (fun _ _ _ h => h) ⟨Or.inl ⟨by rfl, fun w => by exact exec_slA w rfl rfl⟩, fun _ => rfl⟩ ?_
    simp only [Act.put, List.setIfInBounds_toArray, List.set_cons_zero, List.set_cons_succ]
    refine readyW_val (i := 4) 9 (by kernel_rfl) rfl rfl rfl (.slice fq fn fc) W1 (exec_ld1G 109 agSb (.tmp 1) rfl fb 0 _ rfl hc0) ?_
    simp only [Act.put, List.setIfInBounds_toArray, List.set_cons_zero, List.set_cons_succ]
    refine readyW_call (i := 5) 10 (by kernel_rfl) rfl rfl rfl 58 #[.slice (some ⟨a, 26, none⟩) 25 25, .slice fq fn fc] (by refine exec_callG (xs := #[.tmp 8, .tmp 9]) (ts := #[109, 109]) rfl (enters_of Try.func58 (by kernel_rfl) rfl) (by simp [Act.eval]) W1) ?_
    refine (KP.out _ HB0.out).mono ?_
    rintro e W2 ⟨rfl, hb2⟩
    have HB2 : Hid (Below W.heap.size W W2) := HB0.out.trans (hb2.mono HB0.out.size)
    have hc2 := HCy.out W2 HB2.out
    clear hb2 hc0 HB0
    refine ⟨_, rfl, ?_⟩
    simp only [Act.put, List.setIfInBounds_toArray, List.set_cons_zero, List.set_cons_succ]
    refine takeW (i := 6) (v := .bool false) 11 rfl rfl (by kernel_rfl) (by kernel_rfl) (by kernel_rfl) (fun _ _ _ h => h) ⟨Or.inl ⟨by rfl, fun w => by kernel_rfl⟩, fun _ => rfl⟩ ?_
    simp only [Act.put, List.setIfInBounds_toArray, List.set_cons_zero, List.set_cons_succ]
    refine takeW (i := 7) (v := .bool false) 12 rfl rfl (by kernel_rfl) (by kernel_rfl) (by kernel_rfl) (fun _ _ _ h => h) ⟨Or.inl ⟨by rfl, fun w => rfl⟩, fun _ => rfl⟩ ?_
    simp only [Act.put, List.setIfInBounds_toArray, List.set_cons_zero, List.set_cons_succ]
    refine takeW (i := 9) (v := .pointer (some ⟨a, 0, none⟩)) 14 rfl rfl (by kernel_rfl) (by kernel_rfl) (by kernel_rfl) (fun _ _ _ h => h) ⟨Or.inl ⟨by rfl, fun w => rfl⟩, fun _ => rfl⟩ ?_
    simp only [Act.put, List.setIfInBounds_toArray, List.set_cons_zero, List.set_cons_succ]
    refine readyW_val (i := 8) 13 (by kernel_rfl) rfl rfl rfl (.func (.yield l) #[] #[]) W2 (exec_ld1G 120 agFn (.tmp 2) rfl yb 0 _ rfl hc2) ?_
    simp only [Act.put, List.setIfInBounds_toArray, List.set_cons_zero, List.set_cons_succ]
    obtain ⟨fn2, tmps, assign, body, hy, hR⟩ := HR.out W2 HB2.out
    refine readyW_round (i := 10) 15 (by kernel_rfl) rfl rfl rfl l fn2 tmps assign body (by exact exec_yield (.tmp 13) (.tmp 14) _ rfl _ rfl rfl hy) ?_
    refine (round_wide hR).mono ?_
    rintro e W3 ⟨b, rfl, hr⟩
    have HRb := Lib.hid hr
    clear hr hR hy
    refine ⟨_, rfl, ?_⟩
    simp only [Act.put, List.setIfInBounds_toArray, List.set_cons_zero, List.set_cons_succ]
    refine takeW (i := 11) (v := .bool b) 16 rfl rfl (by kernel_rfl) (by kernel_rfl) (by kernel_rfl) (fun _ _ _ h => h) ⟨Or.inl ⟨by rfl, fun w => by kernel_rfl⟩, fun _ => rfl⟩ ?_
    simp only [Act.put, List.setIfInBounds_toArray, List.set_cons_zero, List.set_cons_succ]
    refine takeW (i := 12) (v := .bool b) 4 rfl rfl (by kernel_rfl) (by kernel_rfl) (by kernel_rfl) (fun _ _ _ h => h) ⟨Or.inl ⟨by rfl, fun w => rfl⟩, fun _ => rfl⟩ ?_
    simp only [Act.put, List.setIfInBounds_toArray, List.set_cons_zero, List.set_cons_succ]
    refine wpAnyIn_done (by kernel_rfl) ?_ _
    gi_wp2
    exact HRb.out
end Go.Proofs.Ytagdedjclbmlkaa
