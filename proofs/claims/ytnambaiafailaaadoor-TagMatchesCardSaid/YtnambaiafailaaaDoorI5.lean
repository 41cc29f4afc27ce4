/- The iterator up: a tag, and up to root. -/
import Derived.Test.YtnambaiafailaaaDoorDP5
import Derived.Test.YtnambaiafailaaaDoorGF
namespace Go.Proofs.YtnambaiafailaaaDoor
open Go.RowKit

attribute [local go_sem] Oper.semAt_some

theorem parB_len {b : List UInt8} (h : b.length = 10) : (parB b).length = 10 := by
  unfold parB z3 z4
  split
  · simp; omega
  · split
    · simp; omega
    · rfl
theorem parR_len {b : List UInt8} (h : b.length = 10) : (parR b).length = 10 := by
  unfold parR
  split
  · exact parB_len h
  · rfl
abbrev B10 := { l : List UInt8 // l.length = 10 }
def parX (x : B10) : B10 := ⟨parB x.1, parB_len x.2⟩
def encX (x : B10) : Array Value := #[.agg (bC x.1)]
def chX : Nat → B10 → List B10
  | 0, x => [x]
  | k + 1, x => if x.1 = tag0 then [x] else x :: chX k (parX x)
/-- How far to root, of ten bytes. -/
def farB (b : List UInt8) : Nat := farT (fT b)
theorem far_zero {b : List UInt8} (hr : rightT b = true) (h : farB b = 0) : b = tag0 := by
  rcases right_cases hr with rfl | ⟨t, ht, rfl⟩
  · rfl
  · unfold farB at h
    rw [fT_bytT ht.ok] at h
    have := far_par ht
    omega
theorem far_step {b : List UInt8} (hr : rightT b = true) (h0 : b ≠ tag0) : farB (parB b) + 1 = farB b := by
  rcases right_cases hr with rfl | ⟨t, ht, rfl⟩
  · exact absurd rfl h0
  · unfold farB
    rw [par_byt ht.ok, fT_bytT ht.ok]
    rcases par_can ht with hc | hc
    · rw [fT_bytT hc.ok]; exact far_par ht
    · have := far_par ht
      rw [hc] at this ⊢
      rw [bytT_zero, fT_zero]; exact this
theorem far_root : farB tag0 = 0 := by decide +kernel
/-- The chain of a right tag: it goes on while it is not root. -/
theorem chX_step (k : Nat) (x : B10) (hr : rightT x.1 = true) (hk : farB x.1 ≤ k) : chX (k + 1) x = chX k x := by
  induction k generalizing x with
  | zero =>
    have h0 := far_zero hr (by omega)
    simp [chX, h0]
  | succ k ih =>
    by_cases h0 : x.1 = tag0
    · simp [chX, h0]
    · have hs := far_step hr h0
      have e1 : chX (k + 2) x = x :: chX (k + 1) (parX x) := by show (if x.1 = tag0 then [x] else x :: chX (k + 1) (parX x)) = _; rw [if_neg h0]
      have e2 : chX (k + 1) x = x :: chX k (parX x) := by show (if x.1 = tag0 then [x] else x :: chX k (parX x)) = _; rw [if_neg h0]
      have e3 := ih (parX x) (right_par hr h0) (by show farB (parB x.1) ≤ k; omega)
      rw [e2, ← e3]; exact e1
theorem far_le3 (b : List UInt8) : farB b ≤ 3 := far_le _
def upX (x : B10) : List B10 := if rightT x.1 then chX 4 x else []
theorem upX_cons {x : B10} (hr : rightT x.1 = true) : upX x = x :: (if x.1 = tag0 then [] else upX (parX x)) := by
  unfold upX
  rw [if_pos hr]
  by_cases h0 : x.1 = tag0
  · rw [if_pos h0, chX, if_pos h0]
  · rw [if_neg h0, chX, if_neg h0, if_pos (show rightT (parX x).1 = true from right_par hr h0)]
    rw [chX_step 3 (parX x) (right_par hr h0) (far_le3 _)]
theorem upX_len (x : B10) : (upX x).length ≤ 4 := by
  have h : ∀ k (y : B10), (chX k y).length ≤ k + 1 := by
    intro k
    induction k with
    | zero => intro y; simp [chX]
    | succ k ih => intro y; unfold chX; split <;> simp; exact ih _
  unfold upX
  split
  · rename_i hr
    rw [chX_step 3 x hr (far_le3 _)]; exact h 3 x
  · simp
/-- Behind the first, none is the first again. -/
theorem upX_far {x : B10} : ∀ y ∈ upX x, farB y.1 ≤ farB x.1 := by
  have h : ∀ k (z : B10), rightT z.1 = true → ∀ y ∈ chX k z, farB y.1 ≤ farB z.1 := by
    intro k
    induction k with
    | zero => intro z _ y hy; simp [chX] at hy; subst hy; exact Nat.le_refl _
    | succ k ih =>
      intro z hr y hy
      unfold chX at hy
      split at hy
      · simp at hy; subst hy; exact Nat.le_refl _
      · rename_i h0
        rcases List.mem_cons.1 hy with rfl | hy
        · exact Nat.le_refl _
        · have := ih (parX z) (right_par hr h0) y hy
          have h2 := far_step hr h0
          have h3 : farB (parX z).1 = farB (parB z.1) := rfl
          omega
  intro y hy
  unfold upX at hy
  split at hy
  · rename_i hr; exact h 4 x hr y hy
  · simp at hy
theorem run_up (b : List UInt8) (w : World) :
    Calls Tryd.prog 53 #[.agg (bC b)] w fun e w' => e = .returned (.func (.func 64) #[] #[.pointer (some ⟨w.heap.size, 0, none⟩)]) ∧ w' = w.alloc (.cells (bC b) 29) := by
  go_enter Tryd.func53, Tryd.ntmps53
  go_wp2
  go_ret
  exact ⟨rfl, rfl⟩
section
variable {o : Oper} {a : Act} {w : World}
theorem y_ldb (x : Operand) (ho : o.op = .load 29 x) (g : Nat) (l : List UInt8) (hl : l.length = 10) (hx : a.eval x = .pointer (some ⟨g, 0, none⟩)) (hg : w.heap[g]? = some (.cells (bC l) 29 (0, 0))) : (execOp a.eval o).run Tryd.prog w = .ok (.value (.agg (bC l))) w := by
  have := run_loadAt_mid (P := Tryd.prog) _ g 0 29 (bC l).toList _ (range_whole (by simpa using hg)) Tryd.underlying29 rfl (by rw [sizTag]; simp [bC, hl])
  unfold execOp
  simp only [ho, hx, Sem.run_bind, this, Result.andThen_ok, Sem.run_pure]
end
set_option maxRecDepth 100000 in
set_option maxHeartbeats 4000000 in
theorem up_head {Q : Exit → Act → World → Prop} (W : World) (Bn l : Nat) (x0 : B10) (hpan : ∀ c (a : Act) d v w, Q (.panic c) (a.put (some d) v) w → Q (.panic c) a w) (hBn : W.heap[Bn]? = some (Obj.cells (bC x0.1) 29 (0, 0)))
    (hRi : ∀ w' : World, Below W.heap.size W w' → Calls Tryd.prog 17 #[.agg (bC x0.1)] w' fun e w2 => e = .returned (.bool (rightT x0.1)) ∧ Below w'.heap.size w' w2)
    (hQ : ∀ g w3, W.heap.size ≤ g → Below W.heap.size W w3 → w3.heap[g]? = some (Obj.cells (bC x0.1) 29 (0, 0)) →
      Q .normal { tmps := #[.func (.yield l) #[] #[], .pointer (some ⟨Bn, 0, none⟩), undef, .pointer (some ⟨g, 0, none⟩), .bool (rightT x0.1), .agg (bC x0.1), .agg (bC x0.1), .bool (rightT x0.1), undef, undef, undef, undef, undef, undef, undef, undef, undef, undef, undef], defers := [] } w3) :
    (Code.region 0 #[{ dst := some 5, op := Op.load 29 (Operand.tmp 1), type := 29, pos := "tag.go:159", after := #[], guard := none },
        { dst := some 6, op := Op.load 29 (Operand.tmp 1), type := 29, pos := "tag.go:159", after := #[], guard := none },
        { dst := some 7, op := Op.call { callee := Callee.value (Operand.func 17), args := #[Operand.tmp 6], argTypes := #[29] }, type := 4, pos := "tag.go:159", after := #[{ on := 1, ground := Ground.data }], guard := none },
        { dst := some 3, op := Op.alloc 29, type := 0, pos := "tag.go:159", after := #[], guard := none },
        { dst := none, op := Op.store 29 (Operand.tmp 3) (Operand.tmp 5), type := 0, pos := "tag.go:159",
          after := #[{ on := 3, ground := Ground.data }, { on := 0, ground := Ground.data }, { on := 2, ground := Ground.chain }, { on := 0, ground := Ground.phase }, { on := 1, ground := Ground.textOnly Departure.lateStores }, { on := 2, ground := Ground.textOnly Departure.lateStoresUnsure }, { on := 3, ground := Ground.phase }], guard := none },
        { dst := some 4, op := Op.assign (Operand.tmp 7), type := 4, pos := "tag.go:159",
          after := #[{ on := 2, ground := Ground.data }, { on := 4, ground := Ground.chain }, { on := 0, ground := Ground.phase }, { on := 1, ground := Ground.phase }, { on := 2, ground := Ground.phase }, { on := 3, ground := Ground.phase }, { on := 4, ground := Ground.phase }], guard := none }] true).wp Tryd.prog Q { tmps := #[.func (.yield l) #[] #[], .pointer (some ⟨Bn, 0, none⟩), undef, undef, undef, undef, undef, undef, undef, undef, undef, undef, undef, undef, undef, undef, undef, undef, undef], defers := [] } W := by
  have HRi := Lib.hid hRi
  have HLd : Hid (∀ w' : World, Below W.heap.size W w' → w'.heap[Bn]? = some (Obj.cells (bC x0.1) 29 (0, 0))) := fun w' hb => by rw [hb.block _ (lt_heap hBn)]; exact hBn
  clear hRi hBn
  refine wp_region_held_drew (S := fun w' => Below W.heap.size W w') (by kernel_rfl) (Below.refl _ _).drew (fun hH => ?_)
  show wpAnyH Tryd.prog Region.Mode.any _ _ _ 6 #[false, false, false, false, false, false] _ _
  generalize W.drew = W1 at *
  refine takeD (i := 0) (v := .agg (bC x0.1)) 5 rfl rfl (by kernel_rfl) (by kernel_rfl) (by kernel_rfl) (fun _ _ _ h => hpan _ _ _ _ _ h) (Or.inl ⟨rfl, fun w' hS => (by exact y_ldb _ (by rfl) Bn x0.1 x0.2 (by rfl) (HLd.out _ hS))⟩) hH ?_
  simp only [Act.put, List.setIfInBounds_toArray, List.set_cons_zero, List.set_cons_succ]
  refine takeD (i := 1) (v := .agg (bC x0.1)) 6 rfl rfl (by kernel_rfl) (by kernel_rfl) (by kernel_rfl) (fun _ _ _ h => hpan _ _ _ _ _ h) (Or.inl ⟨rfl, fun w' hS => (by exact y_ldb _ (by rfl) Bn x0.1 x0.2 (by rfl) (HLd.out _ hS))⟩) hH ?_
  simp only [Act.put, List.setIfInBounds_toArray, List.set_cons_zero, List.set_cons_succ]
  refine wpAnyH_ready (rs := [2, 3]) (by kernel_rfl) (by simp) ?_
  refine AllReadyH.cons rfl (fun K hK => ?_) (AllReadyH.cons rfl (fun K hK => ?_) AllReadyH.nil)
  · refine stI rfl ?_
    go_wp2_with (go_at_call 17; (refine (HRi.out _ hH).mono ?_); rintro e w2 ⟨rfl, hb2⟩)
    have hH4 : Below W.heap.size W w2 := hH.trans (hb2.mono hH.size)
    refine hK.out _ _ hH4 (fun _ => ?_)
    clear hK K
    simp only [Act.put, List.setIfInBounds_toArray, List.set_cons_zero, List.set_cons_succ]
    refine wpAnyH_ready (rs := [3]) (by kernel_rfl) (by simp) ?_
    refine AllReadyH.cons rfl (fun K hK => ?_) AllReadyH.nil
    refine stI rfl ?_
    go_wp2_with fail
    have hH5 : Below W.heap.size W (w2.alloc (.cells (bC tag0) 29)) := hH4.alloc hH4.size _
    refine hK.out _ _ hH5 (fun _ => ?_)
    clear hK K
    simp only [Act.put, List.setIfInBounds_toArray, List.set_cons_zero, List.set_cons_succ]
    have hge : W.heap.size ≤ w2.heap.size := hH4.size
    have HG : Hid ((w2.alloc (.cells (bC tag0) 29)).heap[w2.heap.size]? = some (Obj.cells (bC tag0) 29 (0, 0))) := heap_alloc_new _ _
    show wpAnyH Tryd.prog Region.Mode.any _ _ _ _ _ _ (w2.alloc (.cells (bC tag0) 29))
    generalize (w2.alloc (.cells (bC tag0) 29)) = w5 at *
    generalize w2.heap.size = g at *
    refine wpAnyH_ready (rs := [4]) (by kernel_rfl) (by simp) ?_
    refine AllReadyH.cons rfl (fun K hK => ?_) AllReadyH.nil
    refine stI rfl (wp_store_row 29 _ _ (by rfl) g (bC x0.1) (by rfl) (by rfl) 29 (bC tag0) HG.out (by rw [sizTag, bC_size, x0.2]) (by rw [bC_size, bC_size, x0.2]; rfl) (bC_one _) ?_)
    refine hK.out (.put _ none undef) _ (setRow_below hH5 hge _) (fun hH6 => ?_)
    clear hK K
    simp only [Act.put, List.setIfInBounds_toArray, List.set_cons_zero, List.set_cons_succ]
    refine takeD (i := 5) (v := .bool (rightT x0.1)) 4 rfl rfl (by kernel_rfl) (by kernel_rfl) (by kernel_rfl) (fun _ _ _ h => hpan _ _ _ _ _ h) (Or.inl ⟨rfl, fun w' hS => (rfl)⟩) hH6 ?_
    simp only [Act.put, List.setIfInBounds_toArray, List.set_cons_zero, List.set_cons_succ]
    refine ⟨by kernel_rfl, ?_⟩
    exact hQ g _ hge hH6 (setRow_at HG.out)
  · refine stI rfl ?_
    go_wp2_with fail
    have hH4 : Below W.heap.size W (W1.alloc (.cells (bC tag0) 29)) := hH.alloc hH.size _
    refine hK.out _ _ hH4 (fun _ => ?_)
    clear hK K
    simp only [Act.put, List.setIfInBounds_toArray, List.set_cons_zero, List.set_cons_succ]
    have hge : W.heap.size ≤ W1.heap.size := hH.size
    have HG4 : Hid ((W1.alloc (.cells (bC tag0) 29)).heap[W1.heap.size]? = some (Obj.cells (bC tag0) 29 (0, 0))) := heap_alloc_new _ _
    show wpAnyH Tryd.prog Region.Mode.any _ _ _ _ _ _ (W1.alloc (.cells (bC tag0) 29))
    generalize (W1.alloc (.cells (bC tag0) 29)) = w4 at *
    generalize W1.heap.size = g at *
    refine wpAnyH_ready (rs := [2]) (by kernel_rfl) (by simp) ?_
    refine AllReadyH.cons rfl (fun K hK => ?_) AllReadyH.nil
    refine stI rfl ?_
    go_wp2_with (go_at_call 17; (refine (HRi.out _ hH4).mono ?_); rintro e w5 ⟨rfl, hb2⟩)
    have hH5 : Below W.heap.size W w5 := hH4.trans (hb2.mono hH4.size)
    have HG : Hid (w5.heap[g]? = some (Obj.cells (bC tag0) 29 (0, 0))) := by show _ = _; rw [hb2.block _ (lt_heap HG4.out)]; exact HG4.out
    refine hK.out _ _ hH5 (fun _ => ?_)
    clear hK K
    simp only [Act.put, List.setIfInBounds_toArray, List.set_cons_zero, List.set_cons_succ]
    refine wpAnyH_ready (rs := [4]) (by kernel_rfl) (by simp) ?_
    refine AllReadyH.cons rfl (fun K hK => ?_) AllReadyH.nil
    refine stI rfl (wp_store_row 29 _ _ (by rfl) g (bC x0.1) (by rfl) (by rfl) 29 (bC tag0) HG.out (by rw [sizTag, bC_size, x0.2]) (by rw [bC_size, bC_size, x0.2]; rfl) (bC_one _) ?_)
    refine hK.out (.put _ none undef) _ (setRow_below hH5 hge _) (fun hH6 => ?_)
    clear hK K
    simp only [Act.put, List.setIfInBounds_toArray, List.set_cons_zero, List.set_cons_succ]
    refine takeD (i := 5) (v := .bool (rightT x0.1)) 4 rfl rfl (by kernel_rfl) (by kernel_rfl) (by kernel_rfl) (fun _ _ _ h => hpan _ _ _ _ _ h) (Or.inl ⟨rfl, fun w' hS => (rfl)⟩) hH6 ?_
    simp only [Act.put, List.setIfInBounds_toArray, List.set_cons_zero, List.set_cons_succ]
    refine ⟨by kernel_rfl, ?_⟩
    exact hQ g _ hge hH6 (setRow_at HG.out)
/-- What a round that goes on must keep: the blocks of cells that are safe in it; a new block is safe. -/
structure KpOk (Kp : World → World → Prop) (n₀ : Nat) (w0 : World) (V : World → Prop) (Sf : Nat → World → Prop) : Prop where
  init : ∀ W, Below w0.heap.size w0 W → V W
  keepV : ∀ W W', V W → Kp W W' → V W'
  belV : ∀ W W', V W → Below W.heap.size W W' → V W'
  fresh : ∀ W W' g, V W → Below W.heap.size W W' → W.heap.size ≤ g → Sf g W'
  kept : ∀ (W W' : World) g cs T t, cs.size = 10 → Sf g W → Kp W W' → W.heap[g]? = some (Obj.cells cs T t) → W'.heap[g]? = W.heap[g]?
  below : ∀ W W', Kp W W' → Below n₀ W W'
  le : n₀ ≤ w0.heap.size
  mx : ∀ W, Below n₀ w0 W → MX W
/-- The loop's state: what has come, the tag that comes next; or all has come. -/
def UpRel (x0 : B10) (n₀ : Nat) (w0 : World) (V : World → Prop) (Sf : Nat → World → Prop) (J : List B10 → World → Prop) (k : Nat) (p m : Value) (wr : World) : Prop :=
  V wr ∧ Below n₀ w0 wr ∧ ((∃ (pre : List B10) (x : B10) (g : Nat), p = .pointer (some ⟨g, 0, none⟩) ∧ m = .bool true ∧ farB x.1 + 1 ≤ k ∧ rightT x.1 = true ∧ upX x0 = pre ++ upX x ∧ J pre wr ∧ wr.heap[g]? = some (Obj.cells (bC x.1) 29 (0, 0)) ∧ Sf g wr) ∨
    (∃ g, p = .pointer (some ⟨g, 0, none⟩) ∧ m = .bool false ∧ J (upX x0) wr))
set_option maxRecDepth 100000 in
set_option maxHeartbeats 4000000 in
theorem up1_in (n : Nat) (hn : 1 ≤ n) (l Bn n₀ : Nat) (x0 : B10) (w0 : World) (Kp : World → World → Prop) (V : World → Prop) (Sf : Nat → World → Prop) (hKp : KpOk Kp n₀ w0 V Sf) (J Jx : List B10 → World → Prop)
    (hY : ∀ pre x W, J pre W → pre.length < (upX x0).length → YieldAt Fence.wide (n - 1) Tryd.prog l (encX x) W fun e W' =>
      (e = .returned (.bool true) ∧ J (pre ++ [x]) W' ∧ Kp W W') ∨ (e = .returned (.bool false) ∧ Jx (pre ++ [x]) W'))
    (W : World) (hW : Below w0.heap.size w0 W) (hJ : AbidesFrom W.heap.size J)
    (hBn : W.heap[Bn]? = some (Obj.cells (bC x0.1) 29 (0, 0))) (h0 : J [] W) :
    CallsIn Fence.wide n Tryd.prog 64 #[.func (.yield l) #[] #[], .pointer (some ⟨Bn, 0, none⟩)] W fun e W' => (∃ v, e = .returned v) ∧
      ((∃ ys, ys = upX x0 ∧ J ys W') ∨ (∃ pre, pre <+: upX x0 ∧ Jx pre W')) := by
  have HJ : Hid (∀ s A B, Below A.heap.size A B → J s A → J s B) := fun s A B hb hs => hJ s A B none hs (grown_of_below hb) (fun r e => by cases e)
  have HRi : Hid (∀ W : World, Below n₀ w0 W → Calls Tryd.prog 17 #[.agg (bC x0.1)] W fun e w' => e = .returned (.bool (rightT x0.1)) ∧ Below W.heap.size W w') := fun W hW => right_any5 x0.1 W x0.2 (hKp.mx W hW)
  have HPa : Hid (∀ (x : B10) (W : World), Below n₀ w0 W → Calls Tryd.prog 22 #[.agg (bC x.1)] W fun e w' => e = .returned (.tuple #[.agg (bC (parR x.1)), .bool (parOk x.1)]) ∧ Below W.heap.size W w') := fun x W hW => parent_any x.1 W x.2 (hKp.mx W hW)
  have HW := Lib.hid hW
  have HWn : Hid (Below n₀ w0 W) := hW.mono hKp.le
  have HBn := Lib.hid hBn
  have HY := Lib.hid hY
  have HKp := Lib.hid hKp
  have H0 := Lib.hid h0
  clear hJ hY hW hBn hKp h0
  refine callsIn_of_wp Tryd.func64 rfl trivial ?_ rfl
  simp only [Tryd.ntmps64, List.size_toArray, List.length_cons, List.length_nil, Nat.reduceAdd, Nat.reduceSub, Array.replicate_succ, Array.replicate_zero, List.push_toArray, List.append_toArray, List.nil_append, List.cons_append]
  gi_wp2
  refine wpIn_wide.2 (up_head W Bn l x0 (fun _ _ _ _ _ h => h) HBn.out (fun w' hb => HRi.out w' (HWn.out.trans (hb.mono (Nat.le_trans HKp.out.le HWn.out.size)))) (fun g w1 hg hb1 hx1 => ?_))
  have HV1 : Hid (V w1) := HKp.out.init _ (HW.out.trans (hb1.mono HW.out.size))
  have HN1 : Hid (Below n₀ w0 w1) := HWn.out.trans (hb1.mono (Nat.le_trans HKp.out.le HWn.out.size))
  have HS1 : Hid (Sf g w1) := HKp.out.fresh W w1 g (HKp.out.init _ HW.out) hb1 hg
  have HJ1 : Hid (J [] w1) := HJ.out _ _ _ hb1 H0.out
  have HX1 := Lib.hid hx1
  clear hx1 hb1 hg
  gi_wp2
  gi_loopg [3, 4] 5 (fun k p m wr => UpRel x0 n₀ w0 V Sf J k p m wr)
  case atStart =>
    refine ⟨HV1.out, HN1.out, ?_⟩
    cases hr : rightT x0.1
    · refine .inr ⟨g, rfl, rfl, ?_⟩
      have : upX x0 = [] := by unfold upX; rw [hr]; rfl
      rw [this]; exact HJ1.out
    · exact .inl ⟨[], x0, g, rfl, rfl, by have := far_le3 x0.1; omega, hr, rfl, HJ1.out, HX1.out, HS1.out⟩
  case round =>
    obtain ⟨hv, hn0, ⟨pre, x, g, rfl, rfl, hk, hr, hpre, hj, hx, hs⟩ | ⟨g, rfl, rfl, hj⟩⟩ := hrel
    · have hup := upX_cons hr
      obtain ⟨fn, tmps, assign, body, hy, hR⟩ := HY.out pre x wr hj (by rw [hpre, hup]; simp)
      simp only [encX] at hy
      have HX := Lib.hid hx
      clear hx
      gi_wp2_with (first
        | (refine inl_ldr rfl 29 _ rfl g 0 (bC x.1).toList _ Tryd.underlying29 rfl (by rw [sizTag]; simp [bC, x.2]) rfl (range_whole (by simpa using HX.out)) ?_))
      refine hR.mono ?_
      rintro e W3 (⟨rfl, hJ3, hk3⟩ | ⟨rfl, hJx3⟩)
      · have HX3 : Hid (W3.heap[g]? = some (Obj.cells (bC x.1) 29 (0, 0))) := by show _ = _; rw [HKp.out.kept _ _ _ _ _ _ (by rw [bC_size, x.2]) hs hk3 HX.out]; exact HX.out
        have HN3 : Hid (Below n₀ w0 W3) := hn0.trans (HKp.out.below _ _ hk3)
        have HV3 : Hid (V W3) := HKp.out.keepV _ _ hv hk3
        have HJ3 := Lib.hid hJ3
        clear hJ3 hk3 HX hs hv hn0 hj hR hy
        have HB4 : Hid (Below W3.heap.size W3 (W3.alloc (.cells (bC x.1) 29))) := below_alloc1 _ _
        have HX4 : Hid ((W3.alloc (.cells (bC x.1) 29)).heap[W3.heap.size]? = some (Obj.cells (bC x.1) 29 (0, 0))) := heap_alloc_new _ _
        gi_wp2_with (first
          | (refine inl_ldr rfl 29 _ rfl g 0 (bC x.1).toList _ Tryd.underlying29 rfl (by rw [sizTag]; simp [bC, x.2]) rfl (range_whole (by simpa using HX3.out)) ?_)
          | (refine inl_strn rfl 29 _ _ rfl (bC x.1) (bC tag0) 29 (by rw [sizTag, bC_size, x.2]) (by rw [bC_size, bC_size, x.2]; rfl) (bC_one _) rfl rfl ?_; generalize (W3.alloc (.cells (bC x.1) 29)) = W4 at *)
          | (refine inl_ldr rfl 29 _ rfl W3.heap.size 0 (bC x.1).toList _ Tryd.underlying29 rfl (by rw [sizTag]; simp [bC, x.2]) rfl (range_whole (by simpa using HX4.out)) ?_)
          | (refine ⟨trivial, ?_⟩; gi_at_call 22; (refine (callsIn_wide.2 (HPa.out x _ (HN3.out.trans (HB4.out.mono (Nat.le_trans HKp.out.le HN3.out.size))))).mono ?_); rintro e w5 ⟨rfl, hb5⟩; have HB5 := Lib.hid (HB4.out.trans (hb5.mono HB4.out.size)); have HX5 : Hid (w5.heap[W3.heap.size]? = some (Obj.cells (bC x.1) 29 (0, 0))) := (by (show _ = _; rw [hb5.block _ (lt_heap HX4.out)]; exact HX4.out)); clear hb5)
          | (refine inl_str rfl 29 _ _ rfl W3.heap.size (bC (parR x.1)) (bC x.1) 29 (by rw [sizTag, bC_size, parR_len x.2]) (by rw [bC_size, bC_size, x.2, parR_len x.2]) (bC_one _) rfl rfl HX5.out ?_))
        gi_roundg (farB x.1)
        case measure => omega
        case rel =>
          have hB6 : Below W3.heap.size W3 (w5.setRow W3.heap.size (bC (parR x.1))) := setRow_below HB5.out (Nat.le_refl _) _
          have hx6 : (w5.setRow W3.heap.size (bC (parR x.1))).heap[W3.heap.size]? = some (Obj.cells (bC (parR x.1)) 29 (0, 0)) := setRow_at HX5.out
          refine ⟨HKp.out.belV _ _ HV3.out hB6, HN3.out.trans (hB6.mono (Nat.le_trans HKp.out.le HN3.out.size)), ?_⟩
          by_cases h0 : x.1 = tag0
          · refine .inr ⟨_, rfl, ?_, ?_⟩
            · unfold parOk; rw [hr, h0]; rfl
            · rw [hpre, hup, if_pos h0]; exact HJ.out _ _ _ hB6 HJ3.out
          · have hok : parOk x.1 = true := by unfold parOk; rw [hr]; simpa using h0
            have hpr : parR x.1 = parB x.1 := by unfold parR; rw [if_pos hok]
            refine .inl ⟨pre ++ [x], parX x, _, rfl, by rw [hok], ?_, right_par hr h0, ?_, HJ.out _ _ _ hB6 HJ3.out, ?_, HKp.out.fresh _ _ _ HV3.out hB6 (Nat.le_refl _)⟩
            · have := far_step hr h0
              show farB (parB x.1) + 1 ≤ _
              omega
            · rw [hpre, hup, if_neg h0]; simp
            · rw [hpr] at hx6; exact hpr ▸ hx6
      · gi_wp2
        refine bodyPost_ret (results_none rfl _ _ _) rfl ?_
        exact ⟨⟨_, rfl⟩, .inr ⟨pre ++ [x], ⟨if x.1 = tag0 then [] else upX (parX x), by rw [hpre, hup]; simp⟩, hJx3⟩⟩
    · clear HY
      gi_wp2
      go_end0
      exact ⟨⟨_, rfl⟩, .inl ⟨_, rfl, hj⟩⟩
end Go.Proofs.YtnambaiafailaaaDoor
