/- tag's Match. -/
import Derived.Test.YtnambaiafailaaaDoorBL5
import Derived.Maps.OwnIn
namespace Go.Proofs.YtnambaiafailaaaDoor
open Go.RowKit

attribute [local go_sem] Oper.semAt_some

theorem res_rowc_cell {P : Program} {fn : Func} {p t : Tmp} {T T' E : TypeId} {d : TypeDesc} (h : fn.results = #[.cell p T, .cell t E]) (tmps : Array Value) (w : World) (g b : Nat) (cs : Array Value) (fr : Nat × Nat) (v : Value)
    (hp : tmps.getD p undef = .pointer (some ⟨g, 0, none⟩)) (hg : w.heap[g]? = some (.cells cs T' fr)) (hu : P.underlying T = some d) (hd : (match d with | .struct _ | .array _ _ => true | _ => false) = true) (hi : (P.info? T).map (·.size) = some cs.size)
    (hq : tmps.getD t undef = .pointer (some ⟨b, 0, none⟩)) (hb : (loadVar E ⟨b, 0, none⟩).run P w = .ok v w) :
    (results fn tmps).run P w = .ok (.tuple #[.agg cs, v]) w := by
  have hp' : tmps[p]?.getD undef = .pointer (some ⟨g, 0, none⟩) := by simpa using hp
  have hq' : tmps[t]?.getD undef = .pointer (some ⟨b, 0, none⟩) := by simpa using hq
  have hload : (loadVar T ⟨g, 0, none⟩).run P w = .ok (.agg cs) w := by
    refine run_loadVar_row _ g T' T cs fr d hg hu ?_ hi
    revert hd
    cases d <;> intro hd <;> first | rfl | exact hd
  simp [results, h, hp', hq', asAddr, hload, hb]
theorem load_bool {w : World} {b : Nat} {v : Bool} (h : Boxed w b 4 (.bool v)) : (loadVar 4 ⟨b, 0, none⟩).run Tryd.prog w = .ok (.bool v) w := by
  have hc := h.cell
  go_simp
section
variable {F : Fence} {n : Nat} {ops : Array Oper} {rest : List Oper} {o : Oper} {a : Act} {w : World} {Q : Exit → Act → World → Prop}
theorem inl_mu (hg : o.guard = none) (T : TypeId) (x y z : Operand) (ho : o.op = .mapUpdate T x y z) (m k v : Value) (hx : a.eval x = m) (hy : a.eval y = k) (hz : a.eval z = v) (w' : World) (hrun : (Instr.mapUpdate T m k v).run Tryd.prog w = .ok () w')
    (h : wpListIn F n Tryd.prog ops Q rest (a.put o.dst undef) w') : wpListIn F n Tryd.prog ops Q (o :: rest) a w := by
  refine in_skip hg (by rw [ho]; intro c hc; cases hc) (by rw [ho]; intro c hc; cases hc) w' ?_ h
  unfold execOp
  simp only [ho, hx, hy, hz]
  simp [go_sem, hrun]
theorem inl_lk (hg : o.guard = none) (T : TypeId) (x y : Operand) (ho : o.op = .lookup T x y false) (m k v : Value) (hx : a.eval x = m) (hy : a.eval y = k) (hrun : (Instr.lookup T m k false).run Tryd.prog w = .ok v w)
    (h : wpListIn F n Tryd.prog ops Q rest (a.put o.dst v) w) : wpListIn F n Tryd.prog ops Q (o :: rest) a w := by
  refine in_val hg (by rw [ho]; intro c hc; cases hc) (by rw [ho]; intro c hc; cases hc) v w ?_ h
  unfold execOp
  simp only [ho, hx, hy]
  simp [go_sem, hrun]
theorem inl_ix (hg : o.guard = none) (T E : TypeId) (x y : Operand) (ho : o.op = .indexAddr T x y) (hT : Tryd.prog.underlying T = some (.slice E)) (k : Nat) (hE : (Tryd.prog.info? E).map (·.size) = some k) (b f : Nat) (m c j : Nat) (hx : a.eval x = .slice (some ⟨b, f, none⟩) m c) (hy : a.eval y = .int .i64 (j : Int)) (hj : j < m)
    (h : wpListIn F n Tryd.prog ops Q rest (a.put o.dst (.pointer (some ⟨b, f + j * k, none⟩))) w) : wpListIn F n Tryd.prog ops Q (o :: rest) a w := by
  refine in_val hg (by rw [ho]; intro c hc; cases hc) (by rw [ho]; intro c hc; cases hc) (.pointer (some ⟨b, f + j * k, none⟩)) w ?_ h
  cases hq : Tryd.prog.info? E with
  | none => simp [hq] at hE
  | some i =>
    have hs : i.size = k := by simpa [hq] using hE
    have h1 : ¬ ((j : Int) < 0) := by omega
    have h2 : ¬ ((m : Int) ≤ j) := by omega
    unfold execOp
    simp only [ho, hx, hy]
    simp [go_sem, hT, sizeOf, typeInfo, hq, hs, h1, h2, hj]
end
theorem SetIs.of {w w' : World} {r : Nat} {ks : List (List UInt8)} (h : SetIs w r ks) (he : w'.heap[r]? = w.heap[r]?) : SetIs w' r ks := by
  obtain ⟨l, c, h1, h2⟩ := h
  exact ⟨l, c, he.trans h1, h2⟩
theorem SetIs.lt {w : World} {r : Nat} {ks : List (List UInt8)} (h : SetIs w r ks) : r < w.heap.size := by
  obtain ⟨l, c, h1, _⟩ := h
  exact lt_heap h1
theorem put_below {B : Nat} {w W : World} (h : Below B w W) {r : Nat} (hB : B ≤ r) (hn : B ≤ W.heap.size) (o : Obj) : Below B w (W.putObj r o) := h.grown (grownBy_putObj' W r o) hn (fun k e => by cases e; exact hB)
theorem setRow_grown (W : World) (g : Nat) (cs : Array Value) : W.grownBy (W.setRow g cs) (some g) := ⟨rfl, rfl, rfl, by simp, fun k _ hk => setRow_other W g k cs (fun e => hk (by rw [e]))⟩
/-- What Match tells: the first of a chain that is there. -/
def inKs (ks : List (List UInt8)) (y : B10) : Bool := decide (y.1 ∈ ks)
def mR (ks : List (List UInt8)) (xs : List B10) : List UInt8 := ((xs.find? (inKs ks)).map (·.1)).getD tag0
def mB (ks : List (List UInt8)) (xs : List B10) : Bool := (xs.find? (inKs ks)).isSome
/-- Between two rounds of the first loop. -/
structure MSt (w W : World) (x0 : B10) (ks : List (List UInt8)) : Prop where
  bel : Below w.heap.size w W
  want : W.heap[w.heap.size]? = some (Obj.cells (bC x0.1) 29 (0, 0))
  res : W.heap[w.heap.size + 1]? = some (Obj.cells (bC tag0) 29 (0, 0))
  ok : Boxed W (w.heap.size + 2) 4 (.bool false)
  box : Boxed W (w.heap.size + 4) 100 (.map (some (w.heap.size + 3)))
  set : SetIs W (w.heap.size + 3) ks
theorem MSt.below {w W W' : World} {x0 : B10} {ks : List (List UInt8)} (h : MSt w W x0 ks) (hb : Below W.heap.size W W') : MSt w W' x0 ks :=
  ⟨h.bel.trans (hb.mono h.bel.size), (kp (Lib.hid h.want) hb).out, (kp (Lib.hid h.res) hb).out, (kp (Lib.hid h.ok) hb).out, (kp (Lib.hid h.box) hb).out, h.set.of (hb.block _ h.set.lt)⟩
theorem MSt.grown {w W W' : World} {x0 : B10} {ks : List (List UInt8)} {Bd : Nat} {row : Option Nat} (h : MSt w W x0 ks) (hBd : w.heap.size + 5 ≤ Bd) (hg : W.grownBy W' row) (hr : ∀ r, row = some r → Bd ≤ r) : MSt w W' x0 ks := by
  have hk : ∀ k, k < w.heap.size + 5 → k < W.heap.size → W'.heap[k]? = W.heap[k]? := fun k h1 h2 => hg.block k h2 (fun e => by have := hr k e.symm; omega)
  have l4 := h.box.lt
  exact ⟨h.bel.grown hg h.bel.size (fun k e => by have := hr k e; omega), (hk _ (by omega) (by omega)).trans h.want, (hk _ (by omega) (by omega)).trans h.res, (hk _ (by omega) (by omega)).trans h.ok, (hk _ (by omega) (by omega)).trans h.box, h.set.of (hk _ (by omega) (by omega))⟩
/-- A round has left with the tag found. -/
structure MFd (w W : World) (y : B10) : Prop where
  bel : Below w.heap.size w W
  res : W.heap[w.heap.size + 1]? = some (Obj.cells (bC y.1) 29 (0, 0))
  ok : Boxed W (w.heap.size + 2) 4 (.bool true)
def MIx (w : World) (ks : List (List UInt8)) (c : Code) (pre : List B10) (W : World) : Prop := c = .ret ∧ ∃ y, pre.find? (inKs ks) = some y ∧ MFd w W y
theorem MFd.grown {w W W' : World} {y : B10} {Bd : Nat} {row : Option Nat} (h : MFd w W y) (hBd : w.heap.size + 5 ≤ Bd) (hg : W.grownBy W' row) (hr : ∀ r, row = some r → Bd ≤ r) : MFd w W' y := by
  have hk : ∀ k, k < w.heap.size + 5 → k < W.heap.size → W'.heap[k]? = W.heap[k]? := fun k h1 h2 => hg.block k h2 (fun e => by have := hr k e.symm; omega)
  have l4 := h.ok.lt
  exact ⟨h.bel.grown hg h.bel.size (fun k e => by have := hr k e; omega), (hk _ (by omega) (by omega)).trans h.res, (hk _ (by omega) (by omega)).trans h.ok⟩
theorem MSt.put {w W : World} {x0 : B10} {ks : List (List UInt8)} (h : MSt w W x0 ks) (k : List UInt8) (hk : k.length = 10) :
    ∃ o, (Instr.mapUpdate 100 (.map (some (w.heap.size + 3))) (.agg (bC k)) (.bool true)).run Tryd.prog W = .ok () (W.putObj (w.heap.size + 3) o) ∧ MSt w (W.putObj (w.heap.size + 3) o) x0 (ks ++ [k]) := by
  obtain ⟨o, h1, h2⟩ := h.set.put k hk
  have ho : ∀ g, g ≠ w.heap.size + 3 → (W.putObj (w.heap.size + 3) o).heap[g]? = W.heap[g]? := fun g hg => World.putObj_heap_other hg
  exact ⟨o, h1, put_below h.bel (by omega) h.bel.size o, (ho _ (by omega)).trans h.want, (ho _ (by omega)).trans h.res, (ho _ (by omega)).trans h.ok, (ho _ (by omega)).trans h.box, h2⟩
theorem MSt.start (w : World) (x0 : B10) : MSt w (((((w.alloc (.cells (bC x0.1) 29)).alloc (.cells (bC tag0) 29)).alloc (.cells #[.bool false] 4)).alloc (.map #[] 0)).alloc (.cells #[.map (some (w.heap.size + 3))] 100)) x0 [] := by
  have h3 := below_alloc2 w (.cells (bC x0.1) 29) (.cells (bC tag0) 29)
  have hsz2 : ((w.alloc (.cells (bC x0.1) 29)).alloc (.cells (bC tag0) 29)).heap.size = w.heap.size + 2 := by simp
  have g0 : Hid (((w.alloc (.cells (bC x0.1) 29)).alloc (.cells (bC tag0) 29)).heap[w.heap.size]? = some (Obj.cells (bC x0.1) 29 (0, 0))) := heap_alloc2_old _ _ _
  have g1 : Hid (((w.alloc (.cells (bC x0.1) 29)).alloc (.cells (bC tag0) 29)).heap[w.heap.size + 1]? = some (Obj.cells (bC tag0) 29 (0, 0))) := heap_alloc2_new _ _ _
  generalize ((w.alloc (.cells (bC x0.1) 29)).alloc (.cells (bC tag0) 29)) = W2 at *
  have b1 := below_alloc1 W2 (.cells #[.bool false] 4)
  have b2 := below_alloc1 (W2.alloc (.cells #[.bool false] 4)) (.map #[] 0)
  have b3 := below_alloc1 ((W2.alloc (.cells #[.bool false] 4)).alloc (.map #[] 0)) (.cells #[.map (some (w.heap.size + 3))] 100)
  have n1 : Hid ((W2.alloc (.cells #[.bool false] 4)).heap[W2.heap.size]? = some (Obj.cells #[.bool false] 4 (0, 0))) := heap_alloc_new _ _
  have n2 : Hid (((W2.alloc (.cells #[.bool false] 4)).alloc (.map #[] 0)).heap[(W2.alloc (.cells #[.bool false] 4)).heap.size]? = some (Obj.map #[] 0)) := heap_alloc_new _ _
  have n3 : Hid ((((W2.alloc (.cells #[.bool false] 4)).alloc (.map #[] 0)).alloc (.cells #[.map (some (w.heap.size + 3))] 100)).heap[((W2.alloc (.cells #[.bool false] 4)).alloc (.map #[] 0)).heap.size]? = some (Obj.cells #[.map (some (w.heap.size + 3))] 100 (0, 0))) := heap_alloc_new _ _
  simp only [World.size_alloc, hsz2, Nat.add_assoc, Nat.reduceAdd] at n1 n2 n3
  refine ⟨bt (bt (bt (Lib.hid h3) b1) b2) b3 |>.out, (kp (kp (kp g0 b1) b2) b3).out, (kp (kp (kp g1 b1) b2) b3).out, (kp (kp n1 b2) b3).out, n3.out, ⟨[], 0, (kp n2 b3).out, (by intro e he; cases he), (by intro k; simp)⟩⟩
theorem inl_eB {F : Fence} {n : Nat} {ops : Array Oper} {rest : List Oper} {o : Oper} {a : Act} {w : World} {Q : Exit → Act → World → Prop} (hg : o.guard = none) (x : Operand) (ho : o.op = .load 29 x) (b f : Nat) (y : B10) (hx : a.eval x = .pointer (some ⟨b, f, none⟩)) (hc : w.rangeAt b f (encB y))
    (h : wpListIn F n Tryd.prog ops Q rest (a.put o.dst (.agg (bC y.1))) w) : wpListIn F n Tryd.prog ops Q (o :: rest) a w :=
  inl_ldr hg 29 x ho b f (encB y) _ Tryd.underlying29 rfl (by rw [sizTag, encB_len]) hx hc (by simpa [encB] using h)
set_option maxRecDepth 100000 in
set_option maxHeartbeats 8000000 in
theorem match_any (x0 : B10) (hs : List B10) (q : Option Addr) (n cap : Nat) (w : World) (hn : hs.length = n) (hn2 : n ≤ 1000000) (hc : n ≤ cap) (hS : SlAt encB 10 w q hs) (hmx : MX w) :
    Calls Tryd.prog 31 #[.agg (bC x0.1), .slice q n cap] w fun e w' => e = .returned (.tuple #[.agg (bC (mR (hs.map (·.1)) (upX x0))), .bool (mB (hs.map (·.1)) (upX x0))]) ∧ Below w.heap.size w w' := by
  refine (callsIn_wide (n := 5)).1 ?_
  have HS := Lib.hid hS
  clear hS
  have hmm := @run_makeMap Tryd.prog
  refine callsIn_of_wp_marks Tryd.func31 rfl trivial ?_ rfl
  simp only [Tryd.ntmps31, List.size_toArray, List.length_cons, List.length_nil, Nat.reduceAdd, Nat.reduceSub, Array.replicate_succ, Array.replicate_zero, List.push_toArray, List.append_toArray, List.nil_append, List.cons_append]
  gi_upto_region 2 with fail
  rw [show (Obj.cells #[.int .u8 0, .int .u8 0, .int .u8 0, .int .u8 0, .int .u8 0, .int .u8 0, .int .u8 0, .int .u8 0, .int .u8 0, .int .u8 0] 29) = Obj.cells (bC tag0) 29 from rfl]
  have HM := Lib.hid (MSt.start w x0)
  simp only [Nat.add_assoc, Nat.reduceAdd] at HM ⊢
  generalize (((((w.alloc (.cells (bC x0.1) 29)).alloc (.cells (bC tag0) 29)).alloc (.cells #[.bool false] 4)).alloc (.map #[] 0)).alloc (.cells #[.map (some (w.heap.size + 3))] 100)) = W1 at *
  clear hmm
  gi_wp2
  gi_loopw [13] (fun i wr => ∃ j : Nat, j ≤ n ∧ i = .int .i64 j ∧ MSt w wr x0 ((hs.take j).map (·.1))) (fun i _ => n - (intOf i).toNat)
  case atStart => exact ⟨0, Nat.zero_le _, rfl, HM.out⟩
  case round =>
    obtain ⟨j, hj, rfl, hm1⟩ := hrel
    clear HM
    have HM := Lib.hid hm1
    clear hm1
    by_cases hjn : j < n
    · have hji : (j : Int) < n := by omega
      have hjl : j < hs.length := by omega
      obtain ⟨b, f, rfl, hb, hr⟩ := HS.out.below HM.out.bel j hjl
      have HR := Lib.hid hr
      have htk : (hs.take j).map (·.1) ++ [hs[j].1] = (hs.take (j + 1)).map (·.1) := by
        rw [List.take_succ_eq_append_getElem hjl, List.map_append]; rfl
      generalize hs[j] = y at *
      have HTk := Lib.hid htk
      clear hr htk hb
      gi_wp2_with (first
        | (refine inl_ix rfl 46 29 _ _ rfl Tryd.underlying46 10 sizTag b f n cap j rfl rfl hjn ?_)
        | (refine inl_eB rfl _ rfl b (f + j * 10) y rfl HR.out ?_)
        | (refine inl_strn rfl 29 _ _ rfl (bC y.1) (bC tag0) 29 (by rw [sizTag, bC_size, y.2]) (by rw [bC_size, bC_size, y.2]; rfl) (bC_one _) rfl rfl ?_; have HM2 := Lib.hid (HM.out.below (below_alloc1 wr (.cells (bC y.1) 29))); have HT2 : Hid ((wr.alloc (.cells (bC y.1) 29)).heap[wr.heap.size]? = some (Obj.cells (bC y.1) 29 (0, 0))) := heap_alloc_new _ _; generalize (wr.alloc (.cells (bC y.1) 29)) = W2 at *; have hbc := HM2.out.box.cell)
        | (refine inl_ldr rfl 29 _ rfl wr.heap.size 0 (bC y.1).toList _ Tryd.underlying29 rfl (by rw [sizTag]; simp [bC, y.2]) rfl (range_whole (by simpa using HT2.out)) ?_)
        | (obtain ⟨o2, hput, hm3⟩ := HM2.out.put y.1 y.2; refine inl_mu rfl _ _ _ _ rfl _ _ _ rfl rfl rfl _ hput ?_; have HM3 := Lib.hid hm3; clear hput hm3))
      go_roundw
      case rel => exact ⟨j + 1, by omega, by simp, by rw [← HTk.out]; exact HM3.out⟩
      case measure => simp [intOf]; omega
    · have hji : ¬ (j : Int) < n := by omega
      have hjn2 : j = n := by omega
      rw [hjn2, List.take_of_length_le (by omega)] at HM
      generalize hks : hs.map (·.1) = ks at *
      have HG0 := Lib.hid HM.out.want
      gi_wp2_with (first
        | (refine inl_ldr rfl 29 _ rfl w.heap.size 0 (bC x0.1).toList _ Tryd.underlying29 rfl (by rw [sizTag]; simp [bC, x0.2]) rfl (range_whole (by simpa using HG0.out)) ?_)
        | (refine ⟨trivial, ?_⟩; gi_at_call 53; (refine (callsIn_wide.2 (run_up x0.1 _)).mono ?_); rintro e w5 ⟨rfl, rfl⟩))
      have HM0 := Lib.hid (HM.out.below (below_alloc1 wr (.cells (bC x0.1) 29)))
      have HGx : Hid ((wr.alloc (.cells (bC x0.1) 29)).heap[wr.heap.size]? = some (Obj.cells (bC x0.1) 29 (0, 0))) := heap_alloc_new _ _
      generalize (wr.alloc (.cells (bC x0.1) 29)) = W0 at *
      generalize wr.heap.size = g at *
      have hBsz := HM0.out.bel.size
      have hB5 : w.heap.size + 5 ≤ W0.heap.size := HM0.out.box.lt
      clear HG0 HM
      refine wpIn_rangeFunc_ownH (F := Fence.wide) rfl (by omega) (gf := 64) (lb := #[.pointer (some ⟨g, 0, none⟩)]) rfl trivial (enters_of Tryd.func64 (by kernel_rfl) rfl)
        (up_stops 4 (by omega) g w.heap.size x0 W0 _ _ _ (kpB_ok hBsz (fun W hW => hmx.below (HM0.out.bel.trans hW))) HGx.out) KpB.trans (kpB_put hBsz) (Below.refl _ _) (fun _ => rfl)
        (fun pre W => pre.find? (inKs ks) = none ∧ MSt w W x0 ks)
        (fun c pre W => MIx w ks c pre W)
        (fun pre X Y row hs hg hr => ⟨hs.1, hs.2.grown hB5 hg (fun r e => (hr r e).1)⟩)
        (fun c pre X Y row hs hg hr => by
          obtain ⟨h1, y, h2, h3⟩ := hs
          exact ⟨h1, y, h2, h3.grown hB5 hg (fun r e => (hr r e).1)⟩)
        ⟨rfl, HM0.out⟩
        (fun x a' W => ∃ Bx, W.heap[Bx]? = some (Obj.cells (bC x.1) 29 (0, 0)) ∧ a' = { tmps := #[.agg (bC x0.1), .slice q n cap, .pointer (some ⟨w.heap.size, 0, none⟩), undef, .pointer (some ⟨w.heap.size + 1, 0, none⟩), .pointer (some ⟨w.heap.size + 2, 0, none⟩), .pointer (some ⟨w.heap.size + 4, 0, none⟩), undef, u8, .pointer (some ⟨Bx, 0, none⟩), .map (some (w.heap.size + 3)), .slice q n cap, .int .i64 n, .int .i64 n, .bool false, u15, u16, u17, u18, u19, .agg (bC x0.1), .func (.func 64) #[] #[.pointer (some ⟨g, 0, none⟩)], .agg (bC x.1), undef, undef, undef, undef, undef], defers := [] })
        (fun x a' _ X Y row hs hg hr => by
          obtain ⟨Bx, h1, h2⟩ := hs
          exact ⟨Bx, row_from5 _ _ _ _ (s := ()) h1 hg hr, h2⟩)
        ?assign ?body ?done ?stop
      case assign =>
        rintro l pre x W K hI hK
        have HI := Lib.hid hI
        have HK := Lib.hid hK
        clear hI hK
        unfold encX
        gi_wp2_with (first
          | (refine inl_strn rfl 29 _ _ rfl (bC x.1) (bC tag0) 29 (by rw [sizTag, bC_size, x.2]) (by rw [bC_size, bC_size, x.2]; rfl) (bC_one _) rfl rfl ?_))
        exact HK.out _ _ ((KeepsOthers.alloc _ _).from _) (kpB_below HI.out.2.bel.size (below_alloc1 _ _)) ⟨HI.out.1, HI.out.2.below (below_alloc1 _ _)⟩ ⟨W.heap.size, heap_alloc_new _ _, rfl⟩
      case body =>
        rintro l pre x a' W _ _ ⟨hf, hm⟩ ⟨Bx, hx, rfl⟩ hlt
        have hbc := hm.box.cell
        have HX := Lib.hid hx
        have HMM := Lib.hid hm
        have hlk := hm.set.look x.1 x.2
        clear hx hm
        have hfx : (pre ++ [x]).find? (inKs ks) = if inKs ks x then some x else none := by
          rw [List.find?_append, hf]
          cases h : inKs ks x <;> simp [h]
        have hin : decide (x.1 ∈ ks) = inKs ks x := rfl
        rw [hin] at hlk
        cases hxv : inKs ks x
        · rw [hxv] at hlk hfx
          have HLk := Lib.hid hlk
          clear hlk
          gi_wp2_with (first
            | (refine inl_ldr rfl 29 _ rfl Bx 0 (bC x.1).toList _ Tryd.underlying29 rfl (by rw [sizTag]; simp [bC, x.2]) rfl (range_whole (by simpa using HX.out)) ?_)
            | (refine inl_lk rfl _ _ _ rfl _ _ _ rfl rfl HLk.out ?_))
          exact ⟨KeepsFrom.refl _ _, ⟨Below.refl _ _, fun _ _ _ _ _ => rfl⟩, hfx, HMM.out⟩
        · rw [hxv] at hlk hfx
          have HLk := Lib.hid hlk
          clear hlk
          have HR3 : Hid ((W.setRow (w.heap.size + 1) (bC x.1)).heap[w.heap.size + 1]? = some (Obj.cells (bC x.1) 29 (0, 0))) := setRow_at HMM.out.res
          have HO3 : Hid (Boxed (W.setRow (w.heap.size + 1) (bC x.1)) (w.heap.size + 2) 4 (.bool false)) := (setRow_other _ _ _ _ (by omega)).trans HMM.out.ok
          have HB3 : Hid (Below w.heap.size w (W.setRow (w.heap.size + 1) (bC x.1))) := setRow_below HMM.out.bel (by omega) _
          have HK3 : Hid (KeepsOthers W (W.setRow (w.heap.size + 1) (bC x.1))) := KeepsOthers.of_grownBy (setRow_grown W _ _) (fun j o ej hj => by cases ej; rw [HMM.out.res] at hj; cases hj; rfl)
          gi_wp2_with (first
            | (refine inl_ldr rfl 29 _ rfl Bx 0 (bC x.1).toList _ Tryd.underlying29 rfl (by rw [sizTag]; simp [bC, x.2]) rfl (range_whole (by simpa using HX.out)) ?_)
            | (refine inl_lk rfl _ _ _ rfl _ _ _ rfl rfl HLk.out ?_)
            | (refine inl_str rfl 29 _ _ rfl (w.heap.size + 1) (bC x.1) (bC tag0) 29 (by rw [sizTag, bC_size, x.2]) (by rw [bC_size, bC_size, x.2]; rfl) (bC_one _) rfl rfl HMM.out.res ?_; generalize (W.setRow (w.heap.size + 1) (bC x.1)) = W3 at *; have hc3 := HO3.out.cell; have hf3 := HO3.out.frozen))
          exact ⟨(HK3.out.trans (KeepsOthers.setCell _ _ _)).from _, rfl, x, by rw [hfx]; simp, ⟨HB3.out.setCell (p := ⟨w.heap.size + 2, 0, none⟩) (by simp) _, (Below.heap_setCell _ _ _ _ (by simp)).trans HR3.out, HO3.out.set _⟩⟩
      case done =>
        rintro D ys W hD rfl ⟨hf, hm⟩ hK
        have HMM := Lib.hid hm
        clear hm
        have HR3 : Hid ((W.setRow (w.heap.size + 1) (bC tag0)).heap[w.heap.size + 1]? = some (Obj.cells (bC tag0) 29 (0, 0))) := setRow_at HMM.out.res
        have HO3 : Hid (Boxed (W.setRow (w.heap.size + 1) (bC tag0)) (w.heap.size + 2) 4 (.bool false)) := (setRow_other _ _ _ _ (by omega)).trans HMM.out.ok
        have HB3 : Hid (Below w.heap.size w (W.setRow (w.heap.size + 1) (bC tag0))) := setRow_below HMM.out.bel (by omega) _
        have HD3 : Hid ((W.setRow (w.heap.size + 1) (bC tag0)).heap[D]? = some (.deferred (some []))) := (setRow_other _ _ _ _ (by omega)).trans hK
        gi_wp2_with (first
          | (refine inl_str rfl 29 _ _ rfl (w.heap.size + 1) (bC tag0) (bC tag0) 29 (by rw [sizTag, bC_size]; rfl) rfl (bC_one _) rfl rfl HMM.out.res ?_; generalize (W.setRow (w.heap.size + 1) (bC tag0)) = W3 at *; have hc3 := HO3.out.cell; have hf3 := HO3.out.frozen))
        have hK' := (KeepsOthers.setCell W3 ⟨w.heap.size + 2, 0, none⟩ (.bool false)).same D _ HD3.out rfl
        refine ⟨by simp, .inl ⟨_, _, rfl, run_takeDeferred hK', ?_⟩⟩
        have hb5 : Boxed ((W3.setCell ⟨w.heap.size + 2, 0, none⟩ (.bool false)).putObj D (.deferred none)) (w.heap.size + 2) 4 (.bool false) := (World.putObj_heap_other (by omega)).trans (HO3.out.set _)
        have hr5 : ((W3.setCell ⟨w.heap.size + 2, 0, none⟩ (.bool false)).putObj D (.deferred none)).heap[w.heap.size + 1]? = some (Obj.cells (bC tag0) 29 (0, 0)) := (World.putObj_heap_other (by omega)).trans ((Below.heap_setCell _ _ _ _ (by simp)).trans HR3.out)
        refine ⟨_, res_rowc_cell (P := Tryd.prog) (T := 29) (T' := 29) (E := 4) rfl _ _ (w.heap.size + 1) (w.heap.size + 2) (bC tag0) (0, 0) (.bool false) rfl hr5 Tryd.underlying29 rfl (by rw [sizTag, bC_size]; rfl) rfl (load_bool hb5), ?_, (HB3.out.setCell (p := ⟨w.heap.size + 2, 0, none⟩) (by simp) _).trans (belowK_b (w := w) (Nat.le_refl _) _ D _ _ (by omega) hK' rfl rfl)⟩
        rw [mR, mB, hks, hf]; rfl
      case stop =>
        rintro D c pre W hD hpre ⟨rfl, y, hfy, hmf⟩ hK
        gi_wp2
        refine ⟨by simp, .inl ⟨_, _, rfl, run_takeDeferred hK, ?_⟩⟩
        have hb5 : Boxed (W.putObj D (.deferred none)) (w.heap.size + 2) 4 (.bool true) := (World.putObj_heap_other (by omega)).trans hmf.ok
        have hr5 : (W.putObj D (.deferred none)).heap[w.heap.size + 1]? = some (Obj.cells (bC y.1) 29 (0, 0)) := (World.putObj_heap_other (by omega)).trans hmf.res
        refine ⟨_, res_rowc_cell (P := Tryd.prog) (T := 29) (T' := 29) (E := 4) rfl _ _ (w.heap.size + 1) (w.heap.size + 2) (bC y.1) (0, 0) (.bool true) rfl hr5 Tryd.underlying29 rfl (by rw [sizTag, bC_size, y.2]) rfl (load_bool hb5), ?_, hmf.bel.trans (belowK_b (w := w) (Nat.le_refl _) W D _ _ (by omega) hK rfl rfl)⟩
        have : (upX x0).find? (inKs ks) = some y := by
          obtain ⟨r, hr⟩ := hpre
          rw [← hr, List.find?_append, hfy]; rfl
        rw [mR, mB, hks, this]; rfl
end Go.Proofs.YtnambaiafailaaaDoor
