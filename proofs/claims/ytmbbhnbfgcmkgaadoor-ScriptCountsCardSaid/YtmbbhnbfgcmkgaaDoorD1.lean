/- The document's Uses, word, Bare. -/
import Derived.Test.YtmbbhnbfgcmkgaaDoorB5
namespace Go.Proofs.YtmbbhnbfgcmkgaaDoor
open Go.RowKit

def uW (k : Int) : Bool := decide (k = 1 ∨ k = 2 ∨ k = 3)
def uN (k : Int) : Bool := decide (k = 4 ∨ k = 6)
def uB (k : Int) : Bool := decide (k = 1)
set_option maxRecDepth 100000 in
set_option maxHeartbeats 2000000 in
theorem refUses_any (k : Int) (w : World) :
    Calls Tryd.prog 29 #[.int .i64 k] w fun e w' => e = .returned (.tuple #[.bool (uW k), .bool (uN k), .bool (uB k)]) ∧ Below w.heap.size w w' := by
  rcases kinds k with h | h | rfl | rfl | rfl | rfl | rfl | rfl
  case inl =>
    have e1 : Hid (uW k = false ∧ uN k = false ∧ uB k = false) := ⟨decide_eq_false (by omega), decide_eq_false (by omega), decide_eq_false (by omega)⟩
    have h1 : ¬ 1 ≤ k := by omega
    have h4 : (k == 4) = false := by rw [beq_eq_false_iff_ne]; omega
    have h6 : (k == 6) = false := by rw [beq_eq_false_iff_ne]; omega
    have h7 : (k == 1) = false := by rw [beq_eq_false_iff_ne]; omega
    go_enter Tryd.func29, Tryd.ntmps29
    go_wp2_with fail
    go_ret3
    exact ⟨by rw [e1.out.1, e1.out.2.1, e1.out.2.2]; rfl, Below.refl _ _⟩
  case inr.inl =>
    have e1 : Hid (uW k = false ∧ uN k = false ∧ uB k = false) := ⟨decide_eq_false (by omega), decide_eq_false (by omega), decide_eq_false (by omega)⟩
    have h1 : 1 ≤ k := by omega
    have h2 : ¬ k ≤ 3 := by omega
    have h4 : (k == 4) = false := by rw [beq_eq_false_iff_ne]; omega
    have h6 : (k == 6) = false := by rw [beq_eq_false_iff_ne]; omega
    have h7 : (k == 1) = false := by rw [beq_eq_false_iff_ne]; omega
    go_enter Tryd.func29, Tryd.ntmps29
    go_wp2_with fail
    go_ret3
    exact ⟨by rw [e1.out.1, e1.out.2.1, e1.out.2.2]; rfl, Below.refl _ _⟩
  all_goals
    go_enter Tryd.func29, Tryd.ntmps29
    go_wp2_with fail
    go_ret3
    exact ⟨rfl, Below.refl _ _⟩
set_option maxRecDepth 100000 in
set_option maxHeartbeats 2000000 in
theorem refWord_any (k : Int) (w : World) (h1 : 1 ≤ k) (h2 : k ≤ 6) :
    Calls Tryd.prog 36 #[.int .i64 k] w fun e w' => e = .returned (.string ⟨(wordL k).toArray⟩) ∧ Below w.heap.size w w' := by
  obtain rfl | rfl | rfl | rfl | rfl | rfl : k = 1 ∨ k = 2 ∨ k = 3 ∨ k = 4 ∨ k = 5 ∨ k = 6 := by omega
  all_goals
    have HB := Lib.hid (below_alloc1 w (.cells #[.string ⟨#[114, 101, 113, 117, 101, 115, 116]⟩, .string ⟨#[112, 105, 99, 107]⟩, .string ⟨#[116, 97, 107, 101]⟩, .string ⟨#[115, 119, 101, 101, 112]⟩, .string ⟨#[114, 111, 117, 110, 100]⟩, .string ⟨#[114, 101, 115, 116]⟩] 9))
    go_enter Tryd.func36, Tryd.ntmps36
    go_wp2_with fail
    go_ret
    exact ⟨rfl, HB.out⟩
/-- Where the document's Bare stands. -/
structure DSt (w W : World) (x : D4) : Prop where
  bel : Below w.heap.size w W
  p : W.heap[w.heap.size]? = some (Obj.cells (d4C x).toArray 32 (0, 0))
theorem DSt.below {w W W' : World} {x : D4} (h : DSt w W x) (hb : Below W.heap.size W W') : DSt w W' x := ⟨h.bel.trans (hb.mono h.bel.size), (hb.block _ (lt_heap h.p)).trans h.p⟩
theorem DSt.set {w W : World} {x y : D4} (h : DSt w W x) (i : Nat) (v : Value) (hc : (d4C x).toArray.setIfInBounds i v = (d4C y).toArray) : DSt w (W.setCell ⟨w.heap.size, i, none⟩ v) y :=
  ⟨h.bel.setCell (p := ⟨w.heap.size, i, none⟩) (Nat.le_refl _) _, by rw [heap_setCell_self _ h.p, hc]⟩
theorem DSt.cells {w W : World} {x : D4} (h : DSt w W x) : W.cell? ⟨w.heap.size, 0, none⟩ = some (.int .i64 x.kind) ∧ W.cell? ⟨w.heap.size, 1, none⟩ = some (.int .i64 x.who) ∧ W.cell? ⟨w.heap.size, 2, none⟩ = some (.int .i64 x.n) ∧ W.cell? ⟨w.heap.size, 3, none⟩ = some (.string ⟨x.b.toArray⟩) := by
  rw [cell_blk h.p, cell_blk h.p, cell_blk h.p, cell_blk h.p]; exact ⟨rfl, rfl, rfl, rfl⟩
theorem DSt.free {w W : World} {x : D4} (h : DSt w W x) (i : Nat) : W.frozen? ⟨w.heap.size, i, none⟩ = false := by simp [World.frozen?, h.p]
theorem rset {w W : World} {o : Obj} (h : W.heap[w.heap.size + 1]? = some o) (i : Nat) (v : Value) : (W.setCell ⟨w.heap.size, i, none⟩ v).heap[w.heap.size + 1]? = some o := (heap_setCell_other _ (by simp)).trans h
theorem bareD_eq (x : D4) : bareD x = ⟨x.kind, if uW x.kind then x.who else 0, if uN x.kind then x.n else 0, if uB x.kind then x.b else []⟩ := by
  unfold bareD uW uN uB; simp
set_option maxRecDepth 100000 in
set_option maxHeartbeats 4000000 in
theorem refBare_any (x : D4) (w : World) :
    Calls Tryd.prog 13 #[.agg (d4C x).toArray] w fun e w' => e = .returned (.agg (d4C (bareD x)).toArray) ∧ Below w.heap.size w w' := by
  have HD : Hid (DSt w ((w.alloc (.cells (d4C x).toArray 32)).alloc (.cells (d4C d40).toArray 32)) x) := ⟨below_alloc2 _ _ _, heap_alloc2_old _ _ _⟩
  have HR : Hid (((w.alloc (.cells (d4C x).toArray 32)).alloc (.cells (d4C d40).toArray 32)).heap[w.heap.size + 1]? = some (Obj.cells (d4C d40).toArray 32 (0, 0))) := heap_alloc2_new _ _ _
  have HE := Lib.hid (bareD_eq x)
  have KU : Hid (∀ W, Calls Tryd.prog 29 #[.int .i64 x.kind] W fun e w' => e = .returned (.tuple #[.bool (uW x.kind), .bool (uN x.kind), .bool (uB x.kind)]) ∧ Below W.heap.size W w') := fun W => refUses_any x.kind W
  have hz : (Obj.cells #[Value.int IntKind.i64 0, Value.int IntKind.i64 0, Value.int IntKind.i64 0, Value.string ⟨#[]⟩] 32) = Obj.cells (d4C d40).toArray 32 := rfl
  generalize uW x.kind = bw at *
  generalize uN x.kind = bn at *
  generalize uB x.kind = bb at *
  go_enter Tryd.func13, Tryd.ntmps13
  go_upto_region 1 with fail
  clear hz
  generalize (w.alloc (.cells (d4C x).toArray 32)).alloc (.cells (d4C d40).toArray 32) = W0 at *
  have hk0 : W0.cell? ⟨w.heap.size, 0, none⟩ = some (.int .i64 x.kind) := HD.out.cells.1
  go_upto_region 2 with (go_at_call 29; (refine (KU.out _).mono ?_); rintro e W1 ⟨rfl, hb1⟩; have HD1 := Lib.hid (HD.out.below hb1); have HR1 : Hid (W1.heap[w.heap.size + 1]? = some (Obj.cells (d4C d40).toArray 32 (0, 0))) := ((hb1.block _ (lt_heap HR.out)).trans HR.out); clear hb1 HD HR hk0 KU)
  have hf1 := HD1.out.free 1
  have hf2 := HD1.out.free 2
  have hf3 := HD1.out.free 3
  have hc1 := HD1.out.cells.2.1
  have hc2 := HD1.out.cells.2.2.1
  have hc3 := HD1.out.cells.2.2.2
  cases bw <;> cases bn <;> cases bb
  · have HD2 := Lib.hid (((HD1.out.set (y := ⟨x.kind, 0, x.n, x.b⟩) 1 (.int .i64 0) rfl).set (y := ⟨x.kind, 0, 0, x.b⟩) 2 (.int .i64 0) rfl).set (y := ⟨x.kind, 0, 0, []⟩) 3 (.string ⟨#[]⟩) rfl)
    have HR2 := Lib.hid (rset (rset (rset HR1.out 1 (.int .i64 0)) 2 (.int .i64 0)) 3 (.string ⟨#[]⟩))
    have HG := Lib.hid (setRow_at (cs := (d4C ⟨x.kind, 0, 0, []⟩).toArray) HR2.out)
    go_wp2_with (first
      | (refine ld_D4 rfl _ rfl w.heap.size 0 ⟨x.kind, 0, 0, []⟩ rfl (range_whole (by simpa using HD2.out.p)) ?_)
      | ((with_reducible refine gate_st 32 _ _ rfl ?_); refine wl_str rfl _ _ _ rfl (w.heap.size + 1) (d4C ⟨x.kind, 0, 0, []⟩).toArray (d4C d40).toArray _ sizD4 rfl (by simp [d4C, Value.oneCell']) rfl rfl HR2.out ?_))
    refine bodyPost_ret (res_rowc rfl _ _ (w.heap.size + 1) _ _ rfl HG.out Tryd.underlying32 rfl sizD4) rfl ⟨by rw [HE.out]; rfl, setRow_below HD2.out.bel (by omega) _⟩
  · have HD2 := Lib.hid ((HD1.out.set (y := ⟨x.kind, 0, x.n, x.b⟩) 1 (.int .i64 0) rfl).set (y := ⟨x.kind, 0, 0, x.b⟩) 2 (.int .i64 0) rfl)
    have HR2 := Lib.hid (rset (rset HR1.out 1 (.int .i64 0)) 2 (.int .i64 0))
    have HG := Lib.hid (setRow_at (cs := (d4C ⟨x.kind, 0, 0, x.b⟩).toArray) HR2.out)
    go_wp2_with (first
      | (refine ld_D4 rfl _ rfl w.heap.size 0 ⟨x.kind, 0, 0, x.b⟩ rfl (range_whole (by simpa using HD2.out.p)) ?_)
      | ((with_reducible refine gate_st 32 _ _ rfl ?_); refine wl_str rfl _ _ _ rfl (w.heap.size + 1) (d4C ⟨x.kind, 0, 0, x.b⟩).toArray (d4C d40).toArray _ sizD4 rfl (by simp [d4C, Value.oneCell']) rfl rfl HR2.out ?_))
    refine bodyPost_ret (res_rowc rfl _ _ (w.heap.size + 1) _ _ rfl HG.out Tryd.underlying32 rfl sizD4) rfl ⟨by rw [HE.out]; rfl, setRow_below HD2.out.bel (by omega) _⟩
  · have HD2 := Lib.hid ((HD1.out.set (y := ⟨x.kind, 0, x.n, x.b⟩) 1 (.int .i64 0) rfl).set (y := ⟨x.kind, 0, x.n, []⟩) 3 (.string ⟨#[]⟩) rfl)
    have HR2 := Lib.hid (rset (rset HR1.out 1 (.int .i64 0)) 3 (.string ⟨#[]⟩))
    have HG := Lib.hid (setRow_at (cs := (d4C ⟨x.kind, 0, x.n, []⟩).toArray) HR2.out)
    go_wp2_with (first
      | (refine ld_D4 rfl _ rfl w.heap.size 0 ⟨x.kind, 0, x.n, []⟩ rfl (range_whole (by simpa using HD2.out.p)) ?_)
      | ((with_reducible refine gate_st 32 _ _ rfl ?_); refine wl_str rfl _ _ _ rfl (w.heap.size + 1) (d4C ⟨x.kind, 0, x.n, []⟩).toArray (d4C d40).toArray _ sizD4 rfl (by simp [d4C, Value.oneCell']) rfl rfl HR2.out ?_))
    refine bodyPost_ret (res_rowc rfl _ _ (w.heap.size + 1) _ _ rfl HG.out Tryd.underlying32 rfl sizD4) rfl ⟨by rw [HE.out]; rfl, setRow_below HD2.out.bel (by omega) _⟩
  · have HD2 := Lib.hid (HD1.out.set (y := ⟨x.kind, 0, x.n, x.b⟩) 1 (.int .i64 0) rfl)
    have HR2 := Lib.hid (rset HR1.out 1 (.int .i64 0))
    have HG := Lib.hid (setRow_at (cs := (d4C ⟨x.kind, 0, x.n, x.b⟩).toArray) HR2.out)
    go_wp2_with (first
      | (refine ld_D4 rfl _ rfl w.heap.size 0 ⟨x.kind, 0, x.n, x.b⟩ rfl (range_whole (by simpa using HD2.out.p)) ?_)
      | ((with_reducible refine gate_st 32 _ _ rfl ?_); refine wl_str rfl _ _ _ rfl (w.heap.size + 1) (d4C ⟨x.kind, 0, x.n, x.b⟩).toArray (d4C d40).toArray _ sizD4 rfl (by simp [d4C, Value.oneCell']) rfl rfl HR2.out ?_))
    refine bodyPost_ret (res_rowc rfl _ _ (w.heap.size + 1) _ _ rfl HG.out Tryd.underlying32 rfl sizD4) rfl ⟨by rw [HE.out]; rfl, setRow_below HD2.out.bel (by omega) _⟩
  · have HD2 := Lib.hid ((HD1.out.set (y := ⟨x.kind, x.who, 0, x.b⟩) 2 (.int .i64 0) rfl).set (y := ⟨x.kind, x.who, 0, []⟩) 3 (.string ⟨#[]⟩) rfl)
    have HR2 := Lib.hid (rset (rset HR1.out 2 (.int .i64 0)) 3 (.string ⟨#[]⟩))
    have HG := Lib.hid (setRow_at (cs := (d4C ⟨x.kind, x.who, 0, []⟩).toArray) HR2.out)
    go_wp2_with (first
      | (refine ld_D4 rfl _ rfl w.heap.size 0 ⟨x.kind, x.who, 0, []⟩ rfl (range_whole (by simpa using HD2.out.p)) ?_)
      | ((with_reducible refine gate_st 32 _ _ rfl ?_); refine wl_str rfl _ _ _ rfl (w.heap.size + 1) (d4C ⟨x.kind, x.who, 0, []⟩).toArray (d4C d40).toArray _ sizD4 rfl (by simp [d4C, Value.oneCell']) rfl rfl HR2.out ?_))
    refine bodyPost_ret (res_rowc rfl _ _ (w.heap.size + 1) _ _ rfl HG.out Tryd.underlying32 rfl sizD4) rfl ⟨by rw [HE.out]; rfl, setRow_below HD2.out.bel (by omega) _⟩
  · have HD2 := Lib.hid (HD1.out.set (y := ⟨x.kind, x.who, 0, x.b⟩) 2 (.int .i64 0) rfl)
    have HR2 := Lib.hid (rset HR1.out 2 (.int .i64 0))
    have HG := Lib.hid (setRow_at (cs := (d4C ⟨x.kind, x.who, 0, x.b⟩).toArray) HR2.out)
    go_wp2_with (first
      | (refine ld_D4 rfl _ rfl w.heap.size 0 ⟨x.kind, x.who, 0, x.b⟩ rfl (range_whole (by simpa using HD2.out.p)) ?_)
      | ((with_reducible refine gate_st 32 _ _ rfl ?_); refine wl_str rfl _ _ _ rfl (w.heap.size + 1) (d4C ⟨x.kind, x.who, 0, x.b⟩).toArray (d4C d40).toArray _ sizD4 rfl (by simp [d4C, Value.oneCell']) rfl rfl HR2.out ?_))
    refine bodyPost_ret (res_rowc rfl _ _ (w.heap.size + 1) _ _ rfl HG.out Tryd.underlying32 rfl sizD4) rfl ⟨by rw [HE.out]; rfl, setRow_below HD2.out.bel (by omega) _⟩
  · have HD2 := Lib.hid (HD1.out.set (y := ⟨x.kind, x.who, x.n, []⟩) 3 (.string ⟨#[]⟩) rfl)
    have HR2 := Lib.hid (rset HR1.out 3 (.string ⟨#[]⟩))
    have HG := Lib.hid (setRow_at (cs := (d4C ⟨x.kind, x.who, x.n, []⟩).toArray) HR2.out)
    go_wp2_with (first
      | (refine ld_D4 rfl _ rfl w.heap.size 0 ⟨x.kind, x.who, x.n, []⟩ rfl (range_whole (by simpa using HD2.out.p)) ?_)
      | ((with_reducible refine gate_st 32 _ _ rfl ?_); refine wl_str rfl _ _ _ rfl (w.heap.size + 1) (d4C ⟨x.kind, x.who, x.n, []⟩).toArray (d4C d40).toArray _ sizD4 rfl (by simp [d4C, Value.oneCell']) rfl rfl HR2.out ?_))
    refine bodyPost_ret (res_rowc rfl _ _ (w.heap.size + 1) _ _ rfl HG.out Tryd.underlying32 rfl sizD4) rfl ⟨by rw [HE.out]; rfl, setRow_below HD2.out.bel (by omega) _⟩
  · have HD2 := Lib.hid HD1.out
    have HR2 := Lib.hid HR1.out
    have HG := Lib.hid (setRow_at (cs := (d4C x).toArray) HR2.out)
    go_wp2_with (first
      | (refine ld_D4 rfl _ rfl w.heap.size 0 x rfl (range_whole (by simpa using HD2.out.p)) ?_)
      | ((with_reducible refine gate_st 32 _ _ rfl ?_); refine wl_str rfl _ _ _ rfl (w.heap.size + 1) (d4C x).toArray (d4C d40).toArray _ sizD4 rfl (by simp [d4C, Value.oneCell']) rfl rfl HR2.out ?_))
    refine bodyPost_ret (res_rowc rfl _ _ (w.heap.size + 1) _ _ rfl HG.out Tryd.underlying32 rfl sizD4) rfl ⟨by rw [HE.out]; rfl, setRow_below HD2.out.bel (by omega) _⟩
end Go.Proofs.YtmbbhnbfgcmkgaaDoor
