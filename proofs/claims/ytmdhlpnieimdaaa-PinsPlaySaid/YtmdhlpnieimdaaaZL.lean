/- PinsPlay: the two tables side by side; what a call leaves. -/
import Derived.Test.YtmdhlpnieimdaaaZK
namespace Go.Proofs.Ytmdhlpnieimdaaa
open Go.RowKit

theorem TabP.same {w w' : World} {tp : Nat} {s : PS} {o : Option Nat} (h : TabP w tp s o) (h1 : w'.heap[tp]? = w.heap[tp]?) (h2 : ∀ r, o = some r → w'.heap[r]? = w.heap[r]?) : TabP w' tp s o := by
  refine ⟨⟨h.1.1.block h1, ?_⟩, h.2⟩
  have := h.1.2
  cases o with
  | none => exact this
  | some r => exact ⟨this.1, this.2.block (h2 r rfl)⟩
theorem TabP.rlt {w : World} {tp r : Nat} {s : PS} (h : TabP w tp s (some r)) : r < w.heap.size := h.1.2.2.lt
/-- The program's table, the document's beside it. -/
structure PPI (w W : World) (tp : Nat) (s : PS) (o : Option Nat) (u : Nat) (ts : List Nat) : Prop where
  t : TabP W tp s o
  d : DT W (tp + 1) u ts
  b : Below tp w W
  r : ∀ r, o = some r → tp + 1 < r
theorem PPI.below {w W W' : World} {tp : Nat} {s : PS} {o : Option Nat} {u : Nat} {ts : List Nat} (h : PPI w W tp s o u ts) (hb : Below W.heap.size W W') : PPI w W' tp s o u ts :=
  ⟨h.t.below hb, h.d.below (lt_heap h.d) hb, h.b.trans (hb.mono (Nat.le_of_lt h.t.lt)), h.r⟩
theorem PPI.doc {w W W' : World} {tp : Nat} {s : PS} {o : Option Nat} {u u' : Nat} {ts ts' : List Nat} (h : PPI w W tp s o u ts) (ht : Turn [tp + 1] W W') (hd : DT W' (tp + 1) u' ts') : PPI w W' tp s o u' ts' :=
  ⟨h.t.same (ht.block _ h.t.lt (by simp)) (fun r e => by
    subst e
    exact ht.block _ h.t.rlt (by have := h.r r rfl; simp; omega)), hd, h.b.trans (ht.below (by simp) (Nat.le_of_lt h.t.lt)), h.r⟩
theorem un_idem {s : PS} (h : s.Ok) (id : Int) : hasL (s.un id).used id = false := by
  cases hh : hasL s.used id
  · rw [PS.un, hh]; exact hh
  · obtain ⟨k, rfl, hk, h1⟩ := hasL_spec hh
    rw [un_eq hh]
    show hasL (clearB s.used k) k = false
    simp [hasL, clearB_test h.hu hk]
theorem PPI.unpin {w W : World} {tp : Nat} {s : PS} {o : Option Nat} {u : Nat} {ts : List Nat} (h : PPI w W tp s o u ts) (id : Int) :
    Calls Try.prog 7 #[.pointer (some ⟨tp, 0, none⟩), .slice (some ⟨W.heap.size, 0, none⟩) 2 2] (W.alloc (.cells #[.int .i64 id, .int .i64 id] 3)) fun e w' => e = .returned (.int .i64 (if hasL s.used id then 1 else 0 : Nat)) ∧ PPI w w' tp (s.un id) o u ts := by
  have h' := h.below (below_alloc1 W (.cells #[.int .i64 id, .int .i64 id] 3))
  refine (unpin_any tp W.heap.size 2 [id, id] s o _ h'.t (heap_alloc_new _ _) rfl (by omega) (by have := h.t.lt; omega)).mono fun e w' ⟨he, h2, h3⟩ => ?_
  have e0 := un_idem h.t.2 id
  have e1 : unL s [id, id] = s.un id := by
    show (s.un id).un id = s.un id
    rw [PS.un, e0]; rfl
  have e2 : unN s [id, id] = if hasL s.used id then 1 else 0 := by
    show (if hasL s.used id then 1 else 0) + ((if hasL (s.un id).used id then 1 else 0) + 0) = _
    rw [e0]; simp
  rw [e2] at he
  rw [e1] at h3
  have hne : ∀ x ∈ tp :: o.toList, x ≠ tp + 1 ∧ tp ≤ x := fun x hx => by
    rcases List.mem_cons.1 hx with e | e
    · omega
    · cases o with
      | none => simp at e
      | some r => simp at e; subst e; have := h.r x rfl; omega
  exact ⟨he, h3, (h2.block _ (lt_heap h'.d) (fun hm => (hne _ hm).1 rfl)).trans h'.d, h'.b.trans (h2.below (fun x hx => (hne x hx).2) (Nat.le_of_lt h'.t.lt)), h.r⟩
theorem PPI.pin {w W : World} {tp : Nat} {s : PS} {o : Option Nat} {u : Nat} {ts : List Nat} (h : PPI w W tp s o u ts) (k t : Nat) (hk : k < 64) (h0 : s.used.testBit k = false) (hb : botOf (notW s.used) = k) :
    Calls Try.prog 8 #[.pointer (some ⟨tp, 0, none⟩), .int .u64 (t : Int)] W fun e w' => e = .returned (.tuple #[.int .i64 (k : Int), .int .i64 0]) ∧ ∃ r, PPI w w' tp (s.pin k t) (some r) u ts := by
  refine (pin_room tp o k t s W h.t hk h0 hb).mono fun e w' ⟨he, r, h1, h2, h3, h4⟩ => ⟨he, r, ?_⟩
  have hrl : tp + 1 < r := by
    cases o with
    | none => rw [h1 rfl]; exact lt_heap h.d
    | some r0 => rw [h2 r0 rfl]; exact h.r r0 rfl
  exact ⟨h4, (h3.block _ (lt_heap h.d) (by simp; omega)).trans h.d, h.b.trans (h3.below (fun x hx => by simp at hx; omega) (Nat.le_of_lt h.t.lt)), fun r' e => by cases e; exact hrl⟩
theorem PPI.full {w W : World} {tp : Nat} {s : PS} {o : Option Nat} {u : Nat} {ts : List Nat} (h : PPI w W tp s o u ts) (t : Nat) (hb : botOf (notW s.used) = -1) :
    Calls Try.prog 8 #[.pointer (some ⟨tp, 0, none⟩), .int .u64 (t : Int)] W fun e w' => e = .returned (.tuple #[.int .i64 0, .int .i64 6]) ∧ W = w' := pin_nix tp o t s W h.t hb
theorem refUnpin_any {s : PS} (h : s.Ok) (id : Int) (W : World) :
    Calls Try.prog 13 #[.agg (dC s.used s.times), .int .i64 id] W fun e w' => e = .returned (.tuple #[.agg (dC (s.un id).used (s.un id).times), .bool (hasL s.used id)]) ∧ Below W.heap.size W w' := by
  cases hh : hasL s.used id
  · have := refUnpin_no s.used id s.times W h.hl hh
    rw [PS.un, hh]; exact this
  · obtain ⟨k, rfl, hk, h1⟩ := hasL_spec hh
    rw [un_eq hh]
    exact refUnpin_yes s.used k s.times W h.hl h.hu hk h1
theorem pin_both {w : World} {tp : Nat} {s : PS} {o : Option Nat} (h : s.Ok) (t : Nat) : ∃ (x y : Int) (s' : PS), s'.times.length = 64 ∧ (∀ W, Calls Try.prog 14 #[.agg (dC s.used s.times), .int .u64 (t : Int)] W fun e w' => e = .returned (.tuple #[.agg (dC s'.used s'.times), .int .i64 x, .int .i64 y]) ∧ Below W.heap.size W w') ∧
    ∀ W u ts, PPI w W tp s o u ts → Calls Try.prog 8 #[.pointer (some ⟨tp, 0, none⟩), .int .u64 (t : Int)] W fun e w' => e = .returned (.tuple #[.int .i64 x, .int .i64 y]) ∧ ∃ o', PPI w w' tp s' o' u ts := by
  rcases room_or s.used h.hu with ⟨hb, hall⟩ | ⟨k, hk, h0, h1, hb⟩
  · exact ⟨0, 6, s, h.hl, fun W => refPin_full s.used t s.times W h.hl hall, fun W u ts hP => (hP.full t hb).mono fun e w' ⟨he, hw⟩ => ⟨he, o, hw ▸ hP⟩⟩
  · exact ⟨k, 0, s.pin k t, (PS.pin_ok h hk h0 t).hl, fun W => refPin_room s.used k t s.times W h.hl hk h0 h1, fun W u ts hP => (hP.pin k t hk h0 hb).mono fun e w' ⟨he, r, hr⟩ => ⟨he, some r, hr⟩⟩
/-- A store of a row into a block that is known; what it leaves is named anew. -/
theorem wl_strK {P : Program} {ops : Array Oper} {rest : List Oper} {o : Oper} {a : Act} {w : World} {Q : Exit → Act → World → Prop} (hgd : o.guard = none) (T : TypeId) (x y : Operand) (ho : o.op = .store T x y) (g : Nat) (cs old : Array Value) (T' : TypeId)
    (hi : (P.info? T).map (·.size) = some cs.size) (hs : cs.size = old.size) (h1 : cs.all (·.oneCell') = true) (hx : a.eval x = .pointer (some ⟨g, 0, none⟩)) (hy : a.eval y = .agg cs) (hg : w.heap[g]? = some (.cells old T' (0, 0)))
    (h : ∀ w', w'.heap[g]? = some (.cells cs T' (0, 0)) → Turn [g] w w' → wpList P ops Q rest (a.put o.dst undef) w') : wpList P ops Q (o :: rest) a w :=
  wpList_store_row hgd T x y ho g cs hx hy T' old hg hi hs.symm h1 (h _ (setRow_at hg) ⟨rfl, rfl, rfl, by simp, fun b _ hr => setRow_other _ _ _ _ (by simpa using hr)⟩)
/-- A new block holds the document's table. -/
theorem PPI.newRow {w W w5 : World} {tp : Nat} {s : PS} {o : Option Nat} {u : Nat} {ts : List Nat} (h : PPI w W tp s o u ts) {x : Obj} (ht : Turn [W.heap.size] (W.alloc x) w5) : PPI w w5 tp s o u ts ∧ Below W.heap.size W w5 := by
  have hb : Below W.heap.size W w5 := (below_alloc1 W x).trans (ht.below (by simp) (by simp))
  exact ⟨h.below hb, hb⟩
/-- An act in memory. -/
def ActAt (W : World) (b : Nat) (kd id : Int) (t : Nat) : Prop := W.heap[b]? = some (.cells #[.int .i64 kd, .int .i64 id, .int .u64 (t : Int)] 29)
theorem ActAt.c0 {W : World} {b t : Nat} {kd id : Int} (h : ActAt W b kd id t) : W.cell? ⟨b, 0, none⟩ = some (.int .i64 kd) := by rw [cell_of_tab h]; rfl
theorem ActAt.c1 {W : World} {b t : Nat} {kd id : Int} (h : ActAt W b kd id t) : W.cell? ⟨b, 1, none⟩ = some (.int .i64 id) := by rw [cell_of_tab h]; rfl
theorem ActAt.c2 {W : World} {b t : Nat} {kd id : Int} (h : ActAt W b kd id t) : W.cell? ⟨b, 2, none⟩ = some (.int .u64 (t : Int)) := by rw [cell_of_tab h]; rfl
theorem ActAt.below {W W' : World} {b t : Nat} {kd id : Int} (h : ActAt W b kd id t) (hb : Below W.heap.size W W') : ActAt W' b kd id t := (hb.block b (lt_heap h)).trans h
theorem ActAt.doc {W W' : World} {b t g : Nat} {kd id : Int} (h : ActAt W b kd id t) (ht : Turn [g] W W') (hg : b ≠ g) : ActAt W' b kd id t := (ht.block b (lt_heap h) (by simpa using hg)).trans h
end Go.Proofs.Ytmdhlpnieimdaaa
