/- The document's Read: where it stands, what it computes. -/
import Derived.Test.YtbfefdedjcppaaaGreatDoorRG
import Derived.Deep.CutBlock
namespace Go.Proofs.YtbfefdedjcppaaaGreatDoor
open Go.RowKit Go.Deep

def rdZ : List Value := List.replicate 10 (.int .i64 0) ++ List.replicate 22 (.int .u8 0) ++ [.string ⟨#[]⟩] ++ List.replicate 3 (.int .i64 0) ++ List.replicate 22 (.int .u8 0) ++ [.int .i64 0]
theorem sizRdq : (Tryz.prog.info? 46).map (·.size) = some 59 := by kernel_rfl
def dOrd (x : DS) : DS := ⟨(dOrder x.l x.e).l, (dOrder x.l x.e).e, RowIn x.cs 3 (dOrder x.l x.e).cs⟩
/-- k bytes read one by one. -/
def bytB (l : List UInt8) (e : Nat) : Nat → List UInt8 × Nat × List UInt8
  | 0 => (l, e, [])
  | k + 1 => ((bytB l e k).1.drop (kN (bytB l e k).2.1 (bytB l e k).1), numIE 0 255 0 (bytB l e k).2.1 (bytB l e k).1, (bytB l e k).2.2 ++ [UInt8.ofNat (vN (bytB l e k).2.1 (bytB l e k).1)])
theorem bytB_len (l : List UInt8) (e : Nat) : ∀ k, (bytB l e k).2.2.length = k
  | 0 => rfl
  | k + 1 => by show ((bytB l e k).2.2 ++ [_]).length = k + 1; rw [List.length_append, bytB_len l e k]; rfl
def allB (a : List UInt8) : List UInt8 := a ++ List.replicate (25 - a.length) 0
def preN (d : Nat) (x : DS) : Nat := if x.e = 0 then sizeD d else 0
def dPre (d : Nat) (x : DS) : DS := ⟨(bytB x.l x.e (preN d x)).1, (bytB x.l x.e (preN d x)).2.1, RowIn x.cs 33 (rkR (allB (bytB x.l x.e (preN d x)).2.2))⟩
def dRead (l : List UInt8) : DS :=
  let v := vN 0 l
  let y0 := dNum 0 1 10 16 ⟨l, 0, rdZ⟩
  if v = 1 then dOrd y0 else if v = 5 then (let y1 := dNum 58 0 5 5 y0; dPre (vN y0.e y0.l) y1) else if v = 6 then dNum 2 0 63 5 y0 else if v = 8 ∨ v = 9 then dNum 1 0 1 5 y0 else if v = 10 then dOrd (dNum 1 0 1 5 y0) else y0
def dE (l : List UInt8) : Nat := if (dRead l).e = 0 ∧ (dRead l).l ≠ [] then 3 else (dRead l).e
def dC (l : List UInt8) : List Value := if dE l = 0 then (dRead l).cs else rdZ
theorem dNum_len {off lo hi ee : Nat} {x : DS} (h : off + 1 ≤ x.cs.length) : (dNum off lo hi ee x).cs.length = x.cs.length := rowIn_len (by simpa using h)
theorem headD_len (x : DS) (h : x.cs.length = 30) : (headD x).cs.length = 30 := by
  have h1 : (dNum 0 1 16 16 x).cs.length = 30 := by rw [dNum_len (by omega), h]
  have h2 : (dNum 1 0 15 5 (dNum 0 1 16 16 x)).cs.length = 30 := by rw [dNum_len (by omega), h1]
  unfold headD
  rw [dNum_len (by omega), h2]
theorem foldD_len (u : List UInt8) : ∀ {x : DS}, x.cs.length = 30 → (u.foldl stepD x).cs.length = 30 := by
  induction u with
  | nil => intro x h; exact h
  | cons c u ih => intro x h; exact ih (stepD_len c h)
theorem dOrder_len (l : List UInt8) (e : Nat) : (dOrder l e).cs.length = 30 := foldD_len _ (headD_len _ (opC_len _))
theorem dOrder_one (l : List UInt8) (e : Nat) : (dOrder l e).cs.all (·.oneCell') = true := by
  refine foldD_one _ ?_
  show ((dNum 2 0 3 5 (dNum 1 0 15 5 (dNum 0 1 16 16 ⟨l, e, opC zeroO⟩))).cs.all (·.oneCell')) = true
  unfold dNum
  exact rowIn_all (rowIn_all (rowIn_all (opC_one _) rfl) rfl) rfl
/-- Where Read stands. -/
structure DrSt (w W : World) (v : Nat) (q : Option Addr) (n c : Nat) (y : DS) : Prop where
  bel : Below w.heap.size w W
  r : W.heap[w.heap.size]? = some (.cells rdZ.toArray 46 (0, 0))
  x : W.heap[w.heap.size + 1]? = some (.cells #[.slice q n c, .int .i64 (y.e : Int)] 103 (0, 0))
  o : W.heap[w.heap.size + 1 + 1]? = some (.cells y.cs.toArray 46 (0, 0))
  ok : RdOk w q n c y.l
  len : y.cs.length = 59
  vb : y.cs[0]? = some (.int .i64 (v : Int))
  one : y.cs.all (·.oneCell') = true
theorem DrSt.verb {w W : World} {v : Nat} {q : Option Addr} {n c : Nat} {y : DS} (h : DrSt w W v q n c y) : W.cell? ⟨w.heap.size + 1 + 1, 0, none⟩ = some (.int .i64 (v : Int)) := by
  rw [cell_blk h.o, List.getElem?_toArray]; exact h.vb
theorem DrSt.below {w W W' : World} {v : Nat} {q : Option Addr} {n c : Nat} {y : DS} (h : DrSt w W v q n c y) (hb : Below W.heap.size W W') : DrSt w W' v q n c y :=
  ⟨h.bel.trans (hb.mono h.bel.size), (hb.block _ (lt_heap h.r)).trans h.r, (hb.block _ (lt_heap h.x)).trans h.x, (hb.block _ (lt_heap h.o)).trans h.o, h.ok, h.len, h.vb, h.one⟩
theorem DrSt.setX {w W W' : World} {v : Nat} {q q' : Option Addr} {n c n' c' : Nat} {y : DS} {e' : Nat} {l' : List UInt8} (h : DrSt w W v q n c y) (hx : W'.heap[w.heap.size + 1]? = some (.cells #[.slice q' n' c', .int .i64 (e' : Int)] 103 (0, 0))) (ht : Turn [w.heap.size + 1] W W') (ok : RdOk w q' n' c' l') : DrSt w W' v q' n' c' ⟨l', e', y.cs⟩ := by
  have hk : ∀ k, k < W.heap.size → k ≠ w.heap.size + 1 → W'.heap[k]? = W.heap[k]? := fun k a b => ht.block k a (by simpa using b)
  exact ⟨h.bel.trans (ht.below (fun k hk => by simp at hk; omega) h.bel.size), (hk _ (lt_heap h.r) (by omega)).trans h.r, hx, (hk _ (lt_heap h.o) (by omega)).trans h.o, ok, h.len, h.vb, h.one⟩
theorem DrSt.setO {w W W' : World} {v v' : Nat} {q : Option Addr} {n c : Nat} {y : DS} {cs' : List Value} (h : DrSt w W v q n c y) (ho : W'.heap[w.heap.size + 1 + 1]? = some (.cells cs'.toArray 46 (0, 0))) (ht : Turn [w.heap.size + 1 + 1] W W') (hl : cs'.length = 59) (hv : cs'[0]? = some (.int .i64 (v' : Int))) (h1 : cs'.all (·.oneCell') = true) : DrSt w W' v' q n c ⟨y.l, y.e, cs'⟩ := by
  have hk : ∀ k, k < W.heap.size → k ≠ w.heap.size + 1 + 1 → W'.heap[k]? = W.heap[k]? := fun k a b => ht.block k a (by simpa using b)
  exact ⟨h.bel.trans (ht.below (fun k hk => by simp at hk; omega) h.bel.size), (hk _ (lt_heap h.r) (by omega)).trans h.r, (hk _ (lt_heap h.x) (by omega)).trans h.x, ho, h.ok, hl, hv, h1⟩
theorem DrSt.start (w : World) (q : Option Addr) (n c : Nat) (l : List UInt8) (ok : RdOk w q n c l) : DrSt w (((w.alloc (.cells rdZ.toArray 46)).alloc (.cells #[.slice q n c, .int .i64 0] 103)).alloc (.cells rdZ.toArray 46)) 0 q n c ⟨l, 0, rdZ⟩ := by
  refine ⟨(below_alloc2 _ _ _).alloc (by simp <;> omega) _, ?_, ?_, ?_, ok, rfl, rfl, rfl⟩
  · rw [heap_alloc_old _ _ (by simp <;> omega)]; exact heap_alloc2_old _ _ _
  · rw [heap_alloc_old _ _ (by simp <;> omega)]; exact heap_alloc2_new _ _ _
  · have := heap_alloc_new ((w.alloc (.cells rdZ.toArray 46)).alloc (.cells #[.slice q n c, .int .i64 0] 103)) (.cells rdZ.toArray 46); simpa using this
theorem sizes_any (w : World) : Calls Tryz.prog 34 #[] w fun e w' => e = .returned (.slice (some ⟨w.heap.size, 0, none⟩) 6 6) ∧ w' = w.alloc (.cells #[.int .i64 0, .int .i64 1, .int .i64 2, .int .i64 3, .int .i64 15, .int .i64 25] 3) := by
  go_enter Tryz.func34, Tryz.ntmps34
  go_wp2_with fail
  go_ret
  exact ⟨rfl, rfl⟩
end Go.Proofs.YtbfefdedjcppaaaGreatDoor
