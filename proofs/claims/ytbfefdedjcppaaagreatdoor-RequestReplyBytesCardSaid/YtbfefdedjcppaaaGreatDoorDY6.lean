/- The document's Parse: what it reads (plain), and where it stands. -/
import Derived.Test.YtbfefdedjcppaaaGreatDoorDX6
import Derived.Test.YtbfefdedjcppaaaGreatDoorDH6
import Derived.Test.YtbfefdedjcppaaaGreatDoorRG
import Derived.Test.YtbfefdedjcppaaaGreatDoorPA6
namespace Go.Proofs.YtbfefdedjcppaaaGreatDoor
open Go.RowKit Go.Deep
def zeros25 : List UInt8 := List.replicate 25 0
def evD (x : Ev) : List Value := .int .u64 x.at_ :: (rkR x.key ++ [.bool x.dead, .bool x.mark])
theorem evD_len (x : Ev) : (evD x).length = 28 := by simp [evD, rkR_len _ x.lkey]
theorem evD_one (x : Ev) : ∀ u ∈ evD x, u.oneCell' = true := fun u hu => by
 have h1 := rkR_one x.key
 simp only [evD, List.mem_cons, List.mem_append, List.not_mem_nil, or_false] at hu
 rcases hu with rfl | hu | rfl | rfl
 · rfl
 · exact List.all_eq_true.1 h1 u hu
 · rfl
 · rfl
structure DaSt (w W : World) (x : RpD) (l : List UInt8) (e : Nat) (u : Value) : Prop where
 bel : Below w.heap.size w W
 res : W.heap[w.heap.size]? = some (.cells (ryC zeroR (.slice none 0 0)).toArray 72 (0, 0))
 in_ : ∃ (q : Option Addr) (n c : Nat), W.heap[w.heap.size + 1]? = some (.cells #[.slice q n c, .int .i64 (e : Int)] 103 (0, 0)) ∧ RdOk w q n c l
 r_ : W.heap[w.heap.size + 2]? = some (.cells (ryC x u).toArray 72 (0, 0))
theorem DaSt.below {w W W' : World} {x : RpD} {l : List UInt8} {e : Nat} {u : Value} (h : DaSt w W x l e u) (hb : Below W.heap.size W W') : DaSt w W' x l e u := by
 obtain ⟨q, n, c, h1, h2⟩ := h.in_
 exact ⟨h.bel.trans (hb.mono h.bel.size), (hb.block _ (lt_heap h.res)).trans h.res, ⟨q, n, c, (hb.block _ (lt_heap h1)).trans h1, h2⟩, (hb.block _ (lt_heap h.r_)).trans h.r_⟩
theorem DaSt.high {w W W' : World} {x : RpD} {l : List UInt8} {e : Nat} {u : Value} (h : DaSt w W x l e u) (hb : Below (w.heap.size + 3) W W') : DaSt w W' x l e u := by
 obtain ⟨q, n, c, h1, h2⟩ := h.in_
 exact ⟨h.bel.trans (hb.mono (by omega)), (hb.block _ (by omega)).trans h.res, ⟨q, n, c, (hb.block _ (by omega)).trans h1, h2⟩, (hb.block _ (by omega)).trans h.r_⟩
def evZd : Ev := ⟨0, zeros25, false, false, rfl⟩
theorem infoEvD : (Tryz.prog.info? 79).map (fun i => (i.zero, i.size, i.bytes)) = some (some (.agg (evD evZd).toArray), 28, 64) := by kernel_rfl
theorem evZd_sz : (Value.agg (evD evZd).toArray).cells.size = 28 := by show (evD evZd).toArray.size = 28; simp [evD_len]
theorem sizEvD : (Tryz.prog.info? 79).map (·.size) = some 28 := by kernel_rfl
theorem sizEvDs : (Tryz.prog.info? 70).map (·.size) = some 1 := by kernel_rfl
structure DbSt (w W : World) (d : RpD) (l : List UInt8) (e : Nat) (u : Value) (evs : List Ev) (g : Nat) (v : Ev) : Prop where
 s : DaSt w W d l e u
 o : OwnE evD 79 28 W (w.heap.size + 3) u evs
 ev : W.heap[g]? = some (.cells (evD v).toArray 79 (0, 0))
 hg : w.heap.size + 3 ≤ g
 ne : ∀ b, u.ownBlock = some b → b ≠ g
theorem DbSt.below {w W W' : World} {d : RpD} {l : List UInt8} {e : Nat} {u : Value} {evs : List Ev} {g : Nat} {v : Ev} (h : DbSt w W d l e u evs g v) (hb : Below W.heap.size W W') : DbSt w W' d l e u evs g v :=
 ⟨h.s.below hb, h.o.below hb, (hb.block _ (lt_heap h.ev)).trans h.ev, h.hg, h.ne⟩
theorem DbSt.start {w W : World} {d : RpD} {l : List UInt8} {e : Nat} {u : Value} {evs : List Ev} (h : DaSt w W d l e u) (ho : OwnE evD 79 28 W (w.heap.size + 3) u evs) : DbSt w (W.alloc (.cells (evD evZd).toArray 79)) d l e u evs W.heap.size evZd :=
 ⟨h.below (below_alloc1 _ _), ho.below (below_alloc1 _ _), heap_alloc_new _ _, by have := lt_heap h.r_; omega, fun b e => by have := (ho.lt b e).2; omega⟩
structure DcSt (w W : World) (d : RpD) (l : List UInt8) (e : Nat) (u : Value) (evs : List Ev) (g : Nat) (v : Ev) (g2 : Nat) (bs : List UInt8) : Prop where
 b : DbSt w W d l e u evs g v
 a : W.heap[g2]? = some (.cells (bC bs) 108 (0, 0))
 hg : g < g2
 ne : ∀ b, u.ownBlock = some b → b ≠ g2
theorem DcSt.below {w W W' : World} {d : RpD} {l : List UInt8} {e : Nat} {u : Value} {evs : List Ev} {g g2 : Nat} {v : Ev} {bs : List UInt8} (h : DcSt w W d l e u evs g v g2 bs) (hb : Below W.heap.size W W') : DcSt w W' d l e u evs g v g2 bs :=
 ⟨h.b.below hb, (hb.block _ (lt_heap h.a)).trans h.a, h.hg, h.ne⟩
theorem DcSt.start {w W : World} {d : RpD} {l : List UInt8} {e : Nat} {u : Value} {evs : List Ev} {g : Nat} {v : Ev} (h : DbSt w W d l e u evs g v) : DcSt w (W.alloc (.cells (bC zeros25) 108)) d l e u evs g v W.heap.size zeros25 :=
 ⟨h.below (below_alloc1 _ _), heap_alloc_new _ _, lt_heap h.ev, fun b e => by have := (h.o.lt b e).2; omega⟩
theorem evD_keyR {w : World} {b : Nat} {v : Ev} (h : w.rangeAt b 0 (evD v)) : w.rangeAt b 1 (rkR v.key) := by
 have e : evD v = [.int .u64 v.at_] ++ (rkR v.key ++ [.bool v.dead, .bool v.mark]) := rfl
 rw [e] at h
 have := range_app_left (range_app_right h 1 rfl)
 rwa [Nat.zero_add] at this
end Go.Proofs.YtbfefdedjcppaaaGreatDoor
