/- Texts joined: RF. -/
import Derived.Test.YtbfefdedjcppaaaGreatDoorEL6
import Derived.Deep.DeepCutAuto
/- The document's Reader: fail, Read (a byte; a text). -/
namespace Go.Proofs.YtbfefdedjcppaaaGreatDoor
open Go.RowKit
theorem sizFld : (Tryz.prog.info? 134).map (·.size) = some 3 := by kernel_rfl
structure RdOk (W : World) (q : Option Addr) (n c : Nat) (l : List UInt8) : Prop where
 ln : l.length = n
 nc : n ≤ c
 cm : c ≤ maxLen
 sl : SlAt byteC 1 W q l
 nil : q = none → n = 0 ∧ c = 0
theorem RdOk.below {W W' : World} {q : Option Addr} {n c : Nat} {l : List UInt8} (h : RdOk W q n c l) (hb : Below W.heap.size W W') : RdOk W' q n c l := ⟨h.ln, h.nc, h.cm, h.sl.below hb, h.nil⟩
def tq (q : Option Addr) (c k : Nat) : Option Addr := if k = 0 ∨ c = k then q else q.map fun a => a.add k
theorem tq_zero (q : Option Addr) (c : Nat) : tq q c 0 = q := if_pos (.inl rfl)
theorem tq_mid (b o c k : Nat) (h0 : k ≠ 0) (h : ¬ c = k) : tq (some ⟨b, o, none⟩) c k = some ⟨b, o + k, none⟩ := by
 unfold tq
 rw [if_neg (by omega)]
 show some (Addr.add _ _) = _
 rw [Addr.add_mid]
structure RfSt (w W : World) (a f : Array Value) : Prop where
 bel : Below w.heap.size w W
 rd : W.heap[w.heap.size]? = some (.cells a 101 (0, 0))
 fl : W.heap[w.heap.size + 1]? = some (.cells f 134 (0, 0))
 res : W.heap[w.heap.size + 1 + 1]? = some (.cells #[.slice none 0 0, .int .i64 0] 101 (0, 0))
theorem RfSt.below {w W W' : World} {a f : Array Value} (h : RfSt w W a f) (hb : Below W.heap.size W W') : RfSt w W' a f :=
 ⟨h.bel.trans (hb.mono h.bel.size), (hb.block _ (lt_heap h.rd)).trans h.rd, (hb.block _ (lt_heap h.fl)).trans h.fl, (hb.block _ (lt_heap h.res)).trans h.res⟩
theorem RfSt.set {w W : World} {a f a' : Array Value} (h : RfSt w W a f) : RfSt w (W.setRow w.heap.size a') a' f :=
 ⟨setRow_below h.bel (Nat.le_refl _) _, setRow_at h.rd, (setRow_other _ _ _ _ (by omega)).trans h.fl, (setRow_other _ _ _ _ (by omega)).trans h.res⟩
theorem RfSt.start (w : World) (a f : Array Value) : RfSt w ((((w.alloc (.cells a 101)).alloc (.cells f 134)).alloc (.cells #[.slice none 0 0, .int .i64 0] 101)).alloc (.cells #[.int .i64 1, .int .i64 2, .int .i64 8] 3)) a f := by
 have h3 : RfSt w (((w.alloc (.cells a 101)).alloc (.cells f 134)).alloc (.cells #[.slice none 0 0, .int .i64 0] 101)) a f := by
   refine ⟨(below_alloc2 _ _ _).alloc (by simp; omega) _, ?_, ?_, ?_⟩
   · rw [heap_alloc_old _ _ (by simp; omega)]; exact heap_alloc2_old _ _ _
   · rw [heap_alloc_old _ _ (by simp)]; exact heap_alloc2_new _ _ _
   · have := heap_alloc_new ((w.alloc (.cells a 101)).alloc (.cells f 134)) (.cells #[.slice none 0 0, .int .i64 0] 101); simpa using this
 exact h3.below (below_alloc1 _ _)
theorem RdOk.tail {W : World} {q : Option Addr} {n c k : Nat} {l : List UInt8} (h : RdOk W q n c l) (hk : k ≤ n) : RdOk W (tq q c k) (n - k) (c - k) (l.drop k) := by
 have hnc := h.nc
 refine ⟨by rw [List.length_drop, h.ln], by omega, by have := h.cm; omega, fun i hi => ?_, fun e => ?_⟩
 · rw [List.length_drop, h.ln] at hi
   obtain ⟨b, o, rfl, hb, hr⟩ := h.sl (k + i) (by rw [h.ln]; omega)
   rw [List.getElem_drop]
   by_cases hk0 : k = 0
   · subst hk0
     rw [tq_zero]
     exact ⟨b, o, rfl, hb, by simpa using hr⟩
   · rw [tq_mid b o c k hk0 (by omega)]
     exact ⟨b, o + k, rfl, hb, by rw [show o + k + i * 1 = o + (k + i) * 1 by omega]; exact hr⟩
 · cases hq : q with
   | none => have := h.nil hq; omega
   | some a =>
     unfold tq at e
     rw [hq] at e
     split at e
     · cases e
     · cases e
end Go.Proofs.YtbfefdedjcppaaaGreatDoor

/- The document's Reader: a text read. -/
namespace Go.Proofs.YtbfefdedjcppaaaGreatDoor
open Go.RowKit
end Go.Proofs.YtbfefdedjcppaaaGreatDoor

/- The document's in: one, number. -/
namespace Go.Proofs.YtbfefdedjcppaaaGreatDoor
open Go.RowKit Go.Deep
end Go.Proofs.YtbfefdedjcppaaaGreatDoor

/- The document's in: text, end. -/
namespace Go.Proofs.YtbfefdedjcppaaaGreatDoor
open Go.RowKit Go.Deep
end Go.Proofs.YtbfefdedjcppaaaGreatDoor
