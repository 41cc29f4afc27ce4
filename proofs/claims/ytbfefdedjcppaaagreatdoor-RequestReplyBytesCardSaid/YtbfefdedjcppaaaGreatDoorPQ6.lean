/- request.right; where Print stands while it writes a reply's head. -/
import Derived.Test.YtbfefdedjcppaaaGreatDoorWN6
import Derived.Test.YtbfefdedjcppaaaGreatDoorPA6
import Derived.Test.YtbfefdedjcppaaaGreatDoorRE
import Derived.Test.YtbfefdedjcppaaaGreatDoorGV
namespace Go.Proofs.YtbfefdedjcppaaaGreatDoor
set_option maxRecDepth 100000
set_option maxHeartbeats 4000000
open Go.RowKit Go.Deep
def evOk (v : Ev) : Bool := if v.mark = true then !v.dead && (v.key == z25) else rightK v.key
theorem ev_key {w : World} {b : Nat} {v : Ev} (h : w.rangeAt b 0 (evC v)) : w.rangeAt b 1 (bC v.key).toList := by
 have e : evC v = [.int .u64 v.at_] ++ ((bC v.key).toList ++ [.bool v.dead, .bool v.mark]) := rfl
 rw [e] at h
 have := range_app_left (range_app_right h 1 rfl)
 rwa [Nat.zero_add] at this
theorem evC_deadC (v : Ev) : (evC v)[26]? = some (.bool v.dead) := by
 have h2 : (bC v.key).toList.length = 25 := by simp [bC, v.lkey]
 unfold evC
 rw [List.getElem?_cons_succ, List.getElem?_append_right (by rw [h2]; decide), h2]
 rfl
theorem bldK0z : Tryz.prog.built 32 [] = some (bC z25) := by kernel_rfl
theorem right26_any (v : Ev) (w : World) (hmx : MX w) : Calls Tryz.prog 61 #[.agg (evC v).toArray] w fun e w' => e = .returned (.bool (evOk v)) ∧ Below w.heap.size w w' := by
 have HG := Lib.hid (heap_alloc_new w (.cells (evC v).toArray 62))
 have HB := Lib.hid (below_alloc1 w (.cells (evC v).toArray 62))
 have KR : Hid (∀ W, Below w.heap.size w W → Calls Tryz.prog 112 #[.agg (bC v.key)] W fun e w' => e = .returned (.bool (rightK v.key)) ∧ Below W.heap.size W w') := fun W hW => keyRight_any v.key W v.lkey (hmx.below hW)
 have HEq : Hid (∀ W, (binOp .eql 32 (.agg (bC v.key)) (.agg (bC z25))).run Tryz.prog W = .ok (.bool (v.key == z25)) W) := fun W => eqlKk W _ _ v.lkey rfl
 have HO : Hid (evOk v = if v.mark = true then !v.dead && (v.key == z25) else rightK v.key) := rfl
 have HL := Lib.hid v.lkey
 clear hmx
 have hcm : (w.alloc (.cells (evC v).toArray 62)).cell? ⟨w.heap.size, 27, none⟩ = some (.bool v.mark) := by rw [cell_blk HG.out, List.getElem?_toArray]; exact evC_markC v
 have hcd : (w.alloc (.cells (evC v).toArray 62)).cell? ⟨w.heap.size, 26, none⟩ = some (.bool v.dead) := by rw [cell_blk HG.out, List.getElem?_toArray]; exact evC_deadC v
 have HRk := Lib.hid (ev_key (range_whole HG.out))
 go_enter Tryz.func61, Tryz.ntmps61
 go_upto_region 1 with fail
 generalize w.alloc (.cells (evC v).toArray 62) = W1 at *
 generalize rightK v.key = rk at *
 obtain ⟨zk, hzk⟩ : ∃ b : Bool, (v.key == z25) = b := ⟨_, rfl⟩
 rw [hzk] at HEq HO
 clear hzk
 obtain ⟨mk, hmk⟩ : ∃ b : Bool, v.mark = b := ⟨_, rfl⟩
 obtain ⟨dd, hdd⟩ : ∃ b : Bool, v.dead = b := ⟨_, rfl⟩
 rw [hmk] at hcm HO
 rw [hdd] at hcd HO
 clear hmk hdd
 cases mk
 · go_wp2_with (first
     | ((with_reducible refine gate_ld 32 _ rfl ?_); refine wl_ldr rfl 32 _ rfl w.heap.size 1 (bC v.key).toList _ Tryz.underlying32 rfl (by rw [sizKey]; simp [bC, HL.out]) rfl HRk.out ?_)
     | (go_at_call 112; (refine (KR.out _ HB.out).mono ?_); rintro e W2 ⟨rfl, hb2⟩; have HB2 := Lib.hid (HB.out.trans (hb2.mono HB.out.size)); clear hb2))
   go_ret
   exact ⟨by rw [HO.out]; rfl, HB2.out⟩
 · cases dd
   · go_wp2_with (first
       | ((with_reducible refine gate_ld 32 _ rfl ?_); refine wl_ldr rfl 32 _ rfl w.heap.size 1 (bC v.key).toList _ Tryz.underlying32 rfl (by rw [sizKey]; simp [bC, HL.out]) rfl HRk.out ?_)
       | ((with_reducible refine gate_bd 32 _ rfl ?_); refine wl_bd rfl _ [] rfl [] rfl (bC z25) bldK0z ?_)
       | ((with_reducible refine gate_op (.binOp .eql 32 (.tmp 10) (.tmp 11) 32) rfl ?_); refine wl_val rfl (.bool zk) (exec_eqlG _ 32 (.tmp 10) (.tmp 11) rfl (bC v.key) (bC z25) _ rfl rfl (run_eqGuard_agg _ .eql 32 _ _ _ _ (by kernel_rfl)) (HEq.out _)) ?_))
     go_ret
     exact ⟨by rw [HO.out]; cases zk <;> rfl, HB.out⟩
   · go_wp2_with fail
     go_ret
     exact ⟨by rw [HO.out]; cases zk <;> rfl, HB.out⟩
def yStep (x : RpD) (m : Nat) (s : List UInt8 × Nat) : Nat → List UInt8 × Nat
 | 0 => wBytes 4096 s [lowB x.err]
 | 1 => wStep 4096 s (small x.text.size ++ x.text.data.toList)
 | 2 => wStep 4096 s (small (textB x.tag).length ++ textB x.tag)
 | 3 => wBytes 4096 s [lowB x.st]
 | 4 => wStep 4096 s (small x.n.toNat)
 | 5 => wBytes 4096 s [lowB m]
 | _ => s
def yS (x : RpD) (m : Nat) : Nat → List UInt8 × Nat
 | 0 => ([], 0)
 | k + 1 => yStep x m (yS x m k) k
theorem yS_le (x : RpD) (m : Nat) : ∀ k, (yS x m k).1.length ≤ 4096
 | 0 => Nat.zero_le _
 | k + 1 => by
   have ih := yS_le x m k
   show (yStep x m (yS x m k) k).1.length ≤ 4096
   match k with
   | 0 => exact wBytes_le _ ih
   | 1 => exact wStep_le ih
   | 2 => exact wStep_le ih
   | 3 => exact wBytes_le _ ih
   | 4 => exact wStep_le ih
   | 5 => exact wBytes_le _ ih
   | k + 6 => exact ih
def prgr (L : Nat → Bool) : Nat := if L 5 = false then 0 else if L 8 = false then 1 else if L 12 = false then 2 else if L 17 = false then 3 else if L 21 = false then 4 else if L 27 = false then 5 else 6
structure PrA (w W : World) (x : RpD) (u : Value) : Prop where
 bel : Below w.heap.size w W
 a : W.heap[w.heap.size]? = some (.cells (ryC x u).toArray 59 (0, 0))
 b : W.heap[w.heap.size + 1]? = some (.cells (rpC x).toArray 56 (0, 0))
 mx : MX W
structure PrW (W : World) (n1 bw : Nat) (vw : Value) (y : List UInt8 × Nat) : Prop where
 wr : WrAt W bw vw y.1 y.2 4096
 le : y.1.length ≤ 4096
 lo : n1 < bw
structure PrP (W : World) (n1 p : Nat) (b : UInt8) (bw : Nat) (vw : Value) (l0 : Bool) : Prop where
 at_ : W.heap[p]? = some (.cells (bC [b]) 5 (0, 0))
 lo : n1 < p
 ne : l0 = true → p ≠ bw ∧ vw.ownBlock ≠ some p
structure PrG where
 bw : Nat
 vw : Value
 p1 : Nat
 p2 : Nat
 p3 : Nat
structure PrC (w : World) (x : RpD) (u : Value) (m : Nat) (L : Nat → Bool) (g : PrG) (W : World) : Prop where
 A : PrA w W x u
 W_ : L 0 = true → PrW W (w.heap.size + 1) g.bw g.vw (yS x m (prgr L))
 P1 : L 4 = true → PrP W (w.heap.size + 1) g.p1 (lowB x.err) g.bw g.vw (L 0)
 P2 : L 16 = true → PrP W (w.heap.size + 1) g.p2 (lowB x.st) g.bw g.vw (L 0)
 P3 : L 26 = true → PrP W (w.heap.size + 1) g.p3 (lowB m) g.bw g.vw (L 0)
theorem PrA.below {w W W' : World} {x : RpD} {u : Value} (h : PrA w W x u) (hb : Below W.heap.size W W') : PrA w W' x u :=
 ⟨h.bel.trans (hb.mono h.bel.size), (hb.block _ (lt_heap h.a)).trans h.a, (hb.block _ (lt_heap h.b)).trans h.b, h.mx.below hb⟩
theorem PrW.below {W W' : World} {n1 bw : Nat} {vw : Value} {y : List UInt8 × Nat} (h : PrW W n1 bw vw y) (hb : Below W.heap.size W W') : PrW W' n1 bw vw y := ⟨h.wr.below hb, h.le, h.lo⟩
theorem PrP.below {W W' : World} {n1 p bw : Nat} {b : UInt8} {vw : Value} {l0 : Bool} (h : PrP W n1 p b bw vw l0) (hb : Below W.heap.size W W') : PrP W' n1 p b bw vw l0 := ⟨(hb.block _ (lt_heap h.at_)).trans h.at_, h.lo, h.ne⟩
theorem PrC.quiet {w W W' : World} {x : RpD} {u : Value} {m : Nat} {L : Nat → Bool} {g : PrG} (h : PrC w x u m L g W) (i : Nat) (hi : i ∉ [0, 4, 5, 8, 12, 16, 17, 21, 26, 27]) (hb : Below W.heap.size W W') : PrC w x u m (ranI L i) g W' := by
 simp only [List.mem_cons, List.not_mem_nil, or_false, not_or] at hi
 have hp : prgr (ranI L i) = prgr L := by
   unfold prgr
   rw [ranI_ne L (by omega : 5 ≠ i), ranI_ne L (by omega : 8 ≠ i), ranI_ne L (by omega : 12 ≠ i), ranI_ne L (by omega : 17 ≠ i), ranI_ne L (by omega : 21 ≠ i), ranI_ne L (by omega : 27 ≠ i)]
 refine ⟨h.A.below hb, ?_, ?_, ?_, ?_⟩
 · rw [hp, ranI_ne L (by omega : 0 ≠ i)]; exact fun e => (h.W_ e).below hb
 · rw [ranI_ne L (by omega : 4 ≠ i), ranI_ne L (by omega : 0 ≠ i)]; exact fun e => (h.P1 e).below hb
 · rw [ranI_ne L (by omega : 16 ≠ i), ranI_ne L (by omega : 0 ≠ i)]; exact fun e => (h.P2 e).below hb
 · rw [ranI_ne L (by omega : 26 ≠ i), ranI_ne L (by omega : 0 ≠ i)]; exact fun e => (h.P3 e).below hb
theorem PrC.made {w W W' : World} {x : RpD} {u : Value} {m : Nat} {L : Nat → Bool} {g : PrG} (h : PrC w x u m L g W) (h5 : L 5 = false) (hw : WrAt W' W.heap.size (.slice none 0 0) [] 0 4096) (hb : Below W.heap.size W W') : PrC w x u m (ranI L 0) { g with bw := W.heap.size, vw := .slice none 0 0 } W' := by
 have hl := lt_heap h.A.b
 refine ⟨h.A.below hb, fun _ => ⟨?_, ?_, hl⟩, ?_, ?_, ?_⟩
 · have hp : prgr (ranI L 0) = 0 := by unfold prgr; rw [ranI_ne L (by decide : (5 : Nat) ≠ 0), if_pos h5]
   rw [hp]; exact hw
 · exact yS_le _ _ _
 · rw [ranI_ne L (by decide : (4 : Nat) ≠ 0)]
   exact fun e => ⟨((h.P1 e).below hb).at_, (h.P1 e).lo, fun _ => ⟨by have := lt_heap (h.P1 e).at_; show g.p1 ≠ W.heap.size; omega, fun e => by cases e⟩⟩
 · rw [ranI_ne L (by decide : (16 : Nat) ≠ 0)]
   exact fun e => ⟨((h.P2 e).below hb).at_, (h.P2 e).lo, fun _ => ⟨by have := lt_heap (h.P2 e).at_; show g.p2 ≠ W.heap.size; omega, fun e => by cases e⟩⟩
 · rw [ranI_ne L (by decide : (26 : Nat) ≠ 0)]
   exact fun e => ⟨((h.P3 e).below hb).at_, (h.P3 e).lo, fun _ => ⟨by have := lt_heap (h.P3 e).at_; show g.p3 ≠ W.heap.size; omega, fun e => by cases e⟩⟩
theorem prP_new {w W : World} {x : RpD} {u : Value} {m : Nat} {L : Nat → Bool} {g : PrG} (h : PrC w x u m L g W) (b : UInt8) : PrP (W.alloc (.cells (bC [b]) 5)) (w.heap.size + 1) W.heap.size b g.bw g.vw (L 0) :=
 ⟨heap_alloc_new _ _, lt_heap h.A.b, fun h0 => ⟨by have := lt_heap (h.W_ h0).wr.at_; omega, fun e => by have := ((h.W_ h0).wr.own.lt _ e).2; omega⟩⟩
theorem PrC.row {w W : World} {x : RpD} {u : Value} {m : Nat} {L : Nat → Bool} {g : PrG} (h : PrC w x u m L g W) :
   PrC w x u m (ranI L 4) { g with p1 := W.heap.size } (W.alloc (.cells (bC [lowB x.err]) 5)) ∧ PrC w x u m (ranI L 16) { g with p2 := W.heap.size } (W.alloc (.cells (bC [lowB x.st]) 5)) ∧ PrC w x u m (ranI L 26) { g with p3 := W.heap.size } (W.alloc (.cells (bC [lowB m]) 5)) := by
 have hp4 : prgr (ranI L 4) = prgr L := by simp [prgr, ranI]
 have hp16 : prgr (ranI L 16) = prgr L := by simp [prgr, ranI]
 have hp26 : prgr (ranI L 26) = prgr L := by simp [prgr, ranI]
 have hb := fun o => below_alloc1 W o
 refine ⟨⟨h.A.below (hb _), ?_, ?_, ?_, ?_⟩, ⟨h.A.below (hb _), ?_, ?_, ?_, ?_⟩, ⟨h.A.below (hb _), ?_, ?_, ?_, ?_⟩⟩
 · rw [hp4]; exact fun e => (h.W_ e).below (hb _)
 · exact fun _ => prP_new h _
 · exact fun e => (h.P2 e).below (hb _)
 · exact fun e => (h.P3 e).below (hb _)
 · rw [hp16]; exact fun e => (h.W_ e).below (hb _)
 · exact fun e => (h.P1 e).below (hb _)
 · exact fun _ => prP_new h _
 · exact fun e => (h.P3 e).below (hb _)
 · rw [hp26]; exact fun e => (h.W_ e).below (hb _)
 · exact fun e => (h.P1 e).below (hb _)
 · exact fun e => (h.P2 e).below (hb _)
 · exact fun _ => prP_new h _
theorem PrP.turn {W W' : World} {n1 p bw : Nat} {b : UInt8} {v v' : Value} (h : PrP W n1 p b bw v true) (ht : WTurn bw v v' W W') : PrP W' n1 p b bw v' true := by
 have hl := lt_heap h.at_
 have hn := h.ne rfl
 refine ⟨(ht.block _ hl hn.1 hn.2).trans h.at_, h.lo, fun _ => ⟨hn.1, fun e => ?_⟩⟩
 rcases ht.new with e2 | e2
 · exact hn.2 (e2 ▸ e)
 · have := e2 _ e; omega
theorem PrA.turn {w W W' : World} {x : RpD} {u : Value} {bw : Nat} {v v' : Value} {y : List UInt8 × Nat} (h : PrA w W x u) (hw : PrW W (w.heap.size + 1) bw v y) (ht : WTurn bw v v' W W') (hg : 0 < w.heap.size) : PrA w W' x u := by
 have hlo := hw.lo
 have hk : ∀ k, k < W.heap.size → k ≤ w.heap.size + 1 → W'.heap[k]? = W.heap[k]? := fun k hk hle => ht.block k hk (by omega) (fun e => by have := (hw.wr.own.lt _ e).1; omega)
 refine ⟨⟨ht.os.trans h.bel.os, ht.tape.trans h.bel.tape, ht.output.trans h.bel.output, Nat.le_trans h.bel.size ht.size, fun k hk' => (hk k (Nat.lt_of_lt_of_le hk' h.bel.size) (by omega)).trans (h.bel.block k hk')⟩, (hk _ (lt_heap h.a) (by omega)).trans h.a, (hk _ (lt_heap h.b) (by omega)).trans h.b, ht.mx h.mx (by omega) (fun g e => by have := (hw.wr.own.lt _ e).1; omega)⟩
theorem PrC.wrote {w W W' : World} {x : RpD} {u : Value} {m : Nat} {L : Nat → Bool} {g : PrG} (h : PrC w x u m L g W) (i k : Nat) (h0 : L 0 = true) (hg : 0 < w.heap.size) (hi : (i = 5 ∨ i = 8 ∨ i = 12 ∨ i = 17 ∨ i = 21 ∨ i = 27)) (hpr : prgr (ranI L i) = k) (v' : Value) (hw : WrAt W' g.bw v' (yS x m k).1 (yS x m k).2 4096) (ht : WTurn g.bw g.vw v' W W') : PrC w x u m (ranI L i) { g with vw := v' } W' := by
 have hW := h.W_ h0
 have e0 : ranI L i 0 = L 0 := ranI_ne L (by omega)
 refine ⟨h.A.turn hW ht hg, fun _ => ⟨by rw [hpr]; exact hw, by rw [hpr]; exact yS_le _ _ _, hW.lo⟩, ?_, ?_, ?_⟩
 · rw [e0, h0, ranI_ne L (by omega : 4 ≠ i)]
   exact fun e => PrP.turn (by have := h.P1 e; rwa [h0] at this) ht
 · rw [e0, h0, ranI_ne L (by omega : 16 ≠ i)]
   exact fun e => PrP.turn (by have := h.P2 e; rwa [h0] at this) ht
 · rw [e0, h0, ranI_ne L (by omega : 26 ≠ i)]
   exact fun e => PrP.turn (by have := h.P3 e; rwa [h0] at this) ht
end Go.Proofs.YtbfefdedjcppaaaGreatDoor
