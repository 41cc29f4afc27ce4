/- request.Parse. -/
import Derived.Test.YtbfefdedjcppaaaGreatDoorPA6
namespace Go.Proofs.YtbfefdedjcppaaaGreatDoor
set_option maxRecDepth 100000
set_option maxHeartbeats 8000000
open Go.RowKit Go.Deep
structure PaSt (w W : World) (br bf : Nat) (c n : Int) (x : PD) (u : Value) : Prop where
 st : StF W br bf (bf + 2) 59 (x.fs u)
 bx : BoxIs W (bf + 1) (.pointer (some ⟨bf, 0, none⟩)) 84
 c_ : W.heap[bf + 3]? = some (.cells #[.int .i64 c] 3 (0, 0))
 n_ : W.heap[bf + 4]? = some (.cells #[.int .i64 n] 3 (0, 0))
 res : W.heap[w.heap.size]? = some (.cells (ryC zeroR (.slice none 0 0)).toArray 59 (0, 0))
 bel : Below w.heap.size w W
 mx : MX W
 ne : w.heap.size < br ∧ br < bf ∧ 0 < br
theorem PaSt.keep {w W W' : World} {br bf : Nat} {c n : Int} {x : PD} {u : Value} {S : List Nat} (h : PaSt w W br bf c n x u) (ht : Turn S W W') (hS : ∀ k ∈ S, k = br ∨ bf ≤ k) : Below w.heap.size w W' ∧ MX W' ∧ W'.heap[w.heap.size]? = some (.cells (ryC zeroR (.slice none 0 0)).toArray 59 (0, 0)) ∧ (∀ k, k < W.heap.size → k ∉ S → W'.heap[k]? = W.heap[k]?) := by
 have hn := h.ne
 refine ⟨h.bel.trans (ht.below (fun k hk => by have := hS k hk; omega) h.bel.size), h.mx.turn ht (fun k hk => by have := hS k hk; omega), (ht.block _ (lt_heap h.res) fun hm => by have := hS _ hm; omega).trans h.res, fun k hk hm => ht.block k hk hm⟩
theorem PaSt.stepX {w W W' : World} {br bf : Nat} {c n : Int} {x y : PD} {u : Value} {e : Ending} (h : PaSt w W br bf c n x u) (hR : Stepped br bf (bf + 2) 59 (y.fs u) W e W') : PaSt w W' br bf c n y u := by
 obtain ⟨_, hs, ht⟩ := hR
 have hn := h.ne
 obtain ⟨k1, k2, k3, k4⟩ := h.keep ht (fun k hk => by simp at hk; omega)
 exact ⟨hs, (k4 _ (lt_heap h.bx) (by simp; omega)).trans h.bx, (k4 _ (lt_heap h.c_) (by simp; omega)).trans h.c_, (k4 _ (lt_heap h.n_) (by simp; omega)).trans h.n_, k3, k1, k2, hn⟩
theorem PaSt.stepC {w W W' : World} {br bf : Nat} {c n c' : Int} {x : PD} {y : FS} {u : Value} {e : Ending} (h : PaSt w W br bf c n x u) (hR : Stepped br bf (bf + 3) 3 y W e W') (hy : y.cs = [.int .i64 c']) : PaSt w W' br bf c' n ⟨x.d, y.l, y.er, y.ef⟩ u := by
 obtain ⟨_, hs, ht⟩ := hR
 have hn := h.ne
 obtain ⟨k1, k2, k3, k4⟩ := h.keep ht (fun k hk => by simp at hk; omega)
 have hc := hs.at_
 rw [hy] at hc
 exact ⟨⟨hs.fa, (k4 _ (lt_heap h.st.at_) (by simp; omega)).trans h.st.at_, hs.ok⟩, (k4 _ (lt_heap h.bx) (by simp; omega)).trans h.bx, hc, (k4 _ (lt_heap h.n_) (by simp; omega)).trans h.n_, k3, k1, k2, hn⟩
theorem PaSt.stepN {w W W' : World} {br bf : Nat} {c n n' : Int} {x : PD} {y : FS} {u : Value} {e : Ending} (h : PaSt w W br bf c n x u) (hR : Stepped br bf (bf + 4) 3 y W e W') (hy : y.cs = [.int .i64 n']) : PaSt w W' br bf c n' ⟨x.d, y.l, y.er, y.ef⟩ u := by
 obtain ⟨_, hs, ht⟩ := hR
 have hn := h.ne
 obtain ⟨k1, k2, k3, k4⟩ := h.keep ht (fun k hk => by simp at hk; omega)
 have hc := hs.at_
 rw [hy] at hc
 exact ⟨⟨hs.fa, (k4 _ (lt_heap h.st.at_) (by simp; omega)).trans h.st.at_, hs.ok⟩, (k4 _ (lt_heap h.bx) (by simp; omega)).trans h.bx, (k4 _ (lt_heap h.c_) (by simp; omega)).trans h.c_, hc, k3, k1, k2, hn⟩
theorem PaSt.setX {w W W' : World} {br bf : Nat} {c n : Int} {x : PD} {d : RpD} {u v : Value} (h : PaSt w W br bf c n x u) (hc : W'.heap[bf + 2]? = some (.cells (ryC d v).toArray 59 (0, 0))) (ht : Turn [bf + 2] W W') : PaSt w W' br bf c n { x with d := d } v := by
 have hn := h.ne
 obtain ⟨k1, k2, k3, k4⟩ := h.keep ht (fun k hk => by simp at hk; omega)
 exact ⟨⟨h.st.fa.turn ht (fun k hk => by simp at hk; omega), hc, h.st.ok⟩, (k4 _ (lt_heap h.bx) (by simp)).trans h.bx, (k4 _ (lt_heap h.c_) (by simp)).trans h.c_, (k4 _ (lt_heap h.n_) (by simp)).trans h.n_, k3, k1, k2, hn⟩
theorem PaSt.ev {w W W' : World} {br bf : Nat} {c n : Int} {x : PD} {u : Value} {l : List UInt8} {er ef : Nat} (h : PaSt w W br bf c n x u) (hf : FAt W' br bf l er ef) (hok : ef = 0 → er = 0) (ht : Turn [br, bf] W W') : PaSt w W' br bf c n ⟨x.d, l, er, ef⟩ u := by
 have hn := h.ne
 obtain ⟨k1, k2, k3, k4⟩ := h.keep ht (fun k hk => by simp at hk; omega)
 exact ⟨⟨hf, (k4 _ (lt_heap h.st.at_) (by simp; omega)).trans h.st.at_, hok⟩, (k4 _ (lt_heap h.bx) (by simp; omega)).trans h.bx, (k4 _ (lt_heap h.c_) (by simp; omega)).trans h.c_, (k4 _ (lt_heap h.n_) (by simp; omega)).trans h.n_, k3, k1, k2, hn⟩
theorem PaSt.below {w W W' : World} {br bf : Nat} {c n : Int} {x : PD} {u : Value} (h : PaSt w W br bf c n x u) (hb : Below W.heap.size W W') : PaSt w W' br bf c n x u :=
 ⟨h.st.below hb, (hb.block _ (lt_heap h.bx)).trans h.bx, (hb.block _ (lt_heap h.c_)).trans h.c_, (hb.block _ (lt_heap h.n_)).trans h.n_, (hb.block _ (lt_heap h.res)).trans h.res, h.bel.trans (hb.mono h.bel.size), h.mx.below hb, h.ne⟩
def fldO (br : Nat) : Obj := .cells #[.pointer (some ⟨br, 0, none⟩), .int .i64 0] 88
def boxO (bf : Nat) : Obj := .cells #[.pointer (some ⟨bf, 0, none⟩)] 84
def repO : Obj := .cells (ryC zeroR (.slice none 0 0)).toArray 59
def intO : Obj := .cells #[.int .i64 0] 3
theorem PaSt.start {w w1 : World} {br : Nat} {l : List UInt8} (hz : w1.heap[w.heap.size]? = some (.cells (ryC zeroR (.slice none 0 0)).toArray 59 (0, 0))) (hrd : RdAt w1 (br + 1) br l 0) (hb : Below w.heap.size w w1) (hbr : w.heap.size < br) (hmx : MX w) (hg : 0 < w.heap.size) :
   PaSt w (((((w1.alloc (fldO br)).alloc (boxO w1.heap.size)).alloc repO).alloc intO).alloc intO) br w1.heap.size 0 0 ⟨zeroR, l, 0, 0⟩ (.slice none 0 0) := by
 have hle := hrd.le
 have a0 := heap_alloc2_old w1 (fldO br) (boxO w1.heap.size)
 have a1 := heap_alloc2_new w1 (fldO br) (boxO w1.heap.size)
 have ab := below_alloc2 w1 (fldO br) (boxO w1.heap.size)
 have asz : ((w1.alloc (fldO br)).alloc (boxO w1.heap.size)).heap.size = w1.heap.size + 2 := by simp
 generalize (w1.alloc (fldO br)).alloc (boxO w1.heap.size) = V at *
 have b0 := heap_alloc2_old V repO intO
 have b1 := heap_alloc2_new V repO intO
 have bb := below_alloc2 V repO intO
 have bs : ((V.alloc repO).alloc intO).heap.size = V.heap.size + 2 := by simp
 generalize (V.alloc repO).alloc intO = V2 at *
 have c1 := heap_alloc_new V2 intO
 have cb := below_alloc1 V2 intO
 rw [asz] at b0 b1 bs
 rw [bs] at c1
 have h1 := ab.trans (bb.mono ab.size)
 have h2 := h1.trans (cb.mono h1.size)
 have k2 : ∀ j, j < V2.heap.size → (V2.alloc intO).heap[j]? = V2.heap[j]? := fun j hj => cb.block j hj
 have k1 : ∀ j, j < V.heap.size → V2.heap[j]? = V.heap[j]? := fun j hj => bb.block j hj
 have hwb := hb.trans (h2.mono hb.size)
 refine ⟨⟨⟨hrd.below (h2.mono hle), by omega, ?_⟩, ?_, fun _ => rfl⟩, ?_, ?_, c1, (h2.block _ (lt_heap hz)).trans hz, hwb, hmx.below hwb, ⟨hbr, by omega, by omega⟩⟩
 · rw [k2 _ (by omega), k1 _ (by omega)]; exact a0
 · rw [k2 _ (by omega)]; exact b0
 · show _ = _
   rw [k2 _ (by omega), k1 _ (by omega)]; exact a1
 · rw [k2 _ (by omega)]; exact b1
theorem siz37n : (Tryz.prog.info? 37).map (·.size) = some 1 := by kernel_rfl
theorem bldRy0 : Tryz.prog.built 59 [] = some (ryC zeroR (.slice none 0 0)).toArray := by kernel_rfl
theorem pN0_cs (x : PD) : (pN0 x).cs = [.int .i64 (pN x : Nat)] := by
 unfold pN0 pN sNum
 by_cases h : x.ef = 0
 · rw [if_pos h]
   simp only [if_pos h]; rfl
 · rw [if_neg h]
   simp only [if_neg h]; rfl
theorem pN_le (x : PD) : pN x ≤ 255 := by
 unfold pN
 split
 · have := byteV_lt x.l; omega
 · exact Nat.zero_le _
theorem PaSt.high {w W W' : World} {br bf : Nat} {c n : Int} {x : PD} {u : Value} (h : PaSt w W br bf c n x u) (hb : Below (bf + 5) W W') : PaSt w W' br bf c n x u := by
 have hn := h.ne
 have hs := lt_heap h.n_
 exact ⟨⟨⟨h.st.fa.rd.below (hb.mono (by omega)), hn.2.1, (hb.block _ (by omega)).trans h.st.fa.at_⟩, (hb.block _ (by omega)).trans h.st.at_, h.st.ok⟩, (hb.block _ (by omega)).trans h.bx, (hb.block _ (by omega)).trans h.c_, (hb.block _ (by omega)).trans h.n_, (hb.block _ (by omega)).trans h.res, h.bel.trans (hb.mono (by omega)), by
   obtain ⟨m, hm⟩ := h.mx
   exact ⟨m, (hb.cell (by show 0 < bf + 5; omega)).trans hm⟩, hn⟩
theorem infoEvZ : (Tryz.prog.info? 62).map (fun i => (i.zero, i.size, i.bytes)) = some (some (.agg (evC evZ).toArray), 28, 40) := by kernel_rfl
theorem evZ_sz : (Value.agg (evC evZ).toArray).cells.size = 28 := by show (evC evZ).toArray.size = 28; simp [evC_len]
theorem slAt_ev {W : World} {b : Nat} {v : Ev} (h : W.heap[b]? = some (.cells (evC v).toArray 62 (0, 0))) : SlAt evC 28 W (some ⟨b, 0, none⟩) [v] := fun i hi => by
 obtain rfl : i = 0 := by simp at hi; omega
 exact ⟨b, 0, rfl, lt_heap h, by rw [Nat.zero_mul]; exact range_whole h⟩
def PcC (w : World) (br bf : Nat) (cb N : Int) (d : RpD) (v : Value) (s : LS) (s' : ES) : Nat → Nat × Value → World → Prop
 | 0, _, W => PaSt w W br bf cb N ⟨d, s.l, s.er, s.ef⟩ v ∧ OwnE evC 62 28 W (bf + 5) v s.evs
 | 1, _, W => PaSt w W br bf cb N ⟨d, s'.l, s'.er, s'.ef⟩ v ∧ OwnE evC 62 28 W (bf + 5) v s.evs
 | 2, g, W => PaSt w W br bf cb N ⟨d, s'.l, s'.er, s'.ef⟩ v ∧ OwnE evC 62 28 W (bf + 5) v s.evs ∧ W.heap[g.1]? = some (.cells (evC s'.v).toArray 62 (0, 0))
 | 3, g, W => PaSt w W br bf cb N ⟨d, s'.l, s'.er, s'.ef⟩ v ∧ OwnE evC 62 28 W (bf + 5) g.2 (s.evs ++ [s'.v])
 | _, g, W => PaSt w W br bf cb N ⟨d, s'.l, s'.er, s'.ef⟩ g.2 ∧ OwnE evC 62 28 W (bf + 5) g.2 (s.evs ++ [s'.v])
theorem PcC.pa {w W : World} {br bf : Nat} {cb N : Int} {d : RpD} {v : Value} {s : LS} {s' : ES} {k : Nat} {g : Nat × Value} (h : PcC w br bf cb N d v s s' k g W) (hk : k ≤ 3) : ∃ l er ef, PaSt w W br bf cb N ⟨d, l, er, ef⟩ v := by
 match k, hk, h with
 | 0, _, h => exact ⟨_, _, _, h.1⟩
 | 1, _, h => exact ⟨_, _, _, h.1⟩
 | 2, _, h => exact ⟨_, _, _, h.1⟩
 | 3, _, h => exact ⟨_, _, _, h.1⟩
 | k + 4, h4, _ => omega
theorem rqParse_any (q : Option Addr) (n c : Nat) (l : List UInt8) (w : World) (hn : l.length = n) (hq : SlAt byteC 1 w q l) (hq0 : q = none → n = 0 ∧ c = 0) (hsz : n ≤ 1000000) (hmx : MX w) :
   Calls Tryz.prog 15 #[.slice q n c] w fun e w' => ∃ v, e = .returned (.tuple #[.agg (ryC (prsD l) v).toArray, .int .i64 (prsE l : Nat)]) ∧ OwnE evC 62 28 w' w.heap.size v (prsV l) ∧ Below w.heap.size w w' := by
 have HZ0 : Hid ((w.alloc repO).heap[w.heap.size]? = some (.cells (ryC zeroR (.slice none 0 0)).toArray 59 (0, 0))) := heap_alloc_new _ _
 have hB0 : Below w.heap.size w (w.alloc repO) := below_alloc1 _ _
 have KN := Lib.hid (newReader_any q n c l (w.alloc repO) hn (hq.below hB0) hq0 hsz)
 have HM0 : Hid (0 < w.heap.size) := by
   obtain ⟨m, hm⟩ := hmx
   exact World.block_lt_of_cell? _ _ hm
 have HM := Lib.hid hmx
 have HE : Hid (prsE l = if (pL l).ef = 0 ∧ (pL l).l ≠ [] then 3 else (pL l).ef) := rfl
 have HD : Hid (prsD l = if prsE l = 0 then (pF l).d else zeroR) := rfl
 have HV : Hid (prsV l = if prsE l = 0 then (pL l).evs else []) := rfl
 have HPL : Hid (pL l = evsN (pN (pF l)) ⟨[], (pN0 (pF l)).l, (pN0 (pF l)).er, (pN0 (pF l)).ef⟩) := rfl
 have HPF : Hid (pF l = pdN (pdSt (pdTag (pdText ⟨{ zeroR with err := (byteV l : Nat) }, (pC0 l).l, (pC0 l).er, (pC0 l).ef⟩)))) := rfl
 clear hn hq hq0 hsz hmx
 go_enter Tryz.func15, Tryz.ntmps15
 go_upto_region 1 with fail
 rw [show (Obj.cells #[Value.int .i64 0, Value.string ⟨#[]⟩, .int .u8 0, .int .u8 0, .int .u8 0, .int .u8 0, .int .u8 0, .int .u8 0, .int .u8 0, .int .u8 0, .int .u8 0, .int .u8 0, .int .i64 0, .int .i64 0, Value.slice none 0 0] 59) = repO from rfl]
 generalize HW0 : w.alloc repO = W0 at *
 clear HW0
 go_upto_region 4 with (go_at_call 22; (refine KN.out.mono ?_); rintro e w1 ⟨br, rfl, hrd, hb1, hge⟩; have HB1 := Lib.hid hb1; have HRD := Lib.hid hrd; clear hb1 hrd)
 rw [show (Obj.cells #[Value.pointer (some ⟨br, 0, none⟩), .int .i64 0] 88) = fldO br from rfl, show (Obj.cells #[Value.pointer (some ⟨w1.heap.size, 0, none⟩)] 84) = boxO w1.heap.size from rfl, show (Obj.cells #[Value.int .i64 0, Value.string ⟨#[]⟩, .int .u8 0, .int .u8 0, .int .u8 0, .int .u8 0, .int .u8 0, .int .u8 0, .int .u8 0, .int .u8 0, .int .u8 0, .int .u8 0, .int .i64 0, .int .i64 0, Value.slice none 0 0] 59) = repO from rfl, show (Obj.cells #[Value.int .i64 0] 3) = intO from rfl]
 have hz1 := (HB1.out.block _ (lt_heap HZ0.out)).trans HZ0.out
 have hbr : w.heap.size < br := Nat.lt_of_lt_of_le (lt_heap HZ0.out) hge
 have HR0 := Lib.hid (PaSt.start hz1 HRD.out (hB0.trans (HB1.out.mono hB0.size)) hbr HM.out HM0.out)
 simp only [Nat.add_assoc, Nat.reduceAdd]
 clear hz1 hbr hge HRD HB1 HZ0 hB0 KN HM HM0
 generalize (((((w1.alloc (fldO br)).alloc (boxO w1.heap.size)).alloc repO).alloc intO).alloc intO) = W1 at *
 generalize w1.heap.size = bf at *
 have hbx := (cell1 HR0.out.bx).1
 have hne := HR0.out.ne
 have KC := Lib.hid (snum_any br bf (bf + 3) 0 0 255 5 3 ⟨[.int .i64 0], l, 0, 0⟩ W1 ⟨HR0.out.st.fa, HR0.out.c_, fun _ => rfl⟩ (by show 0 + 1 ≤ 1; omega) (by omega))
 go_upto_region 5 with (go_at_call 23; (refine KC.out.mono ?_); rintro e w2 hR; have HR1 := Lib.hid (HR0.out.stepC (c' := (byteV l : Nat)) hR rfl); obtain ⟨rfl, _, _⟩ := hR)
 have HR1' : Hid (PaSt w w2 br bf ((byteV l : Nat) : Int) 0 ⟨zeroR, (pC0 l).l, (pC0 l).er, (pC0 l).ef⟩ (.slice none 0 0)) := HR1.out
 clear HR0 HR1 KC hbx
 have hcc := (cell1 HR1'.out.c_).1
 generalize byteV l = cb at *
 go_upto_region 6 with ((with_reducible refine gate_st 37 _ _ rfl ?_); refine wl_st1G rfl 37 siz37n _ _ rfl (bf + 2) 0 (.int .i64 (cb : Int)) rfl rfl rfl (ryC zeroR (.slice none 0 0)) (ryC { zeroR with err := (cb : Int) } (.slice none 0 0)) 59 HR1'.out.st.at_ (by rw [ryC_len]; decide) rfl (fun w3 h1 h2 => ?_); have HR2 := Lib.hid (HR1'.out.setX (d := { zeroR with err := (cb : Int) }) h1 h2); clear h1 h2; try simp only [Act.put])
 have HR2' : Hid (PaSt w w3 br bf (cb : Int) 0 ⟨{ zeroR with err := (cb : Int) }, (pC0 l).l, (pC0 l).er, (pC0 l).ef⟩ (.slice none 0 0)) := HR2.out
 clear HR1' HR2 hcc
 generalize (⟨{ zeroR with err := (cb : Int) }, (pC0 l).l, (pC0 l).er, (pC0 l).ef⟩ : PD) = x0 at *
 have hbx := (cell1 HR2'.out.bx).1
 have KT := Lib.hid (ptext_any br bf (bf + 2) (bf + 1) x0 (.slice none 0 0) w3 HR2'.out.st HR2'.out.bx (by omega))
 go_upto_region 7 with (go_at_call 26; (refine KT.out.mono ?_); rintro e w4 hR; have HR3 := Lib.hid (HR2'.out.stepX hR); obtain ⟨rfl, _, _⟩ := hR)
 clear HR2' KT hbx
 generalize pdText x0 = x1 at *
 have hbx := (cell1 HR3.out.bx).1
 have KG : Hid (Calls Tryz.prog 49 #[.pointer (some ⟨bf, 0, none⟩), .pointer (some ⟨bf + 2, 2, none⟩)] w4 (Stepped br bf (bf + 2) 59 ((pdTag x1).fs (.slice none 0 0)) w4)) := by
   have := stag_any br bf (bf + 2) 2 59 (x1.fs (.slice none 0 0)) w4 HR3.out.st (by show 2 + 10 ≤ (ryC x1.d _).length; rw [ryC_len]; decide) (by omega) HR3.out.mx hne.2.2
   rwa [pdTag_fs] at this
 go_upto_region 8 with (go_at_call 49; (refine KG.out.mono ?_); rintro e w5 hR; have HR4 := Lib.hid (HR3.out.stepX hR); obtain ⟨rfl, _, _⟩ := hR)
 clear HR3 KG hbx
 generalize pdTag x1 = x2 at *
 have hbx := (cell1 HR4.out.bx).1
 have KS : Hid (Calls Tryz.prog 23 #[.pointer (some ⟨bf, 0, none⟩), .pointer (some ⟨bf + 2, 12, none⟩), .int .i64 0, .int .i64 255, .int .i64 5] w5 (Stepped br bf (bf + 2) 59 ((pdSt x2).fs (.slice none 0 0)) w5)) := by
   have := snum_any br bf (bf + 2) 12 0 255 5 59 (x2.fs (.slice none 0 0)) w5 HR4.out.st (by show 12 + 1 ≤ (ryC x2.d _).length; rw [ryC_len]; decide) (by omega)
   rwa [pdSt_fs] at this
 go_upto_region 9 with (go_at_call 23; (refine KS.out.mono ?_); rintro e w6 hR; have HR5 := Lib.hid (HR4.out.stepX hR); obtain ⟨rfl, _, _⟩ := hR)
 clear HR4 KS hbx
 generalize pdSt x2 = x3 at *
 have hbx := (cell1 HR5.out.bx).1
 have KM := Lib.hid (pnum_any br bf (bf + 2) (bf + 1) x3 (.slice none 0 0) w6 HR5.out.st HR5.out.bx (by omega))
 go_upto_region 10 with (go_at_call 26; (refine KM.out.mono ?_); rintro e w7 hR; have HR6 := Lib.hid (HR5.out.stepX hR); obtain ⟨rfl, _, _⟩ := hR)
 clear HR5 KM hbx
 rw [← HPF.out] at HR6
 clear HPF
 generalize pF l = xf at *
 have hbx := (cell1 HR6.out.bx).1
 have KE := Lib.hid (snum_any br bf (bf + 4) 0 0 16 2 3 ⟨[.int .i64 0], xf.l, xf.er, xf.ef⟩ w7 ⟨HR6.out.st.fa, HR6.out.n_, HR6.out.st.ok⟩ (by show 0 + 1 ≤ 1; omega) (by omega))
 go_upto_region 11 with (go_at_call 23; (refine KE.out.mono ?_); rintro e w8 hR; have HR7 := Lib.hid (HR6.out.stepN (n' := (pN xf : Nat)) hR (pN0_cs xf)); obtain ⟨rfl, _, _⟩ := hR)
 have HR7' : Hid (PaSt w w8 br bf (cb : Int) ((pN xf : Nat) : Int) ⟨xf.d, (pN0 xf).l, (pN0 xf).er, (pN0 xf).ef⟩ (.slice none 0 0)) := HR7.out
 clear HR6 HR7 KE hbx
 have hcn := (cell1 HR7'.out.n_).1
 have hnl := pN_le xf
 obtain ⟨s0, hs0⟩ : ∃ s0 : LS, s0 = ⟨[], (pN0 xf).l, (pN0 xf).er, (pN0 xf).ef⟩ := ⟨_, rfl⟩
 have HS0e : Hid (s0.evs = []) := by show _ = _; rw [hs0]
 have HR8 : Hid (PaSt w w8 br bf (cb : Int) ((pN xf : Nat) : Int) ⟨xf.d, s0.l, s0.er, s0.ef⟩ (.slice none 0 0)) := by rw [hs0]; exact HR7'
 rw [← hs0] at HPL
 clear hs0 HR7'
 generalize pN xf = N at *
 go_wp2_with fail
 go_loopw [35] (fun i wr => ∃ (k : Nat) (v : Value), k ≤ N ∧ i = .int .i64 (k : Int) ∧ Hid (PaSt w wr br bf (cb : Int) (N : Int) ⟨xf.d, (evsN k s0).l, (evsN k s0).er, (evsN k s0).ef⟩ v) ∧ Hid (OwnE evC 62 28 wr (bf + 5) v (evsN k s0).evs)) (fun i _ => N - (intOf i).toNat)
 case atStart => exact ⟨0, _, Nat.zero_le _, rfl, HR8.out, (by show OwnE _ _ _ _ _ _ s0.evs; rw [HS0e.out]; exact OwnE.nil _ _)⟩
 case round =>
   obtain ⟨k, v, hk, rfl, HRa, HOa⟩ := hrel
   clear HR8 hcn
   by_cases hlt : k < N
   · have hlt' : (k : Int) < (N : Int) := by omega
     have hbx := (cell1 HRa.out.bx).1
     have hfe : wr.cell? ⟨bf, 1, none⟩ = some (.int .i64 ((evsN k s0).ef : Int)) := (cell2 HRa.out.st.fa.at_).2.1
     have HST : Hid (evsN (k + 1) s0 = evStep (evsN k s0)) := rfl
     have HEL := Lib.hid (evsN_len s0 HS0e.out k)
     generalize evsN k s0 = s at *
     by_cases he : s.ef = 0
     · skip
       have HEv : Hid (∀ W, FAt W br bf s.l 0 0 → MX W → Calls Tryz.prog 52 #[.pointer (some ⟨bf, 0, none⟩)] W (EvP br bf s.l W)) := fun W hW hM => event_any br bf s.l W hW hM hne.2.2
       have HS2 : Hid (evsN (k + 1) s0 = ⟨s.evs ++ [(evR s.l).v], (evR s.l).l, (evR s.l).er, (evR s.l).ef⟩) := by show _ = _; rw [HST.out]; unfold evStep; rw [if_pos he]
       have HEV2 : Hid (∀ W e w', EvP br bf s.l W e w' → e = .returned (.agg (evC (evR s.l).v).toArray) ∧ FAt w' br bf (evR s.l).l (evR s.l).er (evR s.l).ef ∧ ((evR s.l).ef = 0 → (evR s.l).er = 0) ∧ Turn [br, bf] W w') := fun W e w' h => h
       have her : s.er = 0 := HRa.out.st.ok he
       generalize evR s.l = s' at *
       go_upto_region 14 with fail
       have hlt2 := lt_heap HRa.out.n_
       refine wp_region_chainG (PcC w br bf (cb : Int) (N : Int) xf.d v s s') (fun gv => [some (42, .pointer (some ⟨bf + 2, 14, none⟩)), some (43, v), some (44, .pointer (some ⟨bf, 0, none⟩)), some (45, .agg (evC s'.v).toArray), some (46, .slice (some ⟨gv.1, 0, none⟩) 1 1), some (47, gv.2), some (48, .pointer (some ⟨bf + 2, 14, none⟩)), none]) [3, 4, 5, 7] (0, undef)
         (by kernel_rfl) (by kernel_rfl) (fun _ => rfl) (fun _ _ => rfl) (by simp) (by simp) (by decide) (by decide) (fun r hr => by have h2 : r + 1 < 4 := hr; obtain rfl | rfl | rfl : r = 0 ∨ r = 1 ∨ r = 2 := (by omega) <;> (show _ = true; kernel_rfl))
         (by exact ⟨HRa.out.below ⟨rfl, rfl, rfl, Nat.le_refl _, fun _ _ => rfl⟩, HOa.out.block fun _ _ => rfl⟩) ?_ ?_ ?_
       · intro i hi hE gv a W r hfr hdep hC hkk K hK
         have hi8 : i < 8 := hi
         obtain rfl | rfl | rfl | rfl : i = 0 ∨ i = 1 ∨ i = 2 ∨ i = 6 := by
           rcases (by omega : i = 0 ∨ i = 1 ∨ i = 2 ∨ i = 3 ∨ i = 4 ∨ i = 5 ∨ i = 6 ∨ i = 7) with h | h | h | h | h | h | h | h
           · exact .inl h
           · exact .inr (.inl h)
           · exact .inr (.inr (.inl h))
           · subst h; exact absurd (by simp) hE
           · subst h; exact absurd (by simp) hE
           · subst h; exact absurd (by simp) hE
           · exact .inr (.inr (.inr h))
           · subst h; exact absurd (by simp) hE
         · exact wpOp_val rfl rfl (exec_fRy (.tmp 5) 1 14 (by simp) rfl (bf + 2) 0 (hfr.off 5 (by simp))) hK
         · have hr2 : r ≤ 2 := by
             rcases Nat.lt_or_ge 2 r with h | h
             · exact absurd (hkk 2 (by simp) h) (by decide +kernel)
             · exact h
           obtain ⟨l', er', ef', hP⟩ := hC.pa (by omega)
           exact wpOp_val rfl rfl (exec_ld1G 57 agEvs (.tmp 42) rfl (bf + 2) 14 v (hdep 0 (by kernel_rfl) 42 _ rfl) (by rw [cell_blk hP.st.at_, List.getElem?_toArray]; exact ryC_sl _ _)) hK
         · have hr2 : r ≤ 0 := by
             rcases Nat.lt_or_ge 0 r with h | h
             · exact absurd (hkk 0 (by simp) h) (by decide +kernel)
             · exact h
           obtain ⟨l', er', ef', hP⟩ := hC.pa (by omega)
           exact wpOp_val rfl rfl (exec_ld1G 84 ag84 (.tmp 4) rfl (bf + 1) 0 (.pointer (some ⟨bf, 0, none⟩)) (hfr.off 4 (by simp)) (cell1 hP.bx).1) hK
         · exact wpOp_val rfl rfl (exec_fRy (.tmp 5) 1 14 (by simp) rfl (bf + 2) 0 (hfr.off 5 (by simp))) hK
       · intro r hr gv a W hfr hdep hC K hK
         have h4 : r < 4 := hr
         obtain rfl | rfl | rfl | rfl : r = 0 ∨ r = 1 ∨ r = 2 ∨ r = 3 := by omega
         · have hx := hdep 2 (by kernel_rfl) 44 _ rfl
           have hf := hC.1.st.fa
           refine wpOp_call rfl rfl (exec_calls rfl (enters_of Tryz.func52 (by kernel_rfl) rfl) (vs := #[.pointer (some ⟨bf, 0, none⟩)]) (by simp [Act.eval, hx]) W) (HEv.out W (by have h2 : FAt W br bf s.l s.er s.ef := hf; rw [he, her] at h2; exact h2) hC.1.mx) (fun e w2 hR => ?_)
           obtain ⟨rfl, h1, h2, h3⟩ := HEV2.out _ _ _ hR
           have hn := hC.1.ne
           exact ⟨_, rfl, hK gv w2 (fun _ _ _ => rfl) ⟨hC.1.ev h1 h2 h3, hC.2.block fun g hg => h3.block g (hC.2.lt g hg).2 (by have := (hC.2.lt g hg).1; simp; omega)⟩⟩
         · have hx := hdep 3 (by kernel_rfl) 45 _ rfl
           have hnb := below_alloc1 W (.cells (evC s'.v).toArray 62)
           refine wpOp_wp rfl rfl (op_bs1 (enc := evC) (k := 28) 57 62 40 _ Tryz.underlying57 infoEvZ evZ_sz (by omega) (by omega) evC_len (.tmp 45) rfl s'.v hx (hK (W.heap.size, gv.2) _ (fun i hi _ => ?_) ⟨hC.1.below hnb, hC.2.below hnb, heap_alloc_new _ _⟩))
           by_cases h : i < 8
           · have h2 : i = 0 ∨ i = 1 ∨ i = 2 ∨ i = 3 ∨ i = 4 ∨ i = 5 ∨ i = 6 ∨ i = 7 := by omega
             rcases h2 with rfl | rfl | rfl | rfl | rfl | rfl | rfl | rfl <;> first | rfl | exact absurd rfl hi
           · rw [List.getElem?_eq_none (by simp; omega), List.getElem?_eq_none (by simp; omega)]
         · obtain ⟨hP, hO, hG⟩ := hC
           have hsz : bf + 5 ≤ W.heap.size := by have := lt_heap hP.n_; omega
           refine wpOp_wp rfl rfl (op_app (enc := evC) (k := 28) 57 62 40 _ Tryz.underlying57 infoEvZ evZ_sz (by omega) evC_len evC_one' (.tmp 43) (.tmp 46) rfl (bf + 5) v s.evs (hdep 1 (by kernel_rfl) 43 _ rfl) hO (some ⟨gv.1, 0, none⟩) 1 1 [s'.v] (hdep 4 (by kernel_rfl) 46 _ rfl) rfl (slAt_ev hG) (fun e => by cases e) (by have := HEL.out; omega) (by have := HEL.out; unfold maxLen; omega) hsz (fun v' w' hv hgr _ => hK (gv.1, v') w' (fun i hi _ => ?_) ⟨hP.high (grown_below hgr (fun b hb' => (hO.lt b hb').1) hsz), hv⟩))
           by_cases h : i < 8
           · have h2 : i = 0 ∨ i = 1 ∨ i = 2 ∨ i = 3 ∨ i = 4 ∨ i = 5 ∨ i = 6 ∨ i = 7 := by omega
             rcases h2 with rfl | rfl | rfl | rfl | rfl | rfl | rfl | rfl <;> first | rfl | exact absurd rfl hi
           · rw [List.getElem?_eq_none (by simp; omega), List.getElem?_eq_none (by simp; omega)]
         · obtain ⟨hP, hO⟩ := hC
           obtain ⟨q2, c2, hg2⟩ := hO.slice
           refine wpOp_skip rfl rfl (exec_st1G 57 sizEvs (.tmp 48) (.tmp 47) rfl (bf + 2) 14 gv.2 (hdep 6 (by kernel_rfl) 48 _ rfl) (hdep 5 (by kernel_rfl) 47 _ rfl) (by rw [hg2]; rfl) (ryC xf.d v) _ hP.st.at_ (by rw [ryC_len]; decide)) (hK gv _ (fun _ _ _ => rfl) ?_)
           rw [ryC_setE]
           exact ⟨hP.setX (d := xf.d) (setRow_at hP.st.at_) (turn_row _ _ _), hO.block fun g hg => setRow_other _ _ _ _ (by have := (hO.lt g hg).1; omega)⟩
       · intro gv W hC
         obtain ⟨hP, hO⟩ := hC
         have HP := Lib.hid hP
         have HO := Lib.hid hO
         clear hP hO HRa HOa hbx hfe HEv HEV2 HST HEL
         simp only [puts, List.filterMap_cons, List.filterMap_nil, _root_.id, wrT]
         go_wp2_with fail
         go_roundw
         case rel => exact ⟨k + 1, gv.2, by omega, by simp, (by rw [HS2.out]; exact HP), (by rw [HS2.out]; exact HO)⟩
         case measure => simp [intOf]; omega
     · have heI : ((s.ef : Int) == 0) = false := by simp; omega
       have HSe : Hid (evsN (k + 1) s0 = s) := by show _ = _; rw [HST.out]; unfold evStep; rw [if_neg he]
       clear HST HEL
       go_wp2_with fail
       go_roundw
       case rel => exact ⟨k + 1, v, by omega, by simp, (by rw [HSe.out]; exact HRa), (by rw [HSe.out]; exact HOa)⟩
       case measure => simp [intOf]; omega
   · obtain rfl : N = k := by omega
     have hlt' : ¬ (N : Int) < (N : Int) := by omega
     have HY : Hid (evsN N s0 = pL l) := HPL.out.symm
     rw [HY.out] at HRa HOa
     clear HPL hk hnl
     have KDn := Lib.hid (fdone_any br bf (pL l).l (pL l).er (pL l).ef wr HRa.out.st.fa HRa.out.st.ok)
     rw [← HE.out] at KDn
     have hbx := (cell1 HRa.out.bx).1
     by_cases he : prsE l = 0
     · rw [if_pos he] at HD HV
       rw [he] at KDn
       obtain ⟨q5, c5, rfl⟩ := HOa.out.slice
       go_wp2_with (first
         | (go_at_call 31; (refine KDn.out.mono ?_); rintro e w9 ⟨rfl, rfl⟩)
         | ((with_reducible refine gate_ld 59 _ rfl ?_); refine wl_ldr rfl 59 _ rfl (bf + 2) 0 (ryC xf.d (.slice q5 (pL l).evs.length c5)) _ Tryz.underlying59 rfl (by rw [sizRy, ryC_len]) rfl (range_whole HRa.out.st.at_) ?_)
         | ((with_reducible refine gate_st 59 _ _ rfl ?_); refine wl_strG rfl 59 _ _ rfl w.heap.size (ryC xf.d (.slice q5 (pL l).evs.length c5)).toArray (ryC zeroR (.slice none 0 0)).toArray 59 (by rw [sizRy, List.size_toArray, ryC_len]) (by rw [List.size_toArray, List.size_toArray, ryC_len, ryC_len]) (by rw [← Array.all_toList]; exact ryC_one _ _ rfl) rfl rfl HRa.out.res (fun w5 h1 h2 => ?_); have HR5 := Lib.hid h1; have HT5 := Lib.hid h2; clear h1 h2; try simp only [Act.put]))
       refine bodyPost_ret (res_rowc_tmp (P := Tryz.prog) (T := 59) (T' := 59) (t := 3) rfl _ _ w.heap.size (ryC xf.d (.slice q5 (pL l).evs.length c5)).toArray (0, 0) rfl HR5.out Tryz.underlying59 rfl (by rw [sizRy, List.size_toArray, ryC_len])) rfl ?_
       refine ⟨.slice q5 (pL l).evs.length c5, by rw [HD.out, he]; rfl, ?_, HRa.out.bel.trans (HT5.out.below (fun k hk => by simp at hk; omega) HRa.out.bel.size)⟩
       rw [HV.out]
       have hn := HRa.out.ne
       exact (HOa.out.base (by omega)).block fun g hg => HT5.out.block g (HOa.out.lt g hg).2 (by have := (HOa.out.lt g hg).1; simp; omega)
     · have heI : ((prsE l : Int) != 0) = true := by simp; omega
       have heI2 : ¬ (prsE l : Int) = 0 := by omega
       have heI3 : ((prsE l : Int) == 0) = false := by simp; omega
       rw [if_neg he] at HD HV
       go_wp2_with (first
         | (go_at_call 31; (refine KDn.out.mono ?_); rintro e w9 ⟨rfl, rfl⟩)
         | ((with_reducible refine gate_bd 59 _ rfl ?_); refine wl_bd rfl _ [] rfl [] rfl (ryC zeroR (.slice none 0 0)).toArray bldRy0 ?_)
         | ((with_reducible refine gate_st 59 _ _ rfl ?_); refine wl_strG rfl 59 _ _ rfl w.heap.size (ryC zeroR (.slice none 0 0)).toArray (ryC zeroR (.slice none 0 0)).toArray 59 (by rw [sizRy, List.size_toArray, ryC_len]) rfl (by rw [← Array.all_toList]; exact ryC_one _ _ rfl) rfl rfl HRa.out.res (fun w5 h1 h2 => ?_); have HR5 := Lib.hid h1; have HT5 := Lib.hid h2; clear h1 h2; try simp only [Act.put]))
       refine bodyPost_ret (res_rowc_tmp (P := Tryz.prog) (T := 59) (T' := 59) (t := 3) rfl _ _ w.heap.size (ryC zeroR (.slice none 0 0)).toArray (0, 0) rfl HR5.out Tryz.underlying59 rfl (by rw [sizRy, List.size_toArray, ryC_len])) rfl ?_
       refine ⟨.slice none 0 0, by rw [HD.out]; rfl, ?_, HRa.out.bel.trans (HT5.out.below (fun k hk => by simp at hk; omega) HRa.out.bel.size)⟩
       rw [HV.out]
       exact OwnE.nil _ _
end Go.Proofs.YtbfefdedjcppaaaGreatDoor
