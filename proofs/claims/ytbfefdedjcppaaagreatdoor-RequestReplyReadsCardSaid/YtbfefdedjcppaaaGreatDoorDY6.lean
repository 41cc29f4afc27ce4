/- The document's Parse: what it reads (plain), and where it stands. -/
import Derived.Test.YtbfefdedjcppaaaGreatDoorDX6
import Derived.Test.YtbfefdedjcppaaaGreatDoorDH6
import Derived.Test.YtbfefdedjcppaaaGreatDoorRG
import Derived.Test.YtbfefdedjcppaaaGreatDoorPA6
namespace Go.Proofs.YtbfefdedjcppaaaGreatDoor
open Go.RowKit Go.Deep
def eM (m e : Nat) (l : List UInt8) : Nat := if e ≠ 0 then e else numE m l
def kM (m e : Nat) (l : List UInt8) : Nat := if e ≠ 0 then 0 else numK m l
def vM (m e : Nat) (l : List UInt8) : Nat := if e ≠ 0 then 0 else numV m l
theorem rreadM_any (q : Option Addr) (n c e m : Nat) (l : List UInt8) (w : World) (h : RdOk w q n c l) (hm : m < 2 ^ 64) : Calls Tryz.prog 55 #[.agg #[.slice q n c, .int .i64 (e : Int)], .agg #[.int .i64 3, .int .u64 (m : Int), .string ⟨#[]⟩]] w (RdP q n c (kM m e l) (eM m e l) (.int .u64 (vM m e l : Nat)) ⟨#[]⟩ w) := by
 by_cases he : e = 0
 · subst he
   exact rread3_any q n c m l ⟨#[]⟩ w h hm
 · have h1 := rreadE_any q n c e m 3 l ⟨#[]⟩ w h he
   unfold eM kM vM
   rw [if_pos he, if_pos he, if_pos he]
   exact h1
theorem vM_le (m e : Nat) (l : List UInt8) : vM m e l ≤ m := by
 unfold vM
 split
 · exact Nat.zero_le _
 · exact numV_le m l
structure DD where
 d : RpD
 l : List UInt8
 e : Nat
def ddErr (x : DD) : DD := ⟨{ x.d with err := (vN x.e x.l : Nat) }, x.l.drop (kN x.e x.l), numIE 0 255 0 x.e x.l⟩
def ddText (x : DD) : DD := ⟨{ x.d with text := ⟨(sT 1200 x.e x.l).toArray⟩ }, x.l.drop (kT 1200 x.e x.l), eT 1200 x.e x.l⟩
theorem tagIV_len (e : Nat) (l : List UInt8) : (tagIV e l).length = 10 := by
 unfold tagIV
 split
 · exact tagR_len _
 · rfl
def ddTag (x : DD) : DD := ⟨{ x.d with tag := tagIV x.e x.l, lt := tagIV_len _ _ }, x.l.drop (kT 12 x.e x.l), tagIE x.e x.l⟩
def ddSt (x : DD) : DD := ⟨{ x.d with st := (vN x.e x.l : Nat) }, x.l.drop (kN x.e x.l), numIE 0 255 0 x.e x.l⟩
def ddN (x : DD) : DD := ⟨{ x.d with n := (vM 4294967295 x.e x.l : Nat) }, x.l.drop (kM 4294967295 x.e x.l), eM 4294967295 x.e x.l⟩
def dF (l : List UInt8) : DD := ddN (ddSt (ddTag (ddText (ddErr ⟨zeroR, l, 0⟩))))
structure LD where
 evs : List Ev
 l : List UInt8
 e : Nat
def zeros25 : List UInt8 := List.replicate 25 0
def dK0 (l : List UInt8) : LD := ⟨[], l.drop (kN 0 l), numIE 0 2 3 0 l⟩
def dA (l : List UInt8) : LD := ⟨[], (dK0 l).l.drop (kM 18446744073709551615 (dK0 l).e (dK0 l).l), eM 18446744073709551615 (dK0 l).e (dK0 l).l⟩
def dAt (l : List UInt8) : Nat := vM 18446744073709551615 (dK0 l).e (dK0 l).l
def dkL (e : Nat) (l : List UInt8) (k : Nat) : List UInt8 := if e = 0 then l.drop k else l
def dkE (e : Nat) (l : List UInt8) (k : Nat) : Nat := if e = 0 then endE l k else e
def dkB (e : Nat) (l : List UInt8) (k : Nat) : List UInt8 := if e = 0 then gotA l k else zeros25
theorem dkB_len (e : Nat) (l : List UInt8) {k : Nat} (h : k ≤ 25) : (dkB e l k).length = 25 := by
 unfold dkB
 split
 · exact gotA_len l h
 · rfl
def dkKey (l : List UInt8) : List UInt8 := if vN 0 l = 2 then zeros25 else dkB (dA l).e (dA l).l 25
theorem dkKey_len (l : List UInt8) : (dkKey l).length = 25 := by
 unfold dkKey
 split
 · rfl
 · exact dkB_len _ _ (Nat.le_refl _)
def dkE3 (l : List UInt8) : Nat := if vN 0 l = 2 then (dA l).e else if dkE (dA l).e (dA l).l 25 = 0 ∧ rightK (dkKey l) = false then 3 else dkE (dA l).e (dA l).l 25
def dkL3 (l : List UInt8) : List UInt8 := if vN 0 l = 2 then (dA l).l else dkL (dA l).e (dA l).l 25
def dEv (l : List UInt8) : Ev := ⟨(dAt l : Nat), dkKey l, vN 0 l == 1, vN 0 l == 2, dkKey_len l⟩
def ldStep (s : LD) : LD := if s.e = 0 then ⟨s.evs ++ [dEv s.l], dkL3 s.l, dkE3 s.l⟩ else s
def ldN : Nat → LD → LD
 | 0, s => s
 | k + 1, s => ldStep (ldN k s)
def dM (x : DD) : LD := ⟨[], x.l.drop (kN x.e x.l), numIE 0 16 2 x.e x.l⟩
def dL (l : List UInt8) : LD := ldN (vN (dF l).e (dF l).l) (dM (dF l))
def dpE (l : List UInt8) : Nat := if (dL l).e = 0 ∧ 0 < (dL l).l.length then 3 else (dL l).e
def dpD (l : List UInt8) : RpD := if dpE l = 0 then (dF l).d else zeroR
def dpV (l : List UInt8) : List Ev := if dpE l = 0 then (dL l).evs else []
def evD (x : Ev) : List Value := .int .u64 x.at_ :: (rkR x.key ++ [.bool x.dead, .bool x.mark])
theorem evD_len (x : Ev) : (evD x).length = 28 := by simp [evD, rkR_len _ x.lkey]
theorem evD_one (x : Ev) : ∀ u ∈ evD x, u.oneCell' = true := fun u hu => by
 have h1 := rkR_one x.key
 simp only [evD, List.mem_cons, List.mem_append, List.not_mem_nil, or_false] at hu
 rcases hu with rfl | hu | rfl | rfl
 · rfl
 · exact List.all_eq_true.1 h1 u hu
 · rfl
 · rfl
structure DaSt (w W : World) (x : RpD) (l : List UInt8) (e : Nat) (u : Value) : Prop where
 bel : Below w.heap.size w W
 res : W.heap[w.heap.size]? = some (.cells (ryC zeroR (.slice none 0 0)).toArray 72 (0, 0))
 in_ : ∃ (q : Option Addr) (n c : Nat), W.heap[w.heap.size + 1]? = some (.cells #[.slice q n c, .int .i64 (e : Int)] 103 (0, 0)) ∧ RdOk w q n c l
 r_ : W.heap[w.heap.size + 2]? = some (.cells (ryC x u).toArray 72 (0, 0))
theorem DaSt.below {w W W' : World} {x : RpD} {l : List UInt8} {e : Nat} {u : Value} (h : DaSt w W x l e u) (hb : Below W.heap.size W W') : DaSt w W' x l e u := by
 obtain ⟨q, n, c, h1, h2⟩ := h.in_
 exact ⟨h.bel.trans (hb.mono h.bel.size), (hb.block _ (lt_heap h.res)).trans h.res, ⟨q, n, c, (hb.block _ (lt_heap h1)).trans h1, h2⟩, (hb.block _ (lt_heap h.r_)).trans h.r_⟩
theorem DaSt.high {w W W' : World} {x : RpD} {l : List UInt8} {e : Nat} {u : Value} (h : DaSt w W x l e u) (hb : Below (w.heap.size + 3) W W') : DaSt w W' x l e u := by
 obtain ⟨q, n, c, h1, h2⟩ := h.in_
 exact ⟨h.bel.trans (hb.mono (by omega)), (hb.block _ (by omega)).trans h.res, ⟨q, n, c, (hb.block _ (by omega)).trans h1, h2⟩, (hb.block _ (by omega)).trans h.r_⟩
theorem DaSt.setIn {w W W' : World} {x : RpD} {l l' : List UInt8} {e e' : Nat} {u : Value} {q : Option Addr} {n c : Nat} (h : DaSt w W x l e u) (hd : W'.heap[w.heap.size + 1]? = some (.cells #[.slice q n c, .int .i64 (e' : Int)] 103 (0, 0))) (ht : Turn [w.heap.size + 1] W W') (hr : RdOk w q n c l') : DaSt w W' x l' e' u :=
 ⟨h.bel.trans (ht.below (fun k hk => by simp at hk; omega) h.bel.size), (ht.block _ (lt_heap h.res) (by simp)).trans h.res, ⟨q, n, c, hd, hr⟩, (ht.block _ (lt_heap h.r_) (by simp)).trans h.r_⟩
theorem DaSt.setR {w W W' : World} {x x' : RpD} {l : List UInt8} {e : Nat} {u u' : Value} (h : DaSt w W x l e u) (hd : W'.heap[w.heap.size + 2]? = some (.cells (ryC x' u').toArray 72 (0, 0))) (ht : Turn [w.heap.size + 2] W W') : DaSt w W' x' l e u' := by
 obtain ⟨q, n, c, h1, h2⟩ := h.in_
 exact ⟨h.bel.trans (ht.below (fun k hk => by simp at hk; omega) h.bel.size), (ht.block _ (lt_heap h.res) (by simp)).trans h.res, ⟨q, n, c, (ht.block _ (lt_heap h1) (by simp)).trans h1, h2⟩, hd⟩
theorem kN_leA (e : Nat) (l : List UInt8) : vN e l ≤ 255 := by
 unfold vN
 split
 · exact Nat.zero_le _
 · have := byteV_lt l; omega
theorem dk_step (e : Nat) (l : List UInt8) (j : Nat) : (dkL e l j).drop (kN (dkE e l j) (dkL e l j)) = dkL e l (j + 1) ∧ numIE 0 255 0 (dkE e l j) (dkL e l j) = dkE e l (j + 1) ∧ (e = 0 → vN (dkE e l j) (dkL e l j) = (l.getD j 0).toNat) ∧ (e ≠ 0 → vN (dkE e l j) (dkL e l j) = 0) := by
 unfold dkL dkE
 by_cases he : e = 0
 · rw [if_pos he, if_pos he, if_pos he, if_pos he]
   refine ⟨?_, ?_, fun _ => ?_, fun h => absurd he h⟩
   · by_cases hj : j < l.length
     · rw [show endE l j = 0 from if_pos (by omega), List.drop_eq_getElem_cons hj]; rfl
     · by_cases hj2 : j = l.length
       · rw [show endE l j = 0 from if_pos (by omega), List.drop_of_length_le (by omega : l.length ≤ j), List.drop_of_length_le (by omega : l.length ≤ j + 1)]; rfl
       · rw [show endE l j = 4 from if_neg (by omega), List.drop_of_length_le (by omega : l.length ≤ j), List.drop_of_length_le (by omega : l.length ≤ j + 1)]; rfl
   · by_cases hj : j < l.length
     · rw [show endE l j = 0 from if_pos (by omega), show endE l (j + 1) = 0 from if_pos (by omega), List.drop_eq_getElem_cons hj]
       have h256 := (l[j]).toNat_lt
       unfold numIE
       rw [if_neg (by simp only [byteE, byteV]; omega)]; rfl
     · rw [show endE l (j + 1) = 4 from if_neg (by omega), List.drop_of_length_le (by omega : l.length ≤ j)]
       by_cases hj2 : j = l.length
       · rw [show endE l j = 0 from if_pos (by omega)]; rfl
       · rw [show endE l j = 4 from if_neg (by omega)]; rfl
   · by_cases hj : j < l.length
     · rw [show endE l j = 0 from if_pos (by omega), List.drop_eq_getElem_cons hj, List.getD_eq_getElem?_getD, List.getElem?_eq_getElem hj]; rfl
     · rw [List.drop_of_length_le (by omega : l.length ≤ j), List.getD_eq_getElem?_getD, List.getElem?_eq_none (by omega)]
       unfold vN; split <;> rfl
 · rw [if_neg he, if_neg he, if_neg he, if_neg he]
   refine ⟨?_, ?_, fun h => absurd h he, fun _ => ?_⟩
   · unfold kN; rw [if_pos he]; rfl
   · unfold numIE eN; rw [if_neg (fun h => he h.1), if_pos he]
   · unfold vN; rw [if_pos he]
theorem dkB_step (e : Nat) (l : List UInt8) {j : Nat} (h : j < 25) : (bC (dkB e l j)).toList.take j ++ [Value.int .u8 ((vN (dkE e l j) (dkL e l j) : Nat) : Int)] ++ (bC (dkB e l j)).toList.drop (j + 1) = (bC (dkB e l (j + 1))).toList := by
 obtain ⟨_, _, h1, h2⟩ := dk_step e l j
 unfold dkB
 by_cases he : e = 0
 · rw [if_pos he, if_pos he, h1 he]; exact gotA_step l h
 · rw [if_neg he, if_neg he, h2 he]
   have e0 := rowB zeros25 [0] j
   refine e0.trans ?_
   congr 2
   unfold zeros25
   rw [List.take_replicate, List.drop_replicate, show ([0] : List UInt8) = List.replicate 1 0 from rfl, List.replicate_append_replicate, List.length_replicate, List.replicate_append_replicate]
   congr 1; omega
theorem dkB_zero (e : Nat) (l : List UInt8) : dkB e l 0 = zeros25 := by
 unfold dkB
 split
 · exact gotA_zero l
 · rfl
theorem ldN_stop {s0 : LD} {k : Nat} (he : (ldN k s0).e ≠ 0) : ∀ N, k ≤ N → ldN N s0 = ldN k s0
 | 0, h => by rw [show k = 0 by omega]
 | N + 1, h => by
   by_cases hk : k = N + 1
   · rw [hk]
   · have := ldN_stop he N (by omega)
     show ldStep (ldN N s0) = _
     rw [this]
     unfold ldStep
     rw [if_neg he]
theorem ldN_len {s0 : LD} (hs : s0.evs = []) : ∀ k, (ldN k s0).evs.length ≤ k
 | 0 => by show s0.evs.length ≤ 0; rw [hs]; exact Nat.le_refl _
 | k + 1 => by
   have := ldN_len hs k
   show (ldStep (ldN k s0)).evs.length ≤ k + 1
   unfold ldStep
   split
   · rw [List.length_append]; show _ + 1 ≤ _; omega
   · omega
def evZd : Ev := ⟨0, zeros25, false, false, rfl⟩
theorem evD_dead (v : Ev) (b : Bool) : (evD v).take 26 ++ [Value.bool b] ++ (evD v).drop (26 + 1) = evD { v with dead := b } := by
 have h2 := rkR_len v.key v.lkey
 unfold evD
 rw [show 26 = 25 + 1 from rfl, List.take_succ_cons, List.take_left' h2, List.drop_succ_cons, List.drop_append, List.drop_eq_nil_of_le (by rw [h2]; decide), h2]
 simp
theorem evD_mark (v : Ev) (b : Bool) : (evD v).take 27 ++ [Value.bool b] ++ (evD v).drop (27 + 1) = evD { v with mark := b } := by
 have h2 := rkR_len v.key v.lkey
 unfold evD
 rw [show 27 = 26 + 1 from rfl, List.take_succ_cons, List.take_append, List.take_of_length_le (by rw [h2]; decide), h2, List.drop_succ_cons, List.drop_append, List.drop_eq_nil_of_le (by rw [h2]; decide), h2]
 simp
theorem evD_key (v : Ev) (k : List UInt8) (hk : k.length = 25) : RowIn (evD v) 1 (rkR k) = evD { v with key := k, lkey := hk } := by
 have h1 := rkR_len k hk
 have h2 := rkR_len v.key v.lkey
 unfold RowIn evD
 rw [h1, show 1 + 25 = 25 + 1 from rfl, List.take_succ_cons, List.take_zero, List.drop_succ_cons, List.drop_left' h2]
 rfl
theorem infoEvD : (Tryz.prog.info? 79).map (fun i => (i.zero, i.size, i.bytes)) = some (some (.agg (evD evZd).toArray), 28, 64) := by kernel_rfl
theorem evZd_sz : (Value.agg (evD evZd).toArray).cells.size = 28 := by show (evD evZd).toArray.size = 28; simp [evD_len]
theorem sizEvD : (Tryz.prog.info? 79).map (·.size) = some 28 := by kernel_rfl
theorem sizEvDs : (Tryz.prog.info? 70).map (·.size) = some 1 := by kernel_rfl
structure DbSt (w W : World) (d : RpD) (l : List UInt8) (e : Nat) (u : Value) (evs : List Ev) (g : Nat) (v : Ev) : Prop where
 s : DaSt w W d l e u
 o : OwnE evD 79 28 W (w.heap.size + 3) u evs
 ev : W.heap[g]? = some (.cells (evD v).toArray 79 (0, 0))
 hg : w.heap.size + 3 ≤ g
 ne : ∀ b, u.ownBlock = some b → b ≠ g
theorem DbSt.below {w W W' : World} {d : RpD} {l : List UInt8} {e : Nat} {u : Value} {evs : List Ev} {g : Nat} {v : Ev} (h : DbSt w W d l e u evs g v) (hb : Below W.heap.size W W') : DbSt w W' d l e u evs g v :=
 ⟨h.s.below hb, h.o.below hb, (hb.block _ (lt_heap h.ev)).trans h.ev, h.hg, h.ne⟩
theorem DbSt.start {w W : World} {d : RpD} {l : List UInt8} {e : Nat} {u : Value} {evs : List Ev} (h : DaSt w W d l e u) (ho : OwnE evD 79 28 W (w.heap.size + 3) u evs) : DbSt w (W.alloc (.cells (evD evZd).toArray 79)) d l e u evs W.heap.size evZd :=
 ⟨h.below (below_alloc1 _ _), ho.below (below_alloc1 _ _), heap_alloc_new _ _, by have := lt_heap h.r_; omega, fun b e => by have := (ho.lt b e).2; omega⟩
theorem DbSt.setIn {w W W' : World} {d : RpD} {l l' : List UInt8} {e e' : Nat} {u : Value} {evs : List Ev} {g : Nat} {v : Ev} {q : Option Addr} {n c : Nat} (h : DbSt w W d l e u evs g v) (hd : W'.heap[w.heap.size + 1]? = some (.cells #[.slice q n c, .int .i64 (e' : Int)] 103 (0, 0))) (ht : Turn [w.heap.size + 1] W W') (hr : RdOk w q n c l') : DbSt w W' d l' e' u evs g v :=
 ⟨h.s.setIn hd ht hr, h.o.block fun b e => ht.block b (h.o.lt b e).2 (by have := (h.o.lt b e).1; simp; omega), (ht.block _ (lt_heap h.ev) (by have := h.hg; simp; omega)).trans h.ev, h.hg, h.ne⟩
theorem DbSt.setV {w W W' : World} {d : RpD} {l : List UInt8} {e : Nat} {u : Value} {evs : List Ev} {g : Nat} {v v' : Ev} (h : DbSt w W d l e u evs g v) (hd : W'.heap[g]? = some (.cells (evD v').toArray 79 (0, 0))) (ht : Turn [g] W W') : DbSt w W' d l e u evs g v' :=
 ⟨h.s.high (ht.below (fun k hk => by simp at hk; have := h.hg; omega) (by have := lt_heap h.ev; have := h.hg; omega)), h.o.block fun b e => ht.block b (h.o.lt b e).2 (by have := h.ne b e; simpa using this), hd, h.hg, h.ne⟩
theorem DbSt.setA {w W W' : World} {d : RpD} {l : List UInt8} {e : Nat} {u : Value} {evs : List Ev} {g g2 : Nat} {v : Ev} (h : DbSt w W d l e u evs g v) (ht : Turn [g2] W W') (hg : g < g2) (hne : ∀ b, u.ownBlock = some b → b ≠ g2) : DbSt w W' d l e u evs g v :=
 ⟨h.s.high (ht.below (fun k hk => by simp at hk; have := h.hg; omega) (by have := lt_heap h.ev; have := h.hg; omega)), h.o.block fun b e => ht.block b (h.o.lt b e).2 (by have := hne b e; simpa using this), (ht.block _ (lt_heap h.ev) (by simp; omega)).trans h.ev, h.hg, h.ne⟩
structure DcSt (w W : World) (d : RpD) (l : List UInt8) (e : Nat) (u : Value) (evs : List Ev) (g : Nat) (v : Ev) (g2 : Nat) (bs : List UInt8) : Prop where
 b : DbSt w W d l e u evs g v
 a : W.heap[g2]? = some (.cells (bC bs) 108 (0, 0))
 hg : g < g2
 ne : ∀ b, u.ownBlock = some b → b ≠ g2
theorem DcSt.below {w W W' : World} {d : RpD} {l : List UInt8} {e : Nat} {u : Value} {evs : List Ev} {g g2 : Nat} {v : Ev} {bs : List UInt8} (h : DcSt w W d l e u evs g v g2 bs) (hb : Below W.heap.size W W') : DcSt w W' d l e u evs g v g2 bs :=
 ⟨h.b.below hb, (hb.block _ (lt_heap h.a)).trans h.a, h.hg, h.ne⟩
theorem DcSt.start {w W : World} {d : RpD} {l : List UInt8} {e : Nat} {u : Value} {evs : List Ev} {g : Nat} {v : Ev} (h : DbSt w W d l e u evs g v) : DcSt w (W.alloc (.cells (bC zeros25) 108)) d l e u evs g v W.heap.size zeros25 :=
 ⟨h.below (below_alloc1 _ _), heap_alloc_new _ _, lt_heap h.ev, fun b e => by have := (h.o.lt b e).2; omega⟩
theorem DcSt.setIn {w W W' : World} {d : RpD} {l l' : List UInt8} {e e' : Nat} {u : Value} {evs : List Ev} {g g2 : Nat} {v : Ev} {bs : List UInt8} {q : Option Addr} {n c : Nat} (h : DcSt w W d l e u evs g v g2 bs) (hd : W'.heap[w.heap.size + 1]? = some (.cells #[.slice q n c, .int .i64 (e' : Int)] 103 (0, 0))) (ht : Turn [w.heap.size + 1] W W') (hr : RdOk w q n c l') : DcSt w W' d l' e' u evs g v g2 bs :=
 ⟨h.b.setIn hd ht hr, (ht.block _ (lt_heap h.a) (by have := h.b.hg; have := h.hg; simp; omega)).trans h.a, h.hg, h.ne⟩
theorem DcSt.setA {w W W' : World} {d : RpD} {l : List UInt8} {e : Nat} {u : Value} {evs : List Ev} {g g2 : Nat} {v : Ev} {bs bs' : List UInt8} (h : DcSt w W d l e u evs g v g2 bs) (hd : W'.heap[g2]? = some (.cells (bC bs') 108 (0, 0))) (ht : Turn [g2] W W') : DcSt w W' d l e u evs g v g2 bs' :=
 ⟨h.b.setA ht h.hg h.ne, hd, h.hg, h.ne⟩
theorem evD_keyR {w : World} {b : Nat} {v : Ev} (h : w.rangeAt b 0 (evD v)) : w.rangeAt b 1 (rkR v.key) := by
 have e : evD v = [.int .u64 v.at_] ++ (rkR v.key ++ [.bool v.dead, .bool v.mark]) := rfl
 rw [e] at h
 have := range_app_left (range_app_right h 1 rfl)
 rwa [Nat.zero_add] at this
end Go.Proofs.YtbfefdedjcppaaaGreatDoor
