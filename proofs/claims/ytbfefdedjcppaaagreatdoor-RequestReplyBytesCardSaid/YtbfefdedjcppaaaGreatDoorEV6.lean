/- request.fields.event: an event read. -/
import Derived.Test.YtbfefdedjcppaaaGreatDoorEK6
import Derived.Deep.DeepCutAuto
import Derived.Deep.CutBlock
namespace Go.Proofs.YtbfefdedjcppaaaGreatDoor
set_option maxRecDepth 100000
set_option maxHeartbeats 8000000
open Go.RowKit Go.Deep
def evZ : Ev := ⟨0, z25, false, false, rfl⟩
theorem turn_row (W : World) (b : Nat) (cs : Array Value) : Turn [b] W (W.setRow b cs) := ⟨rfl, rfl, rfl, by simp, fun k _ hr => setRow_other _ _ _ _ (by simpa using hr)⟩
structure ES where
 v : Ev
 l : List UInt8
 er : Nat
 ef : Nat
def ES.fs (x : ES) : FS := ⟨evC x.v, x.l, x.er, x.ef⟩
theorem rdK_len (k : List UInt8) (h : k.length = 25) : (rdK k).length = 25 := by
 unfold rdK
 split
 · exact h
 · rfl
def eAt (x : ES) : ES := if x.ef = 0 then ⟨{ x.v with at_ := (numV 18446744073709551615 x.l : Nat) }, x.l.drop (numK 18446744073709551615 x.l), numE 18446744073709551615 x.l, numE 18446744073709551615 x.l⟩ else x
def eKey (x : ES) : ES := if x.ef = 0 then ⟨{ x.v with key := rdK (gotB x.l 25), lkey := rdK_len _ (gotB_len _ _) }, x.l.drop 25, endE x.l 25, if endE x.l 25 = 0 then rdKe (gotB x.l 25) else endE x.l 25⟩ else x
def eK0 (l : List UInt8) : FS := sNum 0 0 2 3 ⟨[.int .i64 0], l, 0, 0⟩
def eV0 (l : List UInt8) : Ev := ⟨0, z25, byteV l == 1, byteV l == 2, rfl⟩
def evR (l : List UInt8) : ES := if byteV l = 2 then eAt ⟨eV0 l, (eK0 l).l, (eK0 l).er, (eK0 l).ef⟩ else eKey (eAt ⟨eV0 l, (eK0 l).l, (eK0 l).er, (eK0 l).ef⟩)
theorem evC_at (v : Ev) (n : Int) : RowIn (evC v) 0 [.int .u64 n] = evC { v with at_ := n } := rfl
theorem evC_key (v : Ev) (k : List UInt8) (hk : k.length = 25) : RowIn (evC v) 1 (bC k).toList = evC { v with key := k, lkey := hk } := by
 have h1 : (bC k).toList.length = 25 := by simp [bC, hk]
 have h2 : (bC v.key).toList.length = 25 := by simp [bC, v.lkey]
 unfold RowIn evC
 rw [h1, show 1 + 25 = 25 + 1 from rfl, List.take_succ_cons, List.take_zero, List.drop_succ_cons, List.drop_left' h2]
 rfl
theorem evC_dead (v : Ev) (b : Bool) : (evC v).take 26 ++ [Value.bool b] ++ (evC v).drop (26 + 1) = evC { v with dead := b } := by
 have h2 : (bC v.key).toList.length = 25 := by simp [bC, v.lkey]
 unfold evC
 rw [show 26 = 25 + 1 from rfl, List.take_succ_cons, List.take_left' h2, List.drop_succ_cons, List.drop_append, List.drop_eq_nil_of_le (by rw [h2]; decide), h2]
 simp
theorem evC_mark (v : Ev) (b : Bool) : (evC v).take 27 ++ [Value.bool b] ++ (evC v).drop (27 + 1) = evC { v with mark := b } := by
 have h2 : (bC v.key).toList.length = 25 := by simp [bC, v.lkey]
 unfold evC
 rw [show 27 = 26 + 1 from rfl, List.take_succ_cons, List.take_append, List.take_of_length_le (by rw [h2]; decide), h2, List.drop_succ_cons, List.drop_append, List.drop_eq_nil_of_le (by rw [h2]; decide), h2]
 simp
theorem eat_any (br bf bt b4 : Nat) (T : TypeId) (x : ES) (w : World) (h : StF w br bf bt T x.fs) (hb : BoxIs w b4 (.pointer (some ⟨bf, 0, none⟩)) 84) (hbt : br < bt ∧ bt ≠ bf) :
   Calls Tryz.prog 26 #[.pointer (some ⟨bf, 0, none⟩), .func (.func 99) #[] #[.pointer (some ⟨b4, 0, none⟩), .pointer (some ⟨bt, 0, none⟩)]] w (Stepped br bf bt T (eAt x).fs w) := by
 unfold eAt
 by_cases he : x.ef = 0
 · rw [if_pos he]
   have hf : FAt w br bf x.l x.er x.ef := h.fa
   rw [he, show x.er = 0 from h.ok he] at hf
   refine (ftake_any 99 #[.pointer (some ⟨b4, 0, none⟩), .pointer (some ⟨bt, 0, none⟩)] (enters_of Tryz.func99 (by kernel_rfl) rfl) br bf x.l _ _ _ [br, bf, bt] _ w hf (by simp)
     (fun W v hW => by rw [heap_setCell_other _ hbt.2]; exact hW) (eat1_any br bf bt b4 (evC x.v) T x.l w hf hb h.at_ (by rw [evC_len]; decide) hbt)).mono fun e w' ⟨h1, h2, h3, h4⟩ => ⟨h1, ⟨?_, ?_, fun h0 => h0⟩, h3⟩
   · rwa [show (if numE 18446744073709551615 x.l = 0 then 0 else numE 18446744073709551615 x.l) = numE 18446744073709551615 x.l by split <;> omega] at h2
   · rw [evC_at] at h4; exact h4
 · rw [if_neg he]
   exact (ftake_bad _ br bf x.l x.er x.ef w h.fa he).mono fun e w' ⟨h1, h2⟩ => by subst h2; exact ⟨h1, h, Turn.refl _ _⟩
theorem ekey_any (br bf bt b4 : Nat) (T : TypeId) (x : ES) (w : World) (h : StF w br bf bt T x.fs) (hb : BoxIs w b4 (.pointer (some ⟨bf, 0, none⟩)) 84) (hbt : br < bt ∧ bt ≠ bf) (hb4 : br < b4) (hmx : MX w) (hg : 0 < br) :
   Calls Tryz.prog 26 #[.pointer (some ⟨bf, 0, none⟩), .func (.func 100) #[] #[.pointer (some ⟨b4, 0, none⟩), .pointer (some ⟨bt, 0, none⟩)]] w (Stepped br bf bt T (eKey x).fs w) := by
 unfold eKey
 by_cases he : x.ef = 0
 · rw [if_pos he]
   have hf : FAt w br bf x.l x.er x.ef := h.fa
   rw [he, show x.er = 0 from h.ok he] at hf
   refine (ftake_any 100 #[.pointer (some ⟨b4, 0, none⟩), .pointer (some ⟨bt, 0, none⟩)] (enters_of Tryz.func100 (by kernel_rfl) rfl) br bf x.l _ _ _ [br, bf, bt] _ w hf (by simp)
     (fun W v hW => by rw [heap_setCell_other _ hbt.2]; exact hW) (ekey1_any br bf bt b4 (evC x.v) T x.l w hf hb h.at_ (by rw [evC_len]; decide) hbt hb4 hmx hg)).mono fun e w' ⟨h1, h2, h3, h4⟩ => ⟨h1, ⟨h2, ?_, fun h0 => ?_⟩, h3⟩
   · rw [evC_key _ _ (rdK_len _ (gotB_len _ _))] at h4; exact h4
   · by_cases h5 : endE x.l 25 = 0
     · exact h5
     · have h6 : (if endE x.l 25 = 0 then rdKe (gotB x.l 25) else endE x.l 25) = 0 := h0
       rw [if_neg h5] at h6; exact absurd h6 h5
 · rw [if_neg he]
   exact (ftake_bad _ br bf x.l x.er x.ef w h.fa he).mono fun e w' ⟨h1, h2⟩ => by subst h2; exact ⟨h1, h, Turn.refl _ _⟩
structure EvSt (w W : World) (br bf : Nat) (kd : Int) (x : ES) : Prop where
 fa : FAt W br bf x.l x.er x.ef
 ok : x.ef = 0 → x.er = 0
 bx : BoxIs W w.heap.size (.pointer (some ⟨bf, 0, none⟩)) 84
 rs : W.heap[w.heap.size + 1]? = some (.cells (evC evZ).toArray 62 (0, 0))
 v_ : W.heap[w.heap.size + 2]? = some (.cells (evC x.v).toArray 62 (0, 0))
 k_ : W.heap[w.heap.size + 3]? = some (.cells #[.int .i64 kd] 3 (0, 0))
 tn : Turn [br, bf] w W
 mx : MX W
 ne : br < bf ∧ bf < w.heap.size ∧ 0 < br
theorem EvSt.blk {w W W' : World} {br bf j : Nat} {kd : Int} {x : ES} (h : EvSt w W br bf kd x) (ht : Turn [br, bf, w.heap.size + j] W W') (k : Nat) (hk : k < W.heap.size) (h1 : w.heap.size ≤ k) (h2 : k ≠ w.heap.size + j) : W'.heap[k]? = W.heap[k]? := by
 have := h.ne
 exact ht.block k hk (by simp; omega)
theorem EvSt.turn {w W W' : World} {br bf j : Nat} {kd : Int} {x : ES} (h : EvSt w W br bf kd x) (ht : Turn [br, bf, w.heap.size + j] W W') : Turn [br, bf] w W' ∧ MX W' := by
 have hn := h.ne
 have hs := h.tn.size
 refine ⟨⟨ht.os.trans h.tn.os, ht.tape.trans h.tn.tape, ht.output.trans h.tn.output, Nat.le_trans hs ht.size, fun k hk hm => ?_⟩, h.mx.turn ht (fun k hk => by simp at hk; omega)⟩
 simp only [List.mem_cons, List.not_mem_nil, or_false, not_or] at hm
 exact (ht.block k (by omega) (by simp; omega)).trans (h.tn.block k hk (by simp; exact hm))
theorem EvSt.kind {w W W' : World} {br bf : Nat} {kd : Int} {x : ES} {e : Ending} {y : FS} {n : Int} (h : EvSt w W br bf kd x) (hR : Stepped br bf (w.heap.size + 3) 3 y W e W') (hy : y.cs = [.int .i64 n]) : EvSt w W' br bf n ⟨x.v, y.l, y.er, y.ef⟩ := by
 obtain ⟨_, hs, ht⟩ := hR
 have hb := h.blk ht
 obtain ⟨t1, t2⟩ := h.turn ht
 have hk := hs.at_
 rw [hy] at hk
 exact ⟨hs.fa, hs.ok, (hb _ (lt_heap h.bx) (Nat.le_refl _) (by omega)).trans h.bx, (hb _ (lt_heap h.rs) (by omega) (by omega)).trans h.rs, (hb _ (lt_heap h.v_) (by omega) (by omega)).trans h.v_, hk, t1, t2, h.ne⟩
theorem EvSt.step {w W W' : World} {br bf : Nat} {kd : Int} {x y : ES} {e : Ending} (h : EvSt w W br bf kd x) (hR : Stepped br bf (w.heap.size + 2) 62 y.fs W e W') : EvSt w W' br bf kd y := by
 obtain ⟨_, hs, ht⟩ := hR
 have hb := h.blk ht
 obtain ⟨t1, t2⟩ := h.turn ht
 exact ⟨hs.fa, hs.ok, (hb _ (lt_heap h.bx) (Nat.le_refl _) (by omega)).trans h.bx, (hb _ (lt_heap h.rs) (by omega) (by omega)).trans h.rs, hs.at_, (hb _ (lt_heap h.k_) (by omega) (by omega)).trans h.k_, t1, t2, h.ne⟩
theorem EvSt.set {w W W' : World} {br bf : Nat} {kd : Int} {x : ES} {u : Ev} (h : EvSt w W br bf kd x) (h1 : W'.heap[w.heap.size + 2]? = some (.cells (evC u).toArray 62 (0, 0))) (h2 : Turn [w.heap.size + 2] W W') : EvSt w W' br bf kd { x with v := u } := by
 have ht : Turn [br, bf, w.heap.size + 2] W W' := h2.mono (fun k _ hk => by simp at hk; simp [hk])
 have hb := h.blk ht
 obtain ⟨t1, t2⟩ := h.turn ht
 have hn := h.ne
 exact ⟨h.fa.turn h2 (fun k hk => by simp at hk; omega), h.ok, (hb _ (lt_heap h.bx) (Nat.le_refl _) (by omega)).trans h.bx, (hb _ (lt_heap h.rs) (by omega) (by omega)).trans h.rs, h1, (hb _ (lt_heap h.k_) (by omega) (by omega)).trans h.k_, t1, t2, h.ne⟩
theorem EvSt.drew {w W : World} {br bf : Nat} {kd : Int} {x : ES} (h : EvSt w W br bf kd x) : EvSt w W.drew br bf kd x :=
 ⟨h.fa.below ⟨rfl, rfl, rfl, Nat.le_refl _, fun _ _ => rfl⟩, h.ok, h.bx, h.rs, h.v_, h.k_, ⟨h.tn.os, h.tn.tape, h.tn.output, h.tn.size, h.tn.block⟩, h.mx.below ⟨rfl, rfl, rfl, Nat.le_refl _, fun _ _ => rfl⟩, h.ne⟩
theorem exec_eqIc {P : Program} {o : Oper} {a : Act} {w : World} (T : TypeId) (x : Operand) (c : Int) (ho : o.op = .binOp .eql T x (.const (.int .i64 c)) T) (k : Int) (hx : a.eval x = .int .i64 k) : (execOp a.eval o).run P w = .ok (.value (.bool (k == c))) w := by
 unfold execOp
 simp only [ho, hx]
 simp [go_sem, Act.eval]
theorem exec_fEv {o : Oper} {a : Act} {w : World} (x : Operand) (n k : Nat) (hk : (n = 2 ∧ k = 26) ∨ (n = 3 ∧ k = 27)) (ho : o.op = .fieldAddr 62 x n) (b f : Nat) (hx : a.eval x = .pointer (some ⟨b, f, none⟩)) : (execOp a.eval o).run Tryz.prog w = .ok (.value (.pointer (some ⟨b, f + k, none⟩))) w := by
 rcases hk with ⟨rfl, rfl⟩ | ⟨rfl, rfl⟩ <;>
 · unfold execOp
   simp only [ho, hx]
   simp [go_sem]
theorem siz4b : (Tryz.prog.info? 4).map (·.size) = some 1 := by kernel_rfl
theorem EvSt.start {w : World} {br bf : Nat} {l : List UInt8} (h : FAt w br bf l 0 0) (hmx : MX w) (hg : 0 < br) : EvSt w ((((w.alloc (.cells #[.pointer (some ⟨bf, 0, none⟩)] 84)).alloc (.cells (evC evZ).toArray 62)).alloc (.cells (evC evZ).toArray 62)).alloc (.cells #[.int .i64 0] 3)) br bf 0 ⟨evZ, l, 0, 0⟩ := by
 have e1 := heap_alloc2_old w (.cells #[.pointer (some ⟨bf, 0, none⟩)] 84) (.cells (evC evZ).toArray 62)
 have e2 := heap_alloc2_new w (.cells #[.pointer (some ⟨bf, 0, none⟩)] 84) (.cells (evC evZ).toArray 62)
 have e0 := below_alloc2 w (.cells #[.pointer (some ⟨bf, 0, none⟩)] 84) (.cells (evC evZ).toArray 62)
 have es : ((w.alloc (.cells #[.pointer (some ⟨bf, 0, none⟩)] 84)).alloc (.cells (evC evZ).toArray 62)).heap.size = w.heap.size + 2 := by simp
 generalize (w.alloc (.cells #[.pointer (some ⟨bf, 0, none⟩)] 84)).alloc (.cells (evC evZ).toArray 62) = V at *
 have hB := (e0.alloc (by omega) (.cells (evC evZ).toArray 62)).alloc (by simp; omega) (.cells #[.int .i64 0] 3)
 refine ⟨h.below hB, fun _ => rfl, ?_, ?_, ?_, ?_, Turn.of_below hB, hmx.below hB, ⟨h.lt, lt_heap h.at_, hg⟩⟩
 · show _ = _
   rw [heap_alloc_old _ _ (by simp; omega), heap_alloc_old _ _ (by omega)]; exact e1
 · rw [heap_alloc_old _ _ (by simp; omega), heap_alloc_old _ _ (by omega)]; exact e2
 · rw [heap_alloc_old _ _ (by simp; omega), ← es]; exact heap_alloc_new _ _
 · have := heap_alloc_new (V.alloc (.cells (evC evZ).toArray 62)) (.cells #[.int .i64 0] 3)
   rwa [World.size_alloc, es] at this
theorem evC_markC (v : Ev) : (evC v)[27]? = some (.bool v.mark) := by
 have h2 : (bC v.key).toList.length = 25 := by simp [bC, v.lkey]
 unfold evC
 rw [List.getElem?_cons_succ, List.getElem?_append_right (by rw [h2]; decide), h2]
 rfl
def EvP (br bf : Nat) (l : List UInt8) (w : World) (e : Ending) (w' : World) : Prop := e = .returned (.agg (evC (evR l).v).toArray) ∧ FAt w' br bf (evR l).l (evR l).er (evR l).ef ∧ ((evR l).ef = 0 → (evR l).er = 0) ∧ Turn [br, bf] w w'
theorem event_any (br bf : Nat) (l : List UInt8) (w : World) (h : FAt w br bf l 0 0) (hmx : MX w) (hg : 0 < br) : Calls Tryz.prog 52 #[.pointer (some ⟨bf, 0, none⟩)] w (EvP br bf l w) := by
 have HS0 := Lib.hid (EvSt.start h hmx hg)
 have HN : Hid (br < bf ∧ bf < w.heap.size) := ⟨h.lt, lt_heap h.at_⟩
 have HEV : Hid (evR l = if byteV l = 2 then eAt ⟨eV0 l, (eK0 l).l, (eK0 l).er, (eK0 l).ef⟩ else eKey (eAt ⟨eV0 l, (eK0 l).l, (eK0 l).er, (eK0 l).ef⟩)) := rfl
 clear h hmx hg
 go_enter Tryz.func52, Tryz.ntmps52
 go_upto_region 3 with fail
 rw [show (Obj.cells #[Value.int .u64 0, .int .u8 0, .int .u8 0, .int .u8 0, .int .u8 0, .int .u8 0, .int .u8 0, .int .u8 0, .int .u8 0, .int .u8 0, .int .u8 0, .int .u8 0, .int .u8 0, .int .u8 0, .int .u8 0, .int .u8 0, .int .u8 0, .int .u8 0, .int .u8 0, .int .u8 0, .int .u8 0, .int .u8 0, .int .u8 0, .int .u8 0, .int .u8 0, .int .u8 0, Value.bool false, Value.bool false] 62) = Obj.cells (evC evZ).toArray 62 from rfl]
 simp only [Nat.add_assoc, Nat.reduceAdd]
 generalize ((((w.alloc (.cells #[.pointer (some ⟨bf, 0, none⟩)] 84)).alloc (.cells (evC evZ).toArray 62)).alloc (.cells (evC evZ).toArray 62)).alloc (.cells #[.int .i64 0] 3)) = W1 at *
 have hbx := (cell1 HS0.out.bx).1
 have KN := Lib.hid (snum_any br bf (w.heap.size + 3) 0 0 2 3 3 ⟨[.int .i64 0], l, 0, 0⟩ W1 ⟨HS0.out.fa, HS0.out.k_, fun _ => rfl⟩ (by show 0 + 1 ≤ 1; omega) (by have := HN.out; omega))
 go_upto_region 4 with (go_at_call 23; (refine KN.out.mono ?_); rintro e w2 hR; have HS1 := Lib.hid (HS0.out.kind (n := (byteV l : Nat)) hR rfl); obtain ⟨rfl, _, _⟩ := hR)
 clear KN hbx
 have HS1' : Hid (EvSt w w2 br bf ((byteV l : Nat) : Int) ⟨evZ, (eK0 l).l, (eK0 l).er, (eK0 l).ef⟩) := HS1.out
 have HV0 : Hid (eV0 l = ⟨0, z25, byteV l == 1, byteV l == 2, rfl⟩) := rfl
 clear HS1 HS0
 generalize byteV l = kd at *
 generalize (eK0 l).l = l1 at *
 generalize (eK0 l).er = er1 at *
 generalize (eK0 l).ef = ef1 at *
 go_cut [] (fun wx => Hid (EvSt w wx br bf (kd : Int) ⟨eV0 l, l1, er1, ef1⟩))
 case first => as_aux_lemma =>
   have hS0 : w2.drew.heap[w.heap.size + 3]? = some (.cells #[.int .i64 (kd : Int)] 3 (0, 0)) := HS1'.out.k_
   refine wp_region_held_drew (S := fun W => W.heap[w.heap.size + 3]? = some (.cells #[.int .i64 (kd : Int)] 3 (0, 0))) (by kernel_rfl) hS0 (fun hH => ?_)
   show wpAnyH Tryz.prog Region.Mode.any _ _ _ 8 #[false, false, false, false, false, false, false, false] _ _
   refine takeR (i := 0) (v := .int .i64 (kd : Int)) 7 rfl rfl (by kernel_rfl) (by kernel_rfl) (by kernel_rfl) (fun _ _ _ h => h) (Or.inl ⟨rfl, fun w' hS => exec_ld1G 3 ag3 _ rfl (w.heap.size + 3) 0 _ rfl (cell1 hS).1⟩) hH ?_
   simp only [Act.put, wrT]
   refine takeR (i := 1) (v := .bool ((kd : Int) == 1)) 8 rfl rfl (by kernel_rfl) (by kernel_rfl) (by kernel_rfl) (fun _ _ _ h => h) (Or.inl ⟨rfl, fun w' hS => exec_eqIc 3 (.tmp 7) 1 rfl (kd : Int) rfl⟩) hH ?_
   simp only [Act.put, wrT]
   refine takeR (i := 2) (v := .int .i64 (kd : Int)) 9 rfl rfl (by kernel_rfl) (by kernel_rfl) (by kernel_rfl) (fun _ _ _ h => h) (Or.inl ⟨rfl, fun w' hS => exec_ld1G 3 ag3 _ rfl (w.heap.size + 3) 0 _ rfl (cell1 hS).1⟩) hH ?_
   simp only [Act.put, wrT]
   refine takeR (i := 3) (v := .bool ((kd : Int) == 2)) 10 rfl rfl (by kernel_rfl) (by kernel_rfl) (by kernel_rfl) (fun _ _ _ h => h) (Or.inl ⟨rfl, fun w' hS => exec_eqIc 3 (.tmp 9) 2 rfl (kd : Int) rfl⟩) hH ?_
   simp only [Act.put, wrT]
   refine takeR (i := 4) (v := .pointer (some ⟨w.heap.size + 2, 26, none⟩)) 11 rfl rfl (by kernel_rfl) (by kernel_rfl) (by kernel_rfl) (fun _ _ _ h => h) (Or.inl ⟨rfl, fun w' hS => exec_fEv (.tmp 3) 2 26 (by simp) rfl (w.heap.size + 2) 0 rfl⟩) hH ?_
   simp only [Act.put, wrT]
   have HD := Lib.hid HS1'.out.drew
   have e1 : ((kd : Int) == 1) = (kd == 1) := by rw [Bool.eq_iff_iff]; simp; omega
   have e2 : ((kd : Int) == 2) = (kd == 2) := by rw [Bool.eq_iff_iff]; simp; omega
   refine oneH 5 (by kernel_rfl) (wpOp_skip rfl rfl (exec_st1G 4 siz4b (.tmp 11) (.tmp 8) rfl (w.heap.size + 2) 26 (.bool ((kd : Int) == 1)) rfl rfl rfl (evC evZ) 62 HD.out.v_ (by rw [evC_len]; decide)) ?_)
   rw [evC_dead]
   have HD1 := Lib.hid (HD.out.set (u := ({ evZ with dead := ((kd : Int) == 1) } : Ev)) (setRow_at HD.out.v_) (turn_row _ _ _))
   refine ⟨HD1.out.k_, ?_⟩
   try simp only [Act.put, rdT, wrT]
   refine takeR (i := 6) (v := .pointer (some ⟨w.heap.size + 2, 27, none⟩)) 12 rfl rfl (by kernel_rfl) (by kernel_rfl) (by kernel_rfl) (fun _ _ _ h => h) (Or.inl ⟨rfl, fun w' hS => exec_fEv (.tmp 3) 3 27 (by simp) rfl (w.heap.size + 2) 0 rfl⟩) HD1.out.k_ ?_
   try simp only [Act.put, rdT, wrT]
   refine oneH 7 (by kernel_rfl) (wpOp_skip rfl rfl (exec_st1G 4 siz4b (.tmp 12) (.tmp 10) rfl (w.heap.size + 2) 27 (.bool ((kd : Int) == 2)) rfl rfl rfl (evC ({ evZ with dead := ((kd : Int) == 1) } : Ev)) 62 HD1.out.v_ (by rw [evC_len]; decide)) ?_)
   rw [evC_mark]
   have HD2 := Lib.hid (HD1.out.set (u := ({ ({ evZ with dead := ((kd : Int) == 1) } : Ev) with mark := ((kd : Int) == 2) } : Ev)) (setRow_at HD1.out.v_) (turn_row _ _ _))
   refine ⟨HD2.out.k_, ?_⟩
   try simp only [Act.put, rdT, wrT]
   refine wpAnyH_done (by kernel_rfl) ?_ _
   try simp only [Act.put, rdT, wrT]
   go_wp2_with fail
   go_meet
   case rel => rw [HV0.out, ← e1, ← e2]; exact HD2
 case rest =>
 have HS2 : Hid (EvSt w wc br bf (kd : Int) ⟨eV0 l, l1, er1, ef1⟩) := hcut
 clear hcut HS1'
 generalize wc = W3 at *
 have hbx := (cell1 HS2.out.bx).1
 have KA := Lib.hid (eat_any br bf (w.heap.size + 2) w.heap.size 62 ⟨eV0 l, l1, er1, ef1⟩ W3 ⟨HS2.out.fa, HS2.out.v_, HS2.out.ok⟩ HS2.out.bx (by have := HN.out; omega))
 have HM : Hid ((eAt ⟨eV0 l, l1, er1, ef1⟩).v.mark = (kd == 2)) := by
   show _ = _
   unfold eAt
   split
   · rw [HV0.out]
   · rw [HV0.out]
 clear HV0
 generalize eV0 l = v0 at *
 generalize eAt ⟨v0, l1, er1, ef1⟩ = x2 at *
 by_cases hk : kd = 2
 · have hmk : x2.v.mark = true := by rw [HM.out]; simp [hk]
   rw [if_pos hk] at HEV
   clear HM
   go_wp2_with (first
     | (go_at_call 26; (refine KA.out.mono ?_); rintro e w4 hR; have HS3 := Lib.hid (HS2.out.step hR); obtain ⟨rfl, _, _⟩ := hR; have hcm : w4.cell? ⟨w.heap.size + 2, 27, none⟩ = some (.bool true) := (by rw [cell_blk HS3.out.v_, List.getElem?_toArray, evC_markC, hmk]))
     | ((with_reducible refine gate_ld 62 _ rfl ?_); refine wl_ldr rfl 62 _ rfl (w.heap.size + 2) 0 (evC x2.v) _ Tryz.underlying62 rfl (by rw [sizEv, evC_len]) rfl (range_whole HS3.out.v_) ?_)
     | ((with_reducible refine gate_st 62 _ _ rfl ?_); refine wl_strG rfl 62 _ _ rfl (w.heap.size + 1) (evC x2.v).toArray (evC evZ).toArray 62 (by rw [sizEv, List.size_toArray, evC_len]) (by rw [List.size_toArray, List.size_toArray, evC_len, evC_len]) (by rw [← Array.all_toList]; exact evC_one _) rfl rfl HS3.out.rs (fun w5 h1 h2 => ?_); have HR5 := Lib.hid h1; have HT5 := Lib.hid h2; clear h1 h2; try simp only [Act.put]))
   refine bodyPost_ret (res_rowc (P := Tryz.prog) (T := 62) (T' := 62) rfl _ _ (w.heap.size + 1) (evC x2.v).toArray (0, 0) rfl HR5.out Tryz.underlying62 rfl (by rw [sizEv, List.size_toArray, evC_len])) rfl ?_
   have hn := HN.out
   unfold EvP
   rw [HEV.out]
   refine ⟨rfl, HS3.out.fa.turn HT5.out (fun k hk => by simp at hk; omega), HS3.out.ok, ⟨HT5.out.os.trans HS3.out.tn.os, HT5.out.tape.trans HS3.out.tn.tape, HT5.out.output.trans HS3.out.tn.output, Nat.le_trans HS3.out.tn.size HT5.out.size, fun k hk hm => ?_⟩⟩
   have hs := HS3.out.tn.size
   exact (HT5.out.block k (by omega) (by simp; omega)).trans (HS3.out.tn.block k hk hm)
 · have hmk : x2.v.mark = false := by rw [HM.out]; simp [hk]
   rw [if_neg hk] at HEV
   clear HM
   go_upto_region 8 with (first
     | (go_at_call 26; (refine KA.out.mono ?_); rintro e w4 hR; have HS3 := Lib.hid (HS2.out.step hR); obtain ⟨rfl, _, _⟩ := hR; have hcm : w4.cell? ⟨w.heap.size + 2, 27, none⟩ = some (.bool false) := (by rw [cell_blk HS3.out.v_, List.getElem?_toArray, evC_markC, hmk])))
   have hbx := (cell1 HS3.out.bx).1
   have KK := Lib.hid (ekey_any br bf (w.heap.size + 2) w.heap.size 62 x2 w4 ⟨HS3.out.fa, HS3.out.v_, HS3.out.ok⟩ HS3.out.bx (by have := HN.out; omega) (by have := HN.out; omega) HS3.out.mx HS3.out.ne.2.2)
   clear hcm hmk KA HS2
   generalize eKey x2 = x3 at *
   go_wp2_with (first
     | (go_at_call 26; (refine KK.out.mono ?_); rintro e w6 hR; have HS4 := Lib.hid (HS3.out.step hR); obtain ⟨rfl, _, _⟩ := hR)
     | ((with_reducible refine gate_ld 62 _ rfl ?_); refine wl_ldr rfl 62 _ rfl (w.heap.size + 2) 0 (evC x3.v) _ Tryz.underlying62 rfl (by rw [sizEv, evC_len]) rfl (range_whole HS4.out.v_) ?_)
     | ((with_reducible refine gate_st 62 _ _ rfl ?_); refine wl_strG rfl 62 _ _ rfl (w.heap.size + 1) (evC x3.v).toArray (evC evZ).toArray 62 (by rw [sizEv, List.size_toArray, evC_len]) (by rw [List.size_toArray, List.size_toArray, evC_len, evC_len]) (by rw [← Array.all_toList]; exact evC_one _) rfl rfl HS4.out.rs (fun w5 h1 h2 => ?_); have HR5 := Lib.hid h1; have HT5 := Lib.hid h2; clear h1 h2; try simp only [Act.put]))
   refine bodyPost_ret (res_rowc (P := Tryz.prog) (T := 62) (T' := 62) rfl _ _ (w.heap.size + 1) (evC x3.v).toArray (0, 0) rfl HR5.out Tryz.underlying62 rfl (by rw [sizEv, List.size_toArray, evC_len])) rfl ?_
   have hn := HN.out
   unfold EvP
   rw [HEV.out]
   refine ⟨rfl, HS4.out.fa.turn HT5.out (fun k hk => by simp at hk; omega), HS4.out.ok, ⟨HT5.out.os.trans HS4.out.tn.os, HT5.out.tape.trans HS4.out.tn.tape, HT5.out.output.trans HS4.out.tn.output, Nat.le_trans HS4.out.tn.size HT5.out.size, fun k hk hm => ?_⟩⟩
   have hs := HS4.out.tn.size
   exact (HT5.out.block k (by omega) (by simp; omega)).trans (HS4.out.tn.block k hk hm)
end Go.Proofs.YtbfefdedjcppaaaGreatDoor
