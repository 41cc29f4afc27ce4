/- Texts joined: GX. -/
import Derived.Test.YtbfefdedjcppaaaGreatDoorRows
import Derived.WalkKit
import Derived.Deep.CutBlock
import Derived.WalkSpells
import Derived.WalkLawsBesides
import Derived.Lib.Hide
import Derived.BigQuiet
import Derived.Outline
import Derived.Lib.QuietBelow
import Derived.Deep.MidRow
import Derived.Deep.WholeRow
import Derived.Deep.Quiet
import Derived.Deep.Cut
import Derived.Great.BuildSlice
import Derived.Great.FillDense
import Derived.Laws.AppendOwn
import Derived.ProofKit
import Derived.OpenShut
import Derived.Deep.Slices
import Derived.Stop.BytesEq
import Derived.Lib.BytesEntry
import Derived.Lib.SlBytesRow
import Derived.Lib.MinMax
import Derived.ShutString
import Derived.Maps.AppendAt
import Derived.Laws.AppendOwnNone
import Derived.Laws.Slices
import Derived.StillTail
import Derived.Handed
import Derived.HandedShaped
import Derived.LaidLaws
import Derived.Lay
import Derived.MakeChecks
import Derived.Shelf.Vars
import Derived.SevenTiedAt
import Derived.Orders
import Derived.Shelf.Abstract
import Derived.Deep.RegionHeld
import Derived.Laws.RangeAny
/- Worlds, blocks; slices of rows of cells that a call made, or was handed. Over any program. -/
namespace Go.Proofs.YtbfefdedjcppaaaGreatDoor
open Go.RowKit
theorem wrT : (∀ {α : Type} (l : List α) (i : Nat) (a : α), l.toArray.setIfInBounds i a = (l.set i a).toArray) ∧ (∀ {α : Type} (a b : α) (l : List α), (a :: l).set 0 b = b :: l) ∧ (∀ {α : Type} (a b : α) (l : List α) (n : Nat), (a :: l).set (n + 1) b = a :: l.set n b) :=
 ⟨fun _ _ _ => List.setIfInBounds_toArray .., fun _ _ _ => rfl, fun _ _ _ _ => rfl⟩
theorem rdT : (∀ {α : Type} (l : List α) (i : Nat) (h : i < l.toArray.size), l.toArray[i] = l[i]'(by simpa using h)) ∧ (∀ {α : Type} (a : α) (l : List α) (h : 0 < (a :: l).length), (a :: l)[0] = a) ∧ (∀ {α : Type} (a : α) (l : List α) (i : Nat) (h : i + 1 < (a :: l).length), (a :: l)[i + 1] = l[i]'(Nat.lt_of_succ_lt_succ h)) :=
 ⟨fun _ _ _ => rfl, fun _ _ _ => rfl, fun _ _ _ _ => rfl⟩
theorem ret_bool {a b : Bool} (h : a = b) : Ending.returned (.bool a) = .returned (.bool b) := by rw [h]
theorem lt_heap {w : World} {g : Nat} {x : Obj} (h : w.heap[g]? = some x) : g < w.heap.size := by
 rcases Nat.lt_or_ge g w.heap.size with h' | h'
 · exact h'
 · simp [Array.getElem?_eq_none h'] at h
theorem cell_blk {w : World} {b : Nat} {cs : Array Value} {T : TypeId} {fr : Nat × Nat} (h : w.heap[b]? = some (.cells cs T fr)) (i : Nat) : w.cell? ⟨b, i, none⟩ = cs[i]? := by simp [World.cell?, h]
theorem cell_of {w w' : World} {g : Nat} (he : w'.heap[g]? = w.heap[g]?) (i : Nat) : w'.cell? ⟨g, i, none⟩ = w.cell? ⟨g, i, none⟩ := by simp only [World.cell?, he]
theorem below_alloc1 (w : World) (A : Obj) : Below w.heap.size w (w.alloc A) := (Below.refl _ _).alloc (Nat.le_refl _) _
theorem below_alloc2 (w : World) (A B : Obj) : Below w.heap.size w ((w.alloc A).alloc B) :=
 ((Below.refl _ _).alloc (Nat.le_refl _) _).alloc (by simp) _
def putB (w : World) (r : Nat) (o : Obj) : World := { w with heap := w.heap.setIfInBounds r o }
theorem putB_same (w : World) (r : Nat) (o o' : Obj) (h : w.heap[r]? = some o') : (putB w r o).heap[r]? = some o := by
 simp [putB, lt_heap h]
theorem putB_other (w : World) (r k : Nat) (o : Obj) (h : k ≠ r) : (putB w r o).heap[k]? = w.heap[k]? := by
 simp only [putB, Array.getElem?_setIfInBounds]
 rw [if_neg (Ne.symm h)]
theorem putB_size (w : World) (r : Nat) (o : Obj) : (putB w r o).heap.size = w.heap.size := by simp [putB]
theorem heap_setCell_self {w : World} {b i : Nat} {cs : Array Value} {T : TypeId} {fr : Nat × Nat} (v : Value) (h : w.heap[b]? = some (.cells cs T fr)) : (w.setCell ⟨b, i, none⟩ v).heap[b]? = some (.cells (cs.setIfInBounds i v) T fr) := by
 simp only [World.setCell]
 rw [Array.getElem?_modify, if_pos rfl, h]; rfl
theorem heap_setCell_other {w : World} {b i k : Nat} (v : Value) (h : k ≠ b) : (w.setCell ⟨b, i, none⟩ v).heap[k]? = w.heap[k]? := by
 simp only [World.setCell]
 rw [Array.getElem?_modify, if_neg (Ne.symm h)]
structure Turn (S : List Nat) (w w' : World) : Prop where
 os : w'.os = w.os
 tape : w'.tape = w.tape
 output : w'.output = w.output
 size : w.heap.size ≤ w'.heap.size
 block : ∀ k, k < w.heap.size → k ∉ S → w'.heap[k]? = w.heap[k]?
theorem Turn.refl (S : List Nat) (w : World) : Turn S w w := ⟨rfl, rfl, rfl, Nat.le_refl _, fun _ _ _ => rfl⟩
theorem Turn.trans {S : List Nat} {a b c : World} (h : Turn S a b) (k : Turn S b c) : Turn S a c :=
 ⟨k.os.trans h.os, k.tape.trans h.tape, k.output.trans h.output, Nat.le_trans h.size k.size, fun i hi hr => (k.block i (by have := h.size; omega) hr).trans (h.block i hi hr)⟩
theorem Turn.mono {S T : List Nat} {w w' : World} (h : Turn S w w') (hs : ∀ k, k < w.heap.size → k ∈ S → k ∈ T) : Turn T w w' :=
 ⟨h.os, h.tape, h.output, h.size, fun k hk ht => h.block k hk fun hm => ht (hs k hk hm)⟩
theorem Turn.of_below {S : List Nat} {w w' : World} (h : Below w.heap.size w w') : Turn S w w' := ⟨h.os, h.tape, h.output, h.size, fun k hk _ => h.block k hk⟩
theorem Turn.put (r : Nat) (w : World) (o : Obj) : Turn [r] w (putB w r o) := ⟨rfl, rfl, rfl, by rw [putB_size]; exact Nat.le_refl _, fun k _ hr => putB_other w r k o (by simpa using hr)⟩
theorem Turn.below {S : List Nat} {B : Nat} {w w' : World} (h : Turn S w w') (hS : ∀ k ∈ S, B ≤ k) (hB : B ≤ w.heap.size) : Below B w w' :=
 ⟨h.os, h.tape, h.output, h.size, fun k hk => h.block k (by omega) (fun hm => by have := hS k hm; omega)⟩
theorem Turn.drew (S : List Nat) (w : World) : Turn S w { w with drawn := w.drawn + 1 } := ⟨rfl, rfl, rfl, Nat.le_refl _, fun _ _ _ => rfl⟩
theorem Turn.setCell (b i : Nat) (v : Value) (w : World) : Turn [b] w (w.setCell ⟨b, i, none⟩ v) :=
 ⟨rfl, rfl, rfl, by simp [World.setCell], fun k _ hr => heap_setCell_other v (by simpa using hr)⟩
theorem Turn.alloc (S : List Nat) (w : World) (o : Obj) : Turn S w (w.alloc o) := Turn.of_below (below_alloc1 w o)
/-! Ranges of cells. -/
theorem range_of_block {w w' : World} {b o : Nat} {cs : List Value} (h : w.rangeAt b o cs) (he : w'.heap[b]? = w.heap[b]?) : w'.rangeAt b o cs := fun j v hv => by
 rw [cell_of he]; exact h j v hv
theorem range_of_cells {w : World} {g : Nat} {cs : Array Value} {t : TypeId} {fr : Nat × Nat} (hg : w.heap[g]? = some (.cells cs t fr)) (i : Nat) (vs : List Value) (h : ∀ j v, vs[j]? = some v → cs[i + j]? = some v) : w.rangeAt g i vs := fun j v hv => by
 rw [cell_blk hg]; exact h j v hv
theorem range_whole {w : World} {g : Nat} {vs : List Value} {t : TypeId} {fr : Nat × Nat} (hg : w.heap[g]? = some (.cells vs.toArray t fr)) : w.rangeAt g 0 vs :=
 range_of_cells hg 0 vs fun j v hv => by simpa using hv
theorem range_app_left {w : World} {b o : Nat} {xs ys : List Value} (h : w.rangeAt b o (xs ++ ys)) : w.rangeAt b o xs := fun j v hv =>
 h j v (by rw [List.getElem?_append_left (List.getElem?_eq_some_iff.1 hv).1]; exact hv)
theorem range_app_right {w : World} {b o : Nat} {xs ys : List Value} (h : w.rangeAt b o (xs ++ ys)) (n : Nat) (hn : xs.length = n) : w.rangeAt b (o + n) ys := fun j v hv => by
 rw [Nat.add_assoc]
 refine h (n + j) v ?_
 rw [List.getElem?_append_right (by omega), hn, Nat.add_sub_cancel_left]; exact hv
/-! Elements of k cells each. -/
section
variable {α : Type} {enc : α → List Value} {k : Nat}
theorem flat_len (hk : ∀ x, (enc x).length = k) : ∀ xs : List α, (xs.flatMap enc).length = xs.length * k
 | [] => by simp
 | x :: xs => by rw [List.flatMap_cons, List.length_append, hk, flat_len hk xs, List.length_cons, Nat.succ_mul]; omega
def SlAt (enc : α → List Value) (k : Nat) (w : World) (q : Option Addr) (xs : List α) : Prop :=
 ∀ i (h : i < xs.length), ∃ b o, q = some ⟨b, o, none⟩ ∧ b < w.heap.size ∧ w.rangeAt b (o + i * k) (enc xs[i])
theorem SlAt.nil (w : World) (q : Option Addr) : SlAt enc k w q [] := fun i h => by simp at h
theorem SlAt.below {w w' : World} {q : Option Addr} {xs : List α} (h : SlAt enc k w q xs) (hb : Below w.heap.size w w') : SlAt enc k w' q xs := fun i hi => by
 obtain ⟨b, o, h1, h2, h3⟩ := h i hi
 exact ⟨b, o, h1, Nat.lt_of_lt_of_le h2 hb.size, range_of_block h3 (hb.block b h2)⟩
theorem SlAt.belowB {B : Nat} {w w' : World} {q : Option Addr} {xs : List α} (h : SlAt enc k w q xs) (hb : Below B w w') (hq : ∀ a, q = some a → a.block < B) : SlAt enc k w' q xs := fun i hi => by
 obtain ⟨b, o, h1, h2, h3⟩ := h i hi
 exact ⟨b, o, h1, Nat.lt_of_lt_of_le h2 hb.size, range_of_block h3 (hb.block b (hq _ h1))⟩
theorem SlAt.take {w : World} {q : Option Addr} {xs : List α} (h : SlAt enc k w q xs) (n : Nat) : SlAt enc k w q (xs.take n) := fun i hi => by
 rw [List.length_take] at hi
 obtain ⟨b, o, h1, h2, h3⟩ := h i (by omega)
 exact ⟨b, o, h1, h2, by rw [List.getElem_take]; exact h3⟩
theorem SlAt.drop {w : World} {b o : Nat} {xs : List α} (h : SlAt enc k w (some ⟨b, o, none⟩) xs) (n : Nat) : SlAt enc k w (some ⟨b, o + n * k, none⟩) (xs.drop n) := fun i hi => by
 rw [List.length_drop] at hi
 obtain ⟨b', o', h1, h2, h3⟩ := h (n + i) (by omega)
 simp only [Option.some.injEq, Addr.mk.injEq] at h1
 obtain ⟨rfl, rfl, _⟩ := h1
 refine ⟨b, o + n * k, rfl, h2, ?_⟩
 rw [List.getElem_drop, Nat.add_assoc, ← Nat.add_mul]; exact h3
theorem range_nth (hk : ∀ x, (enc x).length = k) {w : World} {b o : Nat} {xs : List α} (h : w.rangeAt b o (xs.flatMap enc)) (i : Nat) (hi : i < xs.length) : w.rangeAt b (o + i * k) (enc xs[i]) := by
 have e : xs.flatMap enc = (xs.take i).flatMap enc ++ (enc xs[i] ++ (xs.drop (i + 1)).flatMap enc) := by
   rw [← List.flatMap_cons, ← List.flatMap_append, ← List.drop_eq_getElem_cons hi, List.take_append_drop]
 rw [e] at h
 have hl : ((xs.take i).flatMap enc).length = i * k := by rw [flat_len hk, List.length_take, Nat.min_eq_left (Nat.le_of_lt hi)]
 exact range_app_left (range_app_right h _ hl)
def OwnE (enc : α → List Value) (E : TypeId) (k : Nat) (w : World) (base : Nat) (v : Value) (xs : List α) : Prop := w.ownsRow base E k v xs.length (xs.flatMap enc)
theorem OwnE.nil {E : TypeId} (w : World) (base : Nat) : OwnE enc E k w base (.slice none 0 0) [] := ⟨by simp, .inl ⟨rfl, rfl⟩⟩
theorem OwnE.block {E : TypeId} {w w' : World} {base : Nat} {v : Value} {xs : List α} (h : OwnE enc E k w base v xs) (he : ∀ g, v.ownBlock = some g → w'.heap[g]? = w.heap[g]?) : OwnE enc E k w' base v xs := by
 obtain ⟨h1, h2 | ⟨g, cap, cur, hv, hg, hh, r⟩⟩ := h
 · exact ⟨h1, .inl h2⟩
 · exact ⟨h1, .inr ⟨g, cap, cur, hv, hg, (he g (by rw [hv]; rfl)).trans hh, r⟩⟩
theorem OwnE.lt {E : TypeId} {w : World} {base : Nat} {v : Value} {xs : List α} (h : OwnE enc E k w base v xs) (g : Nat) (hg : v.ownBlock = some g) : base ≤ g ∧ g < w.heap.size := by
 obtain ⟨h1, h2 | ⟨g', cap, cur, hv, hg', hh, r⟩⟩ := h
 · rw [h2.1] at hg; cases hg
 · rw [hv] at hg
   obtain rfl : g' = g := by simpa [Value.ownBlock] using hg
   exact ⟨hg', lt_heap hh⟩
theorem OwnE.below {E : TypeId} {w w' : World} {base : Nat} {v : Value} {xs : List α} (h : OwnE enc E k w base v xs) (hb : Below w.heap.size w w') : OwnE enc E k w' base v xs :=
 h.block fun g hg => hb.block g (h.lt g hg).2
theorem OwnE.base {E : TypeId} {w : World} {base base' : Nat} {v : Value} {xs : List α} (h : OwnE enc E k w base v xs) (hb : base' ≤ base) : OwnE enc E k w base' v xs :=
 ⟨h.1, h.2.elim Or.inl (fun ⟨g, cap, cur, hv, hg, r⟩ => Or.inr ⟨g, cap, cur, hv, Nat.le_trans hb hg, r⟩)⟩
theorem OwnE.at (hk : ∀ x, (enc x).length = k) {E : TypeId} {w : World} {base : Nat} {v : Value} {xs : List α} (h : OwnE enc E k w base v xs) : ∃ q cap, v = .slice q xs.length cap ∧ xs.length ≤ cap ∧ cap ≤ maxLen ∧ SlAt enc k w q xs ∧ ∀ a, q = some a → base ≤ a.block ∧ a.block < w.heap.size := by
 obtain ⟨h1, ⟨rfl, h2⟩ | ⟨g, cap, cur, rfl, hg, hh, hc, hm, hs, ht⟩⟩ := h
 · obtain rfl := List.length_eq_zero_iff.1 h2
   exact ⟨none, 0, rfl, Nat.le_refl _, by unfold maxLen; omega, SlAt.nil _ _, fun a h => by cases h⟩
 · refine ⟨_, cap, rfl, hc, hm, fun i hi => ⟨g, 0, rfl, lt_heap hh, ?_⟩, fun a h => by cases h; exact ⟨hg, lt_heap hh⟩⟩
   refine range_nth hk (o := 0) (fun j u hu => ?_) i hi
   rw [Nat.zero_add, cell_blk hh]
   have hj := (List.getElem?_eq_some_iff.1 hu).1
   rw [← ht, List.getElem?_take_of_lt (by rw [← ht, List.length_take] at hj; omega)] at hu
   simpa using hu
theorem OwnE.slice {E : TypeId} {w : World} {base : Nat} {v : Value} {xs : List α} (h : OwnE enc E k w base v xs) : ∃ p cap, v = .slice p xs.length cap := by
 obtain ⟨_, ⟨rfl, h2⟩ | ⟨g, cap, cur, rfl, _⟩⟩ := h
 · exact ⟨none, 0, by rw [h2]⟩
 · exact ⟨_, _, rfl⟩
end
theorem grown_below {B : Nat} {w w' : World} {v : Value} (h : w.grownBy w' v.ownBlock) (hv : ∀ g, v.ownBlock = some g → B ≤ g) (hB : B ≤ w.heap.size) : Below B w w' :=
 (Below.refl B w).grown h hB hv
section
variable {P : Program} {α : Type} {enc : α → List Value} {k : Nat} {ops : Array Oper} {rest : List Oper} {o : Oper} {a : Act} {w : World} {Q : Exit → Act → World → Prop}
theorem wl_app1 (T E : TypeId) (bytes : Nat) (z : Value) (hT : P.underlying T = some (.slice E)) (hinf : (P.info? E).map (fun i => (i.zero, i.size, i.bytes)) = some (some z, k, bytes)) (hzk : z.cells.size = k) (hk0 : 0 < k) (hk : ∀ x, (enc x).length = k) (h1 : ∀ x, ∀ u ∈ enc x, u.oneCell' = true)
   (hgd : o.guard = none) (s x : Operand) (ho : o.op = .call { callee := .builtin .append, args := #[s, x], argTypes := #[T, T] })
   (base : Nat) (v : Value) (xs : List α) (hs : a.eval s = v) (hown : OwnE enc E k w base v xs) (b c : Nat) (y : α) (hx : a.eval x = .slice (some ⟨b, 0, none⟩) 1 c)
   (hr : w.rangeAt b 0 (enc y)) (hlen : (xs.length + 1) * bytes ≤ 140737488355328) (hm : xs.length + 1 ≤ maxLen) (hbase : base ≤ w.heap.size)
   (h : ∀ v' w', OwnE enc E k w' base v' (xs ++ [y]) → w.grownBy w' v.ownBlock → wpList P ops Q rest (a.put o.dst v') w') : wpList P ops Q (o :: rest) a w := by
 obtain ⟨i, hi, hz, hsz, hby⟩ := info_parts hinf
 refine wpList_append_own w hgd s x T ho base E i z k bytes hT hi hz hsz hby hzk hk0 v xs.length (xs.flatMap enc) hs hown ⟨b, 0, none⟩ 1 c (enc y) hx (by rw [hk, Nat.one_mul]) ?_ (h1 y) hm hlen hbase ?_
 · intro j u hu
   rw [Addr.add_mid]
   exact hr j u hu
 · intro v' w' h1 h2 _
   refine h v' w' ?_ h2
   have e : (xs ++ [y]).flatMap enc = xs.flatMap enc ++ enc y := by simp
   unfold OwnE
   rw [e, List.length_append]
   exact h1
theorem wl_bs1 (T E : TypeId) (bytes : Nat) (z : Value) (hT : P.underlying T = some (.slice E)) (hinf : (P.info? E).map (fun i => (i.zero, i.size, i.bytes)) = some (some z, k, bytes)) (_ : z.cells.size = k) (hk0 : 0 < k) (hk2 : k ≤ 1000000) (hk : ∀ x, (enc x).length = k)
   (hw : Region.wanted o (yielded ops a.tmps) = true) (x : Operand) (ho : o.op = .buildSlice T 1 #[(0, x)]) (y : α) (hx : a.eval x = .agg (enc y).toArray)
   (h : wpList P ops Q rest (a.put o.dst (.slice (some ⟨w.heap.size, 0, none⟩) 1 1)) (w.alloc (.cells (enc y).toArray E))) : wpList P ops Q (o :: rest) a w :=
 wpList_step fun _ hK => by
   rw [if_pos hw]
   obtain ⟨ie, hie, hz, hsz, hby⟩ := info_parts hinf
   have hb := run_buildSlice (P := P) w T E 1 #[(0, .agg (enc y).toArray)] (enc y).toArray ie z hT hie hz (by rw [hsz]; omega) (by rw [hsz]; omega) (by
     rw [hsz]
     have := Great.fill_whole (s := k) hk0 [.agg (enc y).toArray] ((Array.range (1 * k)).map (z.cells[· % z.cells.size]!)) (fun v hv => by
       simp at hv; subst hv
       show (enc y).toArray.size = k
       simp [hk]) (by simp)
     simp only [List.zipIdx_cons, List.zipIdx_nil, List.map_cons, List.map_nil] at this
     rw [this]
     simp [Value.cells])
   unfold Oper.wp execOp
   have hp : (#[(0, x)].map fun (p : Nat × Operand) => (p.1, a.eval p.2)) = #[(0, Value.agg (enc y).toArray)] := by simp [hx]
   simp only [ho, Sem.run_bind, hp, hb, Result.andThen_ok]
   exact hK _ _ h
theorem wl_ldr (hw : Region.wanted o (yielded ops a.tmps) = true) (T : TypeId) (x : Operand) (ho : o.op = .load T x)
   (b i : Nat) (cs : List Value) (d : TypeDesc) (hu : P.underlying T = some d) (hd : d.isRow = true) (hi : (P.info? T).map (·.size) = some cs.length) (hx : a.eval x = .pointer (some ⟨b, i, none⟩)) (hc : w.rangeAt b i cs)
   (h : wpList P ops Q rest (a.put o.dst (.agg cs.toArray)) w) : wpList P ops Q (o :: rest) a w :=
 wpList_step fun _ hK => by
   rw [if_pos hw]
   have := run_loadAt_mid (P := P) _ b i T cs d hc hu hd hi
   unfold Oper.wp execOp
   simp only [ho, hx, Sem.run_bind, this, Result.andThen_ok, Sem.run_pure]
   exact hK _ _ h
theorem wl_str (hgd : o.guard = none) (T : TypeId) (x y : Operand) (ho : o.op = .store T x y) (g : Nat) (cs old : Array Value) (T' : TypeId)
   (hi : (P.info? T).map (·.size) = some cs.size) (hs : cs.size = old.size) (h1 : cs.all (·.oneCell') = true) (hx : a.eval x = .pointer (some ⟨g, 0, none⟩)) (hy : a.eval y = .agg cs) (hg : w.heap[g]? = some (.cells old T'))
   (h : wpList P ops Q rest (a.put o.dst undef) (w.setRow g cs)) : wpList P ops Q (o :: rest) a w :=
 wpList_store_row hgd T x y ho g cs hx hy T' old hg hi hs.symm h1 h
end
section
variable {P : Program} {ops : Array Oper} {C : World → Prop} {Q : Act → Prop} {a : Act} {o : Oper} {rest : List Oper}
theorem wq_val (v : Value) (hw : Region.wanted o (yielded ops a.tmps) = true) (hv : ∀ w, (execOp a.eval o).run P w = .ok (.value v) w) (h : wpQuiet P ops C Q rest (a.put o.dst v)) : wpQuiet P ops C Q (o :: rest) a := by
 unfold wpQuiet; rw [if_pos hw]
 exact ⟨v, fun w _ => by unfold Oper.quietAt; rw [hv w]; exact ⟨rfl, rfl⟩, h⟩
theorem wq_valC (v : Value) (hw : Region.wanted o (yielded ops a.tmps) = true) (hv : ∀ w, C w → (execOp a.eval o).run P w = .ok (.value v) w) (h : wpQuiet P ops C Q rest (a.put o.dst v)) : wpQuiet P ops C Q (o :: rest) a := by
 unfold wpQuiet; rw [if_pos hw]
 exact ⟨v, fun w hC => by unfold Oper.quietAt; rw [hv w hC]; exact ⟨rfl, rfl⟩, h⟩
end
theorem wl_strn {P : Program} {ops : Array Oper} {rest : List Oper} {o : Oper} {a : Act} {w : World} {Q : Exit → Act → World → Prop} (hgd : o.guard = none) (T : TypeId) (x y : Operand) (ho : o.op = .store T x y) (cs old : Array Value) (T' : TypeId)
   (hi : (P.info? T).map (·.size) = some cs.size) (hs : cs.size = old.size) (h1 : cs.all (·.oneCell') = true) (hx : a.eval x = .pointer (some ⟨w.heap.size, 0, none⟩)) (hy : a.eval y = .agg cs)
   (h : wpList P ops Q rest (a.put o.dst undef) (w.alloc (.cells cs T'))) : wpList P ops Q (o :: rest) a (w.alloc (.cells old T')) :=
 wpList_store_row hgd T x y ho w.heap.size cs hx hy T' old (heap_alloc_new _ _) hi hs.symm h1 (by rw [World.setRow_alloc_new]; exact h)
section
variable {P : Program} {ops : Array Oper} {Q : Act → Prop} {a : Act} {o : Oper} {rest : List Oper}
theorem wq_ldr {W : World} (hw : Region.wanted o (yielded ops a.tmps) = true) (T : TypeId) (x : Operand) (ho : o.op = .load T x) (b i : Nat) (cs : List Value) (d : TypeDesc) (hu : P.underlying T = some d) (hd : d.isRow = true) (hi : (P.info? T).map (·.size) = some cs.length)
   (hx : a.eval x = .pointer (some ⟨b, i, none⟩)) (hc : W.rangeAt b i cs) (hb : b < W.heap.size)
   (h : wpQuiet P ops (fun w' => ∃ p : Regrown, w' = Sort.grow (redrawn W p.d) p.os) Q rest (a.put o.dst (.agg cs.toArray))) : wpQuiet P ops (fun w' => ∃ p : Regrown, w' = Sort.grow (redrawn W p.d) p.os) Q (o :: rest) a := by
 refine wq_valC (.agg cs.toArray) hw (fun w hC => ?_) h
 obtain ⟨⟨dq, osq⟩, rfl⟩ := hC
 have hc' := range_of_block hc ((below_regrown W dq osq).block b hb)
 have := run_loadAt_mid (P := P) _ b i T cs d hc' hu hd hi
 unfold execOp
 simp only [ho, hx, Sem.run_bind, this, Result.andThen_ok, Sem.run_pure]
end
theorem rg_call {W : World} {P : Program} {f : FuncId} {args : Array Value} {v : Value} (h : ∀ w, Calls P f args w fun e w' => e = .returned v ∧ Below w.heap.size w w') (d : Nat) (os : Array Obj) :
 Calls P f args (Sort.grow (redrawn W d) os) fun e w'' => e = .returned v ∧ ∃ p : Regrown, w'' = Sort.grow (redrawn W p.d) p.os := Calls.regrown_of (h _)
theorem rg_call0 {W : World} {P : Program} {f : FuncId} {args : Array Value} {v : Value} (h : ∀ w, Calls P f args w fun e w' => e = .returned v ∧ w = w') (d : Nat) (os : Array Obj) :
   Calls P f args (Sort.grow (redrawn W d) os) fun e w'' => e = .returned v ∧ ∃ p : Regrown, w'' = Sort.grow (redrawn W p.d) p.os :=
 Calls.regrown_of ((h _).mono fun _ _ ⟨he, hw⟩ => ⟨he, hw ▸ Below.refl _ _⟩)
theorem rg_block {W : World} {g : Nat} {o : Obj} (h : W.heap[g]? = some o) (d : Nat) (os : Array Obj) : (Sort.grow (redrawn W d) os).heap[g]? = some o := by
 rw [(below_regrown W d os).block g (lt_heap h)]; exact h
end Go.Proofs.YtbfefdedjcppaaaGreatDoor

/- How a slice of rows comes in. -/
namespace Go.Proofs.YtbfefdedjcppaaaGreatDoor
open Go.ChangeShapes Go.WideShapes Go.ChangeAt Go.RowKit Go.Deep
theorem add_addA (a : Addr) (i j : Nat) : (a.add i).add j = a.add (i + j) := by
 obtain ⟨b, o, s⟩ := a
 unfold Addr.add
 by_cases h1 : i = 0
 · subst h1; simp
 · by_cases h2 : j = 0
   · subst h2; simp [h1]
   · have : ¬ (i + j = 0) := by omega
     simp [h1, h2, Nat.add_assoc]
theorem list_of_all {α : Type} {R : Nat → α → Prop} : ∀ n, (∀ i, i < n → ∃ x, R i x) → ∃ xs : List α, xs.length = n ∧ ∀ i (h : i < xs.length), R i xs[i]
 | 0, _ => ⟨[], rfl, fun i h => by simp at h⟩
 | n + 1, h => by
   obtain ⟨xs, h1, h2⟩ := list_of_all n fun i hi => h i (by omega)
   obtain ⟨x, hx⟩ := h n (by omega)
   refine ⟨xs ++ [x], by simp [h1], fun i hi => ?_⟩
   by_cases e : i < xs.length
   · rw [List.getElem_append_left e]; exact h2 i e
   · simp only [List.length_append, List.length_singleton] at hi
     obtain rfl : i = xs.length := by omega
     rw [List.getElem_append_right (Nat.le_refl _)]
     simpa [h1] using hx
theorem own : ownKnob Tryz.prog.godebug = none := by kernel_rfl
theorem laidOut : laidOutB Tryz.prog = true := by kernel_rfl
end Go.Proofs.YtbfefdedjcppaaaGreatDoor

/- Byte arrays of twelve cells, and small laws that the walks of this seat use. -/
namespace Go.Proofs.YtbfefdedjcppaaaGreatDoor
open Go.RowKit
def bC (l : List UInt8) : Array Value := (l.map fun b => Value.int .u8 (b.toNat : Int)).toArray
theorem bC_size (l : List UInt8) : (bC l).size = l.length := by simp [bC]
theorem bC_get (l : List UInt8) (j : Nat) (h : j < l.length) : (bC l)[j]? = some (.int .u8 (l[j].toNat : Int)) := by
 simp [bC, h]
theorem bC_set (l : List UInt8) (k : Nat) (b : UInt8) : (bC l).setIfInBounds k (.int .u8 (b.toNat : Int)) = bC (l.set k b) := by
 simp [bC, List.map_set]
theorem bC_one (l : List UInt8) : (bC l).all (·.oneCell') = true := by
 simp [bC, Value.oneCell']
def z12 : List UInt8 := List.replicate 12 0
theorem bC_z12 : bC z12 = #[.int .u8 0, .int .u8 0, .int .u8 0, .int .u8 0, .int .u8 0, .int .u8 0, .int .u8 0, .int .u8 0, .int .u8 0, .int .u8 0, .int .u8 0, .int .u8 0] := rfl
def pad (l : List UInt8) : List UInt8 := l.take 12 ++ List.replicate (12 - l.length) 0
theorem pad_length (l : List UInt8) : (pad l).length = 12 := by simp [pad]; omega
theorem pad_nil : pad [] = z12 := rfl
theorem pad_snoc (s : List UInt8) (k : Nat) (h : k < s.length) (h12 : k < 12) : (pad (s.take k)).set k s[k] = pad (s.take (k + 1)) := by
 apply List.ext_getElem?
 intro j
 have e1 : (s.take k).take 12 = s.take k := List.take_of_length_le (by simp; omega)
 have e2 : (s.take (k+1)).take 12 = s.take (k+1) := List.take_of_length_le (by simp; omega)
 have l1 : (s.take k).length = k := by simp; omega
 have l2 : (s.take (k+1)).length = k+1 := by simp; omega
 simp only [pad, e1, e2, l1, l2]
 rw [List.getElem?_set]
 by_cases e : k = j
 · subst e
   rw [if_pos rfl, if_pos (by simp; omega), List.getElem?_append_left (by omega), List.getElem?_take_of_lt (by omega)]
   simp [h]
 · rw [if_neg e]
   by_cases hj : j < k
   · rw [List.getElem?_append_left (by omega), List.getElem?_append_left (by omega), List.getElem?_take_of_lt hj, List.getElem?_take_of_lt (by omega)]
   · rw [List.getElem?_append_right (by omega), List.getElem?_append_right (by omega), l1, l2]
     by_cases hj2 : j < 12
     · rw [List.getElem?_replicate, List.getElem?_replicate, if_pos (by omega), if_pos (by omega)]
     · rw [List.getElem?_replicate, List.getElem?_replicate, if_neg (by omega), if_neg (by omega)]
theorem byte_lt (b : UInt8) : (b.toNat : Int) ≤ 255 := by have := b.toNat_lt; omega
theorem at_list (s : ByteArray) (k : Nat) (h : k < s.size) : s.data.toList[k]'(by simpa using h) = s[k] := by simp; rfl
theorem info23 : (Tryz.prog.info? 24).map (·.size) = some 12 := by kernel_rfl
theorem info22 : (Tryz.prog.info? 23).map (·.size) = some 12 := by kernel_rfl
theorem ld23 {ops : Array Oper} {rest : List Oper} {o : Oper} {a : Act} {w : World} {Q : Exit → Act → World → Prop} (hgd : o.guard = none) (x : Operand) (ho : o.op = .load 24 x)
   (g : Nat) (hx : a.eval x = .pointer (some ⟨g, 0, none⟩)) (l : List UInt8) (hl : l.length = 12) (fr : Nat × Nat) (hg : w.heap[g]? = some (.cells (bC l) 24 fr))
   (h : wpList Tryz.prog ops Q rest (a.put o.dst (.agg (bC l))) w) : wpList Tryz.prog ops Q (o :: rest) a w :=
 wpList_load_row hgd 24 x ho g hx 24 (bC l) fr _ hg Tryz.underlying24 rfl (by rw [info23, bC_size, hl]) h
theorem st23 {ops : Array Oper} {rest : List Oper} {o : Oper} {a : Act} {w : World} {Q : Exit → Act → World → Prop} (hgd : o.guard = none) (x y : Operand) (ho : o.op = .store 24 x y)
   (g : Nat) (l : List UInt8) (hx : a.eval x = .pointer (some ⟨g, 0, none⟩)) (hy : a.eval y = .agg (bC l)) (hl : l.length = 12)
   (old : List UInt8) (hg : w.heap[g]? = some (.cells (bC old) 24 (0, 0))) (hold : old.length = 12)
   (h : wpList Tryz.prog ops Q rest (a.put o.dst undef) (w.setRow g (bC l))) : wpList Tryz.prog ops Q (o :: rest) a w :=
 wpList_store_row hgd 24 x y ho g (bC l) hx hy 24 (bC old) hg (by rw [info23, bC_size, hl]) (by rw [bC_size, bC_size, hl, hold]) (bC_one l) h
theorem below_setRow {B : Nat} {a w : World} (h : Below B a w) {g : Nat} (hg : B ≤ g) (cs : Array Value) : Below B a (w.setRow g cs) :=
 h.trans ⟨rfl, rfl, rfl, by simp, fun k hk => setRow_other w g k cs (by omega)⟩
theorem res_row_tmp {fn : Func} {p t : Tmp} (h : fn.results = #[.cell p 24, .tmp t]) (tmps : Array Value) (w : World) (g : Nat) (l : List UInt8) (fr : Nat × Nat)
   (hp : tmps.getD p undef = .pointer (some ⟨g, 0, none⟩)) (hg : w.heap[g]? = some (.cells (bC l) 24 fr)) (hl : l.length = 12) :
   (results fn tmps).run Tryz.prog w = .ok (.tuple #[.agg (bC l), tmps.getD t undef]) w := by
 have hp' : tmps[p]?.getD undef = .pointer (some ⟨g, 0, none⟩) := by simpa using hp
 have hload := run_loadVar_row (P := Tryz.prog) w g 24 24 (bC l) fr _ hg Tryz.underlying24 rfl (by rw [info23, bC_size, hl])
 simp [results, h, hp', asAddr, hload]
theorem eql23 (w : World) (xs ys : List UInt8) (hx : xs.length = 12) (hy : ys.length = 12) : (binOp .eql 24 (.agg (bC xs)) (.agg (bC ys))).run Tryz.prog w = .ok (.bool (xs == ys)) w :=
 run_eql_bytes w 24 5 12 Tryz.underlying24 Tryz.underlying5 (fun _ => by kernel_rfl) xs ys hx hy
theorem neq22 (w : World) (xs ys : List UInt8) (hx : xs.length = 12) (hy : ys.length = 12) : (binOp .neq 23 (.agg (bC xs)) (.agg (bC ys))).run Tryz.prog w = .ok (.bool (!(xs == ys))) w := by
 rw [run_neq_struct]
 show ((Op.equalIn (9998 + 2) 23 (.agg (xs.map Extern.Stop.cell).toArray) (.agg (ys.map Extern.Stop.cell).toArray)).run Tryz.prog w).andThen _ = _
 rw [run_equalIn_bytes w 9998 23 5 12 Tryz.underlying23 Tryz.underlying5 (fun _ => by kernel_rfl) xs ys hx hy]
 rfl
end Go.Proofs.YtbfefdedjcppaaaGreatDoor

/- name.letter, name.sign, name.Parse. -/
namespace Go.Proofs.YtbfefdedjcppaaaGreatDoor
set_option maxHeartbeats 400000
open Go.RowKit
def letterB (c : Int) : Bool := decide (97 ≤ c) && decide (c ≤ 122)
def signB (c : Int) : Bool := letterB c || (decide (48 ≤ c) && decide (c ≤ 57)) || c == 45 || c == 95 || c == 46
theorem letter_any (c : Int) (w : World) (h0 : 0 ≤ c) (h1 : c ≤ 255) :
   Calls Tryz.prog 117 #[.int .u8 c] w fun e w' => e = .returned (.bool (letterB c)) ∧ w = w' := by
 by_cases a : 97 ≤ c
 all_goals
   go_enter Tryz.func117, Tryz.ntmps117
   go_wp2
   go_ret
   exact ⟨by simp [letterB]; try omega, rfl⟩
theorem sign_any (c : Int) (w : World) (h0 : 0 ≤ c) (h1 : c ≤ 255) :
   Calls Tryz.prog 118 #[.int .u8 c] w fun e w' => e = .returned (.bool (signB c)) ∧ w = w' := by
 have key : ∀ b : Bool, signB c = b → Calls Tryz.prog 118 #[.int .u8 c] w fun e w' => e = .returned (.bool b) ∧ w = w' := by
   intro b hb
   have H := Lib.hid hb; clear hb
   go_enter Tryz.func118, Tryz.ntmps118
   go_wp2_with (go_at_call 117; refine (letter_any _ _ h0 h1).mono ?_; rintro e w' ⟨rfl, rfl⟩)
   all_goals
     go_ret
     have hb := H.out
     refine ⟨ret_bool ?_, rfl⟩
     rw [← hb]; simp only [signB, *]; rw [Bool.eq_iff_iff]; simp <;> omega
 exact key _ rfl
def isName (l : List UInt8) : Bool := decide (1 ≤ l.length) && decide (l.length ≤ 12) && letterB (l.headD 0).toNat && l.all fun b => signB b.toNat
def parseN (l : List UInt8) : List UInt8 := if isName l then pad l else z12
def parseE (l : List UInt8) : Int := if isName l then 0 else 15
theorem parseN_length (l : List UInt8) : (parseN l).length = 12 := by unfold parseN; split <;> simp [pad_length, z12]
theorem isName_yes {l : List UInt8} (h0 : 1 ≤ l.length) (h1 : l.length ≤ 12) (hl : letterB (l.headD 0).toNat = true) (hs : ∀ i (h : i < l.length), signB (l[i]'h).toNat = true) : isName l = true := by
 simp only [isName, hl, decide_eq_true h0, decide_eq_true h1, Bool.true_and]
 rw [List.all_eq_true]
 intro x hx
 obtain ⟨i, hi, rfl⟩ := List.mem_iff_getElem.1 hx
 exact hs i hi
theorem isName_no {l : List UInt8} (i : Nat) (hi : i < l.length) (hs : signB (l[i]'hi).toNat = false) : isName l = false := by
 have : (l.all fun b => signB b.toNat) = false := by
   rw [List.all_eq_false]
   exact ⟨l[i], List.getElem_mem hi, by simp [hs]⟩
 simp [isName, this]
theorem parse_loop (s : ByteArray) (w : World) (h0 : 1 ≤ s.size) (h1 : s.size ≤ 12) (hl : letterB s[0].toNat = true) :
   Calls Tryz.prog 74 #[.string s] w fun e w' => e = .returned (.tuple #[.agg (bC (parseN s.data.toList)), .int .i64 (parseE s.data.toList)]) ∧ Below w.heap.size w w' := by
 have hfin : ∀ (w' : World) (hb : Below w.heap.size w w') (hall : ∀ i (h : i < s.size), signB s[i].toNat = true),
     Ending.returned (.tuple #[.agg (bC (pad s.data.toList)), .int .i64 0]) = Ending.returned (.tuple #[.agg (bC (parseN s.data.toList)), .int .i64 (parseE s.data.toList)]) ∧ Below w.heap.size w w' := by
   intro w' hb hall
   have : isName s.data.toList = true := isName_yes (by rw [Array.length_toList]; exact h0) (by simpa using h1) (by
     have : s.data.toList.headD 0 = s[0] := by
       rw [← at_list s 0 (by omega), List.headD_eq_head?_getD, List.head?_eq_getElem?, List.getElem?_eq_getElem (by simpa using (by omega : 0 < s.size))]; rfl
     rw [this]; exact hl) (fun i hi => by rw [at_list s i (by simpa using hi)]; exact hall i (by simpa using hi))
   simp [parseN, parseE, this, hb]
 have HF := Lib.hid hfin; clear hfin
 have hlen : ∀ k, k < s.size → k < 12 := fun k h => by omega
 go_enter Tryz.func74, Tryz.ntmps74
 go_wp2_with (go_at_call 117; refine (letter_any _ _ (by omega) (byte_lt _)).mono ?_; rintro e w' ⟨rfl, rfl⟩)
 rw [← bC_z12]
 go_loopw [23] (fun i wr => ∃ k : Nat, k ≤ s.size ∧ i = .int .i64 k ∧ wr = (w.alloc (.cells (bC z12) 24)).alloc (.cells (bC (pad (s.data.toList.take k))) 24) ∧ Hid (∀ i (h : i < k) (h2 : i < s.size), signB s[i].toNat = true)) (fun i _ => s.size - (intOf i).toNat)
 case atStart => exact ⟨0, Nat.zero_le _, rfl, by rw [List.take_zero, pad_nil], fun i h => by omega⟩
 case round =>
   obtain ⟨k, hk, rfl, rfl, HA⟩ := hrel
   by_cases hlt : k < s.size
   · have hc := bC_get (pad (s.data.toList.take k)) k (by rw [pad_length]; omega)
     by_cases hsg : signB s[k].toNat = true
     · go_wp2_with (go_at_call 118; refine (sign_any _ _ (by omega) (byte_lt _)).mono ?_; rintro e w' ⟨rfl, rfl⟩)
       go_roundw
       case rel =>
         refine ⟨k + 1, by omega, by go_num, ?_, ?_⟩
         · rw [bC_set, ← at_list s k hlt, pad_snoc s.data.toList k (by simpa using hlt) (by omega)]
         · intro i h h2
           by_cases e : i = k
           · subst e; exact hsg
           · exact HA.out i (by omega) h2
       case measure => simp [intOf]; omega
     · have hno : isName s.data.toList = false := isName_no k (by simpa using hlt) (by rw [at_list s k hlt]; simpa using hsg)
       have HN := Lib.hid hno; clear hno
       have hsg' : signB s[k].toNat = false := by simpa using hsg
       clear hsg
       go_wp2_with (first
         | (go_at_call 118; refine (sign_any _ _ (by omega) (byte_lt _)).mono ?_; rintro e w' ⟨rfl, rfl⟩)
         | (with_reducible refine st23 rfl _ _ rfl w.heap.size z12 rfl rfl rfl z12 (heap_alloc2_old _ _ _) rfl ?_))
       refine bodyPost_ret (res_row_tmp (t := 3) rfl _ _ w.heap.size z12 (0, 0) rfl (setRow_heap _ _ _ _ _ _ (heap_alloc2_old _ _ _)) rfl) rfl ⟨?_, below_setRow (below_alloc2 _ _ _) (Nat.le_refl _) _⟩
       rw [parseN, parseE, HN.out]; rfl
   · obtain rfl : k = s.size := by omega
     have HA' : Hid (∀ i (h : i < s.size), signB s[i].toNat = true) := fun i h => HA.out i h h
     clear HA
     go_wp2_with (first
       | (with_reducible refine ld23 rfl _ rfl (w.heap.size + 1) rfl (pad (s.data.toList.take s.size)) (pad_length _) (0, 0) (heap_alloc2_new _ _ _) ?_)
       | (with_reducible refine st23 rfl _ _ rfl w.heap.size (pad (s.data.toList.take s.size)) rfl rfl (pad_length _) z12 (heap_alloc2_old _ _ _) rfl ?_))
     refine bodyPost_ret (res_row_tmp rfl _ _ w.heap.size (pad (s.data.toList.take s.size)) (0, 0) rfl (setRow_heap _ _ _ _ _ _ (heap_alloc2_old _ _ _)) (pad_length _)) rfl ?_
     rw [List.take_of_length_le (by simp)]
     exact HF.out _ (below_setRow (below_alloc2 _ _ _) (Nat.le_refl _) _) HA'.out
theorem parse_no (s : ByteArray) (w : World) (hs : s.size ≤ maxLen) (h : isName s.data.toList = false) (hq : ¬ (1 ≤ s.size ∧ s.size ≤ 12 ∧ ∀ (h : 0 < s.size), letterB s[0].toNat = true)) :
   Calls Tryz.prog 74 #[.string s] w fun e w' => e = .returned (.tuple #[.agg (bC (parseN s.data.toList)), .int .i64 (parseE s.data.toList)]) ∧ Below w.heap.size w w' := by
 unfold maxLen at hs
 have HN := Lib.hid h; clear h
 have hend : ∀ w', Below w.heap.size w w' → Ending.returned (.tuple #[.agg (bC z12), .int .i64 15]) = Ending.returned (.tuple #[.agg (bC (parseN s.data.toList)), .int .i64 (parseE s.data.toList)]) ∧ Below w.heap.size w w' := fun w' hb => by
   rw [parseN, parseE, HN.out]; exact ⟨rfl, hb⟩
 have HE := Lib.hid hend; clear hend
 by_cases h0 : s.size < 1
 · clear hq
   go_enter Tryz.func74, Tryz.ntmps74
   go_wp2_with (with_reducible refine st23 rfl _ _ rfl w.heap.size z12 rfl rfl rfl z12 (heap_alloc_new _ _) rfl ?_)
   refine bodyPost_ret (res_row_tmp (t := 3) rfl _ _ w.heap.size z12 (0, 0) rfl (setRow_heap _ _ _ _ _ _ (heap_alloc_new _ _)) rfl) rfl ?_
   exact HE.out _ (below_setRow (below_alloc1 _ _) (Nat.le_refl _) _)
 · by_cases h1 : 12 < s.size
   · clear hq
     go_enter Tryz.func74, Tryz.ntmps74
     go_wp2_with (with_reducible refine st23 rfl _ _ rfl w.heap.size z12 rfl rfl rfl z12 (heap_alloc_new _ _) rfl ?_)
     refine bodyPost_ret (res_row_tmp (t := 3) rfl _ _ w.heap.size z12 (0, 0) rfl (setRow_heap _ _ _ _ _ _ (heap_alloc_new _ _)) rfl) rfl ?_
     exact HE.out _ (below_setRow (below_alloc1 _ _) (Nat.le_refl _) _)
   · have h2 : letterB (s[0]'(by omega)).toNat = false := by
       cases hc : letterB (s[0]'(by omega)).toNat
       · rfl
       · exact absurd ⟨by omega, by omega, fun _ => hc⟩ hq
     clear hq
     go_enter Tryz.func74, Tryz.ntmps74
     go_wp2_with (first
       | (go_at_call 117; refine (letter_any _ _ (by omega) (byte_lt _)).mono ?_; rintro e w' ⟨rfl, rfl⟩)
       | (with_reducible refine st23 rfl _ _ rfl w.heap.size z12 rfl rfl rfl z12 (heap_alloc_new _ _) rfl ?_))
     refine bodyPost_ret (res_row_tmp (t := 3) rfl _ _ w.heap.size z12 (0, 0) rfl (setRow_heap _ _ _ _ _ _ (heap_alloc_new _ _)) rfl) rfl ?_
     exact HE.out _ (below_setRow (below_alloc1 _ _) (Nat.le_refl _) _)
theorem parse_any (s : ByteArray) (w : World) (hs : s.size ≤ maxLen) :
   Calls Tryz.prog 74 #[.string s] w fun e w' => e = .returned (.tuple #[.agg (bC (parseN s.data.toList)), .int .i64 (parseE s.data.toList)]) ∧ Below w.heap.size w w' := by
 by_cases h : 1 ≤ s.size ∧ s.size ≤ 12 ∧ ∀ (h : 0 < s.size), letterB s[0].toNat = true
 · exact parse_loop s w h.1 h.2.1 (h.2.2 (by omega))
 · refine parse_no s w hs ?_ h
   cases hn : isName s.data.toList
   · rfl
   · exfalso; apply h
     simp only [isName, Bool.and_eq_true, decide_eq_true_eq] at hn
     obtain ⟨⟨⟨h0, h1⟩, h2⟩, _⟩ := hn
     have h0' : 1 ≤ s.size := by simpa using h0
     refine ⟨h0', by simpa using h1, fun hz => ?_⟩
     have : s.data.toList.headD 0 = s[0] := by
       rw [← at_list s 0 (by omega), List.headD_eq_head?_getD, List.head?_eq_getElem?, List.getElem?_eq_getElem (by simpa using (by omega : 0 < s.size))]; rfl
     rw [← this]; exact h2
end Go.Proofs.YtbfefdedjcppaaaGreatDoor

/- The reference's Is and Pad. -/
namespace Go.Proofs.YtbfefdedjcppaaaGreatDoor
set_option maxRecDepth 100000
set_option maxHeartbeats 800000
open Go.RowKit
theorem head_at (s : ByteArray) (h : 0 < s.size) : s.data.toList.headD 0 = s[0] := by
 rw [← at_list s 0 h, List.headD_eq_head?_getD, List.head?_eq_getElem?, List.getElem?_eq_getElem (by simpa using h)]; rfl
theorem isName_no0 {l : List UInt8} (h : letterB (l.headD 0).toNat = false) : isName l = false := by
 unfold isName; rw [h]; simp
theorem isName_short {l : List UInt8} (h : l.length < 1) : isName l = false := by
 have : decide (1 ≤ l.length) = false := decide_eq_false (by omega)
 simp [isName, this]
theorem isName_long {l : List UInt8} (h : 12 < l.length) : isName l = false := by
 have : decide (l.length ≤ 12) = false := decide_eq_false (by omega)
 simp [isName, this]
theorem is_any (s : ByteArray) (w : World) (hs : s.size ≤ maxLen) :
   Calls Tryz.prog 80 #[.string s] w fun e w' => e = .returned (.bool (isName s.data.toList)) ∧ w = w' := by
 unfold maxLen at hs
 by_cases h0 : s.size < 1
 · have H := Lib.hid (isName_short (l := s.data.toList) (by simpa using h0))
   go_enter Tryz.func80, Tryz.ntmps80
   go_wp2_with fail
   go_ret
   exact ⟨ret_bool (by rw [H.out]), rfl⟩
 by_cases h1 : 12 < s.size
 · have H := Lib.hid (isName_long (l := s.data.toList) (by simpa using h1))
   go_enter Tryz.func80, Tryz.ntmps80
   go_wp2_with fail
   go_ret
   exact ⟨ret_bool (by rw [H.out]), rfl⟩
 have h0' : ((s.size : Int) < 1) = False := by simp; omega
 clear h0'
 go_enter Tryz.func80, Tryz.ntmps80
 go_wp2_with fail
 go_loop [3] (fun i => ∃ k : Nat, k ≤ s.size ∧ i = .int .i64 k ∧ Hid (∀ i (h : i < k) (h2 : i < s.size), signB s[i].toNat = true ∧ (i = 0 → letterB s[i].toNat = true))) (fun i => s.size - (intOf i).toNat)
 case atStart => exact ⟨0, Nat.zero_le _, rfl, fun i h => by omega⟩
 case round =>
   obtain ⟨k, hk, rfl, HA⟩ := hrel
   by_cases hlt : k < s.size
   · go_wp2_with fail
     all_goals
       try simp only [Bool.not_eq_true', Bool.not_eq_false', decide_eq_true_eq, decide_eq_false_iff_not, beq_iff_eq, beq_eq_false_iff_ne] at *
       first
         | (go_ret
            have hno : signB s[k].toNat = false ∨ (k = 0 ∧ letterB s[k].toNat = false) := by simp [signB, letterB]; omega
            refine ⟨ret_bool ?_, rfl⟩
            rcases hno with hno | ⟨rfl, hno⟩
            · exact (isName_no k (by simpa using hlt) (by rw [at_list s k hlt]; exact hno)).symm
            · exact (isName_no0 (by rw [head_at s hlt]; exact hno)).symm)
         | (go_round
            case rel =>
              have hyes : signB s[k].toNat = true ∧ (k = 0 → letterB s[k].toNat = true) := by simp [signB, letterB]; omega
              refine ⟨k + 1, by omega, by go_num, fun i h h2 => ?_⟩
              by_cases e : i = k
              · subst e; exact hyes
              · exact HA.out i (by omega) h2
            case measure => simp [intOf]; omega)
   · obtain rfl : k = s.size := by omega
     have H : Hid (isName s.data.toList = true) := isName_yes (by rw [Array.length_toList]; show 1 ≤ s.size; omega) (by rw [Array.length_toList]; show s.size ≤ 12; omega)
       (by rw [head_at s (by omega)]; exact (HA.out 0 (by omega) (by omega)).2 rfl) (fun i hi => by rw [at_list s i (by simpa using hi)]; exact (HA.out i (by simpa using hi) (by simpa using hi)).1)
     go_wp2_with fail
     go_ret
     exact ⟨ret_bool (by rw [H.out]), rfl⟩
end Go.Proofs.YtbfefdedjcppaaaGreatDoor

/- The reference's Pad. -/
namespace Go.Proofs.YtbfefdedjcppaaaGreatDoor
set_option maxHeartbeats 400000
open Go.RowKit
theorem res_row22 {fn : Func} {p : Tmp} (h : fn.results = #[.cell p 23]) (tmps : Array Value) (w : World) (g : Nat) (l : List UInt8) (fr : Nat × Nat)
   (hp : tmps.getD p undef = .pointer (some ⟨g, 0, none⟩)) (hg : w.heap[g]? = some (.cells (bC l) 23 fr)) (hl : l.length = 12) :
   (results fn tmps).run Tryz.prog w = .ok (.agg (bC l)) w :=
 results_cell_row h tmps w g 23 (bC l) fr _ hp hg Tryz.underlying23 rfl (by rw [info22, bC_size, hl])
theorem ld22 {ops : Array Oper} {rest : List Oper} {o : Oper} {a : Act} {w : World} {Q : Exit → Act → World → Prop} (hgd : o.guard = none) (x : Operand) (ho : o.op = .load 23 x)
   (g : Nat) (hx : a.eval x = .pointer (some ⟨g, 0, none⟩)) (l : List UInt8) (hl : l.length = 12) (fr : Nat × Nat) (hg : w.heap[g]? = some (.cells (bC l) 23 fr))
   (h : wpList Tryz.prog ops Q rest (a.put o.dst (.agg (bC l))) w) : wpList Tryz.prog ops Q (o :: rest) a w :=
 wpList_load_row hgd 23 x ho g hx 23 (bC l) fr _ hg Tryz.underlying23 rfl (by rw [info22, bC_size, hl]) h
theorem st22 {ops : Array Oper} {rest : List Oper} {o : Oper} {a : Act} {w : World} {Q : Exit → Act → World → Prop} (hgd : o.guard = none) (x y : Operand) (ho : o.op = .store 23 x y)
   (g : Nat) (l : List UInt8) (hx : a.eval x = .pointer (some ⟨g, 0, none⟩)) (hy : a.eval y = .agg (bC l)) (hl : l.length = 12)
   (old : List UInt8) (hg : w.heap[g]? = some (.cells (bC old) 23 (0, 0))) (hold : old.length = 12)
   (h : wpList Tryz.prog ops Q rest (a.put o.dst undef) (w.setRow g (bC l))) : wpList Tryz.prog ops Q (o :: rest) a w :=
 wpList_store_row hgd 23 x y ho g (bC l) hx hy 23 (bC old) hg (by rw [info22, bC_size, hl]) (by rw [bC_size, bC_size, hl, hold]) (bC_one l) h
theorem pad_take (l : List UInt8) (k : Nat) (h : l.length ≤ k ∨ 12 ≤ k) : pad (l.take k) = pad l := by
 rcases h with h | h
 · rw [List.take_of_length_le h]
 · unfold pad
   rw [List.take_take, Nat.min_eq_left h]
   by_cases hl : l.length ≤ 12
   · rw [List.take_of_length_le (show l.length ≤ k by omega)]
   · simp; omega
theorem pad_any (s : ByteArray) (w : World) (hs : s.size ≤ maxLen) :
   Calls Tryz.prog 81 #[.string s] w fun e w' => e = .returned (.agg (bC (pad s.data.toList))) ∧ Below w.heap.size w w' := by
 unfold maxLen at hs
 go_enter Tryz.func81, Tryz.ntmps81
 go_wp2_with fail
 rw [← bC_z12]
 go_loopw [4] (fun i wr => ∃ k : Nat, k ≤ s.size ∧ k ≤ 12 ∧ i = .int .i64 k ∧ wr = (w.alloc (.cells (bC z12) 23)).alloc (.cells (bC (pad (s.data.toList.take k))) 23)) (fun i _ => s.size - (intOf i).toNat)
 case atStart => exact ⟨0, Nat.zero_le _, Nat.zero_le _, rfl, by rw [List.take_zero, pad_nil]⟩
 case round =>
   obtain ⟨k, hk, hk12, rfl, rfl⟩ := hrel
   by_cases hlt : k < s.size ∧ k < 12
   · obtain ⟨hlt, hlt2⟩ := hlt
     have hc := bC_get (pad (s.data.toList.take k)) k (by rw [pad_length]; omega)
     go_wp2_with fail
     go_roundw
     case rel =>
       refine ⟨k + 1, by omega, by omega, by go_num, ?_⟩
       rw [bC_set, ← at_list s k hlt, pad_snoc s.data.toList k (by simpa using hlt) (by omega)]
     case measure => simp [intOf]; omega
   · have hp : pad (s.data.toList.take k) = pad s.data.toList := pad_take _ _ (by rw [Array.length_toList]; show s.size ≤ k ∨ 12 ≤ k; omega)
     rw [hp]
     clear hp
     have hq : k < s.size → ¬ k < 12 := fun a b => hlt ⟨a, b⟩
     clear hlt
     by_cases hlt : k < s.size
     · have hlt2 := hq hlt
       clear hq
       go_wp2_with (first
         | (with_reducible refine ld22 rfl _ rfl (w.heap.size + 1) rfl (pad s.data.toList) (pad_length _) (0, 0) (heap_alloc2_new _ _ _) ?_)
         | (with_reducible refine st22 rfl _ _ rfl w.heap.size (pad s.data.toList) rfl rfl (pad_length _) z12 (heap_alloc2_old _ _ _) rfl ?_))
       refine bodyPost_ret (res_row22 rfl _ _ w.heap.size (pad s.data.toList) (0, 0) rfl (setRow_heap _ _ _ _ _ _ (heap_alloc2_old _ _ _)) (pad_length _)) rfl ?_
       exact ⟨rfl, below_setRow (below_alloc2 _ _ _) (Nat.le_refl _) _⟩
     · clear hq
       go_wp2_with (first
         | (with_reducible refine ld22 rfl _ rfl (w.heap.size + 1) rfl (pad s.data.toList) (pad_length _) (0, 0) (heap_alloc2_new _ _ _) ?_)
         | (with_reducible refine st22 rfl _ _ rfl w.heap.size (pad s.data.toList) rfl rfl (pad_length _) z12 (heap_alloc2_old _ _ _) rfl ?_))
       refine bodyPost_ret (res_row22 rfl _ _ w.heap.size (pad s.data.toList) (0, 0) rfl (setRow_heap _ _ _ _ _ _ (heap_alloc2_old _ _ _)) (pad_length _)) rfl ?_
       exact ⟨rfl, below_setRow (below_alloc2 _ _ _) (Nat.le_refl _) _⟩
end Go.Proofs.YtbfefdedjcppaaaGreatDoor

/- bytes.IndexByte at a row of bytes; front, Right, Text. -/
namespace Go.Proofs.YtbfefdedjcppaaaGreatDoor
set_option maxHeartbeats 400000
open Go.RowKit
def Row (w : World) (b o : Nat) (l : List UInt8) : Prop := ∀ i (h : i < l.length), w.cell? ⟨b, o + i, none⟩ = some (.int .u8 (l[i].toNat : Int))
theorem row_nums {w : World} {b o : Nat} {l : List UInt8} (h : Row w b o l) : ∀ i, i < l.length → w.cell? ⟨b, o + i, none⟩ = some (.int .u8 ((l.map fun x => (x.toNat : Int)).getD i 0)) := fun i hi => by
 rw [h i hi]; simp [hi]
theorem nums_bytes (l : List UInt8) : Lib.bytesOf (l.map fun x => (x.toNat : Int)) = l := by
 unfold Lib.bytesOf
 rw [List.map_map]
 conv => rhs; rw [← List.map_id l]
 apply List.map_congr_left
 intro x _
 simp
theorem row_of_block {w : World} {b : Nat} {l : List UInt8} {t : TypeId} {fr : Nat × Nat} (h : w.heap[b]? = some (.cells (bC l) t fr)) : Row w b 0 l := fun i hi => by
 rw [Nat.zero_add, cell_of_row w b i _ t fr h, bC_get l i hi]
theorem run_indexByte (w : World) (b o n c : Nat) (l : List UInt8) (hl : l.length = n) (h : Row w b o l) (cv : Int) :
   (callFunc 148 #[.slice (some ⟨b, o, none⟩) n c, .int .u8 cv]).run Tryz.prog w = .ok (.value (.int .i64 (Lib.indexByte l cv.toNat.toUInt8))) w := by
 rw [run_callFunc_extern Tryz.func148 (by kernel_rfl) (by kernel_rfl) (by kernel_rfl) (e := Extern.BytealgIndexByte.indexByte) (by kernel_rfl)]
 have := Lib.run_indexByteSlice (P := Tryz.prog) w b o n c (l.map fun x => (x.toNat : Int)) (by simp [hl]) (by subst hl; exact row_nums h) cv
 rw [nums_bytes] at this
 rw [this]
 rfl
theorem indexByte_any (b n c : Nat) (l : List UInt8) (w : World) (hl : l.length = n) (h : Row w b 0 l) (r : Int) (hr : Lib.indexByte l 0 = r) :
   Calls Tryz.prog 144 #[.slice (some ⟨b, 0, none⟩) n c, .int .u8 0] w fun e w' => e = .returned (.int .i64 r) ∧ w = w' := by
 have hx := run_indexByte w b 0 n c l hl h 0
 rw [show (0 : Int).toNat.toUInt8 = 0 from rfl, hr] at hx
 clear hr
 go_enter Tryz.func144, Tryz.ntmps144
 go_wp2
 go_ret
 exact ⟨rfl, rfl⟩
theorem run_bytes_string (w : World) (b o n cap : Nat) (l : List UInt8) (h : Row w b o l) (hn : n ≤ l.length) :
   (convert 22 9 (.slice (some ⟨b, o, none⟩) n cap)).run Tryz.prog w = .ok (.string ⟨(l.take n).toArray⟩) w := by
 have := run_convert_bytes_arg (P := Tryz.prog) w 22 5 Tryz.underlying22 Tryz.underlying5 b o n cap ((l.take n).map fun x => (x.toNat : Int)) (by simp; omega) (fun i hi => by
   rw [h i (by omega)]
   simp [List.getElem?_take, hi, (by omega : i < l.length)]) 9 Tryz.underlying9
 rw [this]
 refine congrArg (fun s => Result.ok (Value.string s) w) (ByteArray.ext (Array.toList_inj.1 ?_))
 rw [strOfNums_data, List.map_map]
 show _ = l.take n
 conv => rhs; rw [← List.map_id (l.take n)]
 apply List.map_congr_left
 intro x _
 simp
def front (l : List UInt8) : List UInt8 := l.takeWhile (· != 0)
theorem indexByte_front : ∀ (l : List UInt8), (Lib.indexByte l 0 = -1 ∧ front l = l) ∨ (∃ k : Nat, k < l.length ∧ Lib.indexByte l 0 = k ∧ l.take k = front l)
 | [] => .inl ⟨rfl, rfl⟩
 | b :: l => by
   by_cases hb : b = 0
   · subst hb; exact .inr ⟨0, by simp, rfl, rfl⟩
   · have e1 : front (b :: l) = b :: front l := by simp [front, hb]
     rcases indexByte_front l with ⟨h1, h2⟩ | ⟨k, h0, h1, h2⟩
     · exact .inl ⟨by simp [Lib.indexByte, hb, h1], by rw [e1, h2]⟩
     · refine .inr ⟨k + 1, by simp; omega, ?_, by rw [e1, List.take_succ_cons, h2]⟩
       have : ¬ ((k : Int) = -1) := by omega
       simp [Lib.indexByte, hb, h1, this]
theorem front_length (l : List UInt8) : (front l).length ≤ l.length := by
 unfold front; exact (List.takeWhile_sublist _).length_le
theorem front_any (l : List UInt8) (w : World) (hl : l.length = 12) :
   Calls Tryz.prog 122 #[.agg (bC l)] w fun e w' => e = .returned (.string ⟨(front l).toArray⟩) ∧ Below w.heap.size w w' := by
 have hrow : Row (w.alloc (.cells (bC l) 24)) w.heap.size 0 l := row_of_block (heap_alloc_new _ _)
 rcases indexByte_front l with ⟨h1, h2⟩ | ⟨k, h0, h1, h2⟩
 · have hcv := run_bytes_string (w.alloc (.cells (bC l) 24)) w.heap.size 0 12 12 l hrow (by omega)
   rw [List.take_of_length_le (by omega)] at hcv
   have H := Lib.hid h2
   have H1 := Lib.hid h1
   have HR := Lib.hid hrow
   clear h2 h1 hrow
   go_enter Tryz.func122, Tryz.ntmps122
   go_wp2_with (go_at_call 144; refine (indexByte_any _ _ _ l _ hl HR.out _ H1.out).mono ?_; rintro e w' ⟨rfl, rfl⟩)
   go_ret
   exact ⟨by rw [H.out]; rfl, below_alloc1 _ _⟩
 · have hcv := run_bytes_string (w.alloc (.cells (bC l) 24)) w.heap.size 0 k 12 l hrow (by omega)
   have H := Lib.hid h2
   have H1 := Lib.hid h1
   have HR := Lib.hid hrow
   have hk : k ≤ 12 := by omega
   clear h2 h1 hrow h0
   go_enter Tryz.func122, Tryz.ntmps122
   go_wp2_with (go_at_call 144; refine (indexByte_any _ _ _ l _ hl HR.out _ H1.out).mono ?_; rintro e w' ⟨rfl, rfl⟩)
   go_ret
   exact ⟨by rw [H.out]; rfl, below_alloc1 _ _⟩
end Go.Proofs.YtbfefdedjcppaaaGreatDoor

/- Right, Text. -/
namespace Go.Proofs.YtbfefdedjcppaaaGreatDoor
set_option maxHeartbeats 400000
open Go.RowKit
def rightB (l : List UInt8) : Bool := isName (front l) && pad (front l) == l
def textL (l : List UInt8) : List UInt8 := if rightB l then front l else []
theorem front_small {l : List UInt8} (hl : l.length = 12) : (⟨(front l).toArray⟩ : ByteArray).size ≤ maxLen := by
 have := front_length l
 show (front l).toArray.size ≤ maxLen
 unfold maxLen
 simp; omega
theorem ld23g {ops : Array Oper} {rest : List Oper} {o : Oper} {a : Act} {w : World} {Q : Exit → Act → World → Prop} (hw : Region.wanted o (yielded ops a.tmps) = true) (x : Operand) (ho : o.op = .load 24 x)
   (g : Nat) (hx : a.eval x = .pointer (some ⟨g, 0, none⟩)) (l : List UInt8) (hl : l.length = 12) (fr : Nat × Nat) (hg : w.heap[g]? = some (.cells (bC l) 24 fr))
   (h : wpList Tryz.prog ops Q rest (a.put o.dst (.agg (bC l))) w) : wpList Tryz.prog ops Q (o :: rest) a w :=
 wpList_step fun _ hK => by
   rw [if_pos hw]
   exact wp_load_row 24 x ho g hx 24 (bC l) fr _ hg Tryz.underlying24 rfl (by rw [info23, bC_size, hl]) (hK _ _ h)
theorem right_any (l : List UInt8) (w : World) (hl : l.length = 12) :
   Calls Tryz.prog 86 #[.agg (bC l)] w fun e w' => e = .returned (.bool (rightB l)) ∧ Below w.heap.size w w' := by
 have hf := front_small hl
 have HF := Lib.hid hf
 have HL := Lib.hid hl
 clear hf hl
 cases hn : isName (front l)
 · have HN := Lib.hid hn; clear hn
   have HE : Hid (parseE (front l) = 15) := by show parseE (front l) = 15; rw [parseE, HN.out]; rfl
   go_enter Tryz.func86, Tryz.ntmps86
   go_wp2_with (first
     | (with_reducible refine ld23g rfl _ rfl w.heap.size rfl l HL.out (0, 0) (heap_alloc_new _ _) ?_)
     | (with_reducible refine st23 rfl _ _ rfl _ (parseN (front l)) rfl rfl (parseN_length _) z12 (heap_alloc_new _ _) rfl ?_)
     | (go_at_call 122; refine (front_any l _ HL.out).mono ?_; rintro e w1 ⟨rfl, hb1⟩)
     | (go_at_call 74; refine (parse_any ⟨(front l).toArray⟩ _ HF.out).mono ?_; rintro e w2 ⟨rfl, hb2⟩; simp only [show (⟨(front l).toArray⟩ : ByteArray).data.toList = front l from rfl, HE.out]))
   go_ret
   refine ⟨ret_bool (by rw [rightB, HN.out]; rfl), ?_⟩
   exact below_setRow (((below_alloc1 _ _).trans ((hb1.mono (by simp)).trans (hb2.mono (by have := hb1.size; simp at this; omega)))).alloc (by have := hb1.size; have := hb2.size; simp at *; omega) _) (by have := hb1.size; have := hb2.size; simp at *; omega) _
 · have HN := Lib.hid hn; clear hn
   have HE : Hid (parseE (front l) = 0) := by show parseE (front l) = 0; rw [parseE, HN.out]; rfl
   have heq := eql23 (xs := parseN (front l)) (ys := l) (hx := parseN_length _) (hy := HL.out)
   go_enter Tryz.func86, Tryz.ntmps86
   go_wp2_with (first
     | (with_reducible refine ld23g rfl _ rfl w.heap.size rfl l HL.out (0, 0) (heap_alloc_new _ _) ?_)
     | (with_reducible refine ld23g rfl _ rfl w2.heap.size rfl (parseN (front l)) (parseN_length _) (0, 0) (setRow_heap _ _ _ _ _ _ (heap_alloc_new _ _)) ?_)
     | (with_reducible refine ld23g rfl _ rfl w.heap.size rfl l HL.out (0, 0) ?hg ?_)
     | (with_reducible refine st23 rfl _ _ rfl _ (parseN (front l)) rfl rfl (parseN_length _) z12 (heap_alloc_new _ _) rfl ?_)
     | (go_at_call 122; refine (front_any l _ HL.out).mono ?_; rintro e w1 ⟨rfl, hb1⟩)
     | (go_at_call 74; refine (parse_any ⟨(front l).toArray⟩ _ HF.out).mono ?_; rintro e w2 ⟨rfl, hb2⟩; simp only [show (⟨(front l).toArray⟩ : ByteArray).data.toList = front l from rfl, HE.out]))
   case hg =>
     have s1 := hb1.size
     have s2 := hb2.size
     simp only [World.size_alloc] at s1
     rw [setRow_other _ _ _ _ (by omega), heap_alloc_old _ _ (by omega), hb2.block _ (by omega), hb1.block _ (by simp)]
     exact heap_alloc_new _ _
   have s1 := hb1.size
   have s2 := hb2.size
   simp only [World.size_alloc] at s1
   go_ret
   refine ⟨ret_bool (by rw [rightB, HN.out, parseN, HN.out]; rfl), ?_⟩
   exact below_setRow (((below_alloc1 _ _).trans ((hb1.mono (by simp)).trans (hb2.mono (by omega)))).alloc (by omega) _) (by omega) _
theorem text_any (l : List UInt8) (w : World) (hl : l.length = 12) :
   Calls Tryz.prog 89 #[.agg (bC l)] w fun e w' => e = .returned (.string ⟨(textL l).toArray⟩) ∧ Below w.heap.size w w' := by
 have HL := Lib.hid hl
 clear hl
 cases hn : rightB l
 · have HN := Lib.hid hn
   have hr : ∀ W : World, Calls Tryz.prog 86 #[.agg (bC l)] W fun e w' => e = .returned (.bool false) ∧ Below W.heap.size W w' := fun W => hn ▸ right_any l W HL.out
   have HR := Lib.hid hr
   clear hn hr
   go_enter Tryz.func89, Tryz.ntmps89
   go_wp2_with (first
     | (with_reducible refine ld23g rfl _ rfl w.heap.size rfl l HL.out (0, 0) (heap_alloc_new _ _) ?_)
     | (go_at_call 86; refine (HR.out _).mono ?_; rintro e w1 ⟨rfl, hb1⟩))
   go_ret
   refine ⟨by rw [textL, HN.out]; rfl, (below_alloc1 _ _).trans (hb1.mono (by simp))⟩
 · have HN := Lib.hid hn
   have hr : ∀ W : World, Calls Tryz.prog 86 #[.agg (bC l)] W fun e w' => e = .returned (.bool true) ∧ Below W.heap.size W w' := fun W => hn ▸ right_any l W HL.out
   have HR := Lib.hid hr
   clear hn hr
   go_enter Tryz.func89, Tryz.ntmps89
   go_wp2_with (first
     | (with_reducible refine ld23g rfl _ rfl w.heap.size rfl l HL.out (0, 0) (heap_alloc_new _ _) ?_)
     | (with_reducible refine ld23g rfl _ rfl w.heap.size rfl l HL.out (0, 0) ?hg ?_)
     | (go_at_call 86; refine (HR.out _).mono ?_; rintro e w1 ⟨rfl, hb1⟩)
     | (go_at_call 122; refine (front_any l _ HL.out).mono ?_; rintro e w2 ⟨rfl, hb2⟩))
   case hg => rw [hb1.block _ (by simp)]; exact heap_alloc_new _ _
   have s1 := hb1.size
   simp only [World.size_alloc] at s1
   go_ret
   refine ⟨by rw [textL, HN.out]; rfl, (below_alloc1 _ _).trans ((hb1.mono (by simp)).trans (hb2.mono (by omega)))⟩
end Go.Proofs.YtbfefdedjcppaaaGreatDoor

/- A region, whether it draws its order or not, whose operations read and whose callees lay blocks alone: walked once, in the order of the text, at the class of all worlds that are as W below W's end. -/
namespace Go.Proofs.YtbfefdedjcppaaaGreatDoor
open Go.RowKit
section
variable {ops : Array Oper} {Q : Act → Prop} {a : Act} {o : Oper} {rest : List Oper}
theorem wq_load {W : World} (T : TypeId) (x : Operand) (g : Nat) (cs : Array Value) (t : TypeId) (fr : Nat × Nat) (d : TypeDesc) (hd : (match d with | .struct _ | .array _ _ => true | _ => false) = true) (hw : Region.wanted o (yielded ops a.tmps) = true) (ho : o.op = .load T x)
   (hx : a.eval x = .pointer (some ⟨g, 0, none⟩)) (hg : W.heap[g]? = some (.cells cs t fr))
   (hu : Tryz.prog.underlying T = some d) (hi : (Tryz.prog.info? T).map (·.size) = some cs.size)
   (h : wpQuiet Tryz.prog ops (fun w' => ∃ p : Regrown, w' = Sort.grow (redrawn W p.d) p.os) Q rest (a.put o.dst (.agg cs))) : wpQuiet Tryz.prog ops (fun w' => ∃ p : Regrown, w' = Sort.grow (redrawn W p.d) p.os) Q (o :: rest) a := by
 refine wq_valC (.agg cs) hw (fun w hC => ?_) h
 obtain ⟨⟨dq, osq⟩, rfl⟩ := hC
 have hg' := rg_block hg dq osq
 have hload : (loadVar T ⟨g, 0, none⟩).run Tryz.prog (Sort.grow (redrawn W dq) osq) = .ok (.agg cs) (Sort.grow (redrawn W dq) osq) := by
   refine run_loadVar_row _ g t T cs fr d hg' hu ?_ hi
   revert hd
   cases d <;> intro hd <;> first | rfl | exact hd
 unfold execOp
 simp only [ho, hx, Instr.loadAt, Instr.sureAddr, Sem.run_bind, Sem.run_pure, Result.andThen_ok, hload]
theorem wq_load22 {W : World} (x : Operand) (g : Nat) (l : List UInt8) (fr : Nat × Nat) (hw : Region.wanted o (yielded ops a.tmps) = true) (ho : o.op = .load 23 x)
   (hx : a.eval x = .pointer (some ⟨g, 0, none⟩)) (hg : W.heap[g]? = some (.cells (bC l) 23 fr)) (hl : l.length = 12)
   (h : wpQuiet Tryz.prog ops (fun w' => ∃ p : Regrown, w' = Sort.grow (redrawn W p.d) p.os) Q rest (a.put o.dst (.agg (bC l)))) : wpQuiet Tryz.prog ops (fun w' => ∃ p : Regrown, w' = Sort.grow (redrawn W p.d) p.os) Q (o :: rest) a :=
 wq_load 23 x g (bC l) 23 fr _ rfl hw ho hx hg Tryz.underlying23 (by rw [info22, bC_size, hl]) h
end
end Go.Proofs.YtbfefdedjcppaaaGreatDoor

/- The reference's Text. -/
namespace Go.Proofs.YtbfefdedjcppaaaGreatDoor
set_option maxRecDepth 100000
set_option maxHeartbeats 400000
open Go.RowKit
theorem front_take : ∀ (l : List UInt8) (k : Nat), k ≤ l.length → (∀ i (_ : i < k) (h2 : i < l.length), l[i] ≠ 0) → (k = l.length ∨ ∀ h : k < l.length, l[k] = 0) → front l = l.take k
 | [], k, _, _, _ => by simp [front]
 | b :: l, 0, _, _, h => by
   rcases h with h | h
   · simp at h
   · have : b = 0 := h (by simp)
     simp [front, this]
 | b :: l, k + 1, hk, ha, h => by
   have hb : b ≠ 0 := ha 0 (by omega) (by simp)
   have ih := front_take l k (by simpa using hk) (fun i hi h2 => ha (i + 1) (by omega) (by simp; omega)) (by
     rcases h with h | h
     · exact .inl (by simpa using h)
     · exact .inr fun h2 => h (by simp; omega))
   rw [List.take_succ_cons, ← ih]
   simp [front, hb]
theorem refText_any (l : List UInt8) (w : World) (hl : l.length = 12) :
   Calls Tryz.prog 136 #[.agg (bC l)] w fun e w' => e = .returned (.string ⟨(textL l).toArray⟩) ∧ Below w.heap.size w w' := by
 have HL := Lib.hid hl
 go_enter Tryz.func136, Tryz.ntmps136
 go_wp2_with fail
 go_loop [3] (fun i => ∃ k : Nat, k ≤ 12 ∧ i = .int .i64 k ∧ Hid (∀ i (h : i < k) (h2 : i < l.length), l[i] ≠ 0)) (fun i => 12 - (intOf i).toNat)
 case atStart => exact ⟨0, Nat.zero_le _, rfl, fun i h => by omega⟩
 case round =>
   obtain ⟨k, hk, rfl, HA⟩ := hrel
   have hcell : ∀ h : k < l.length, (w.alloc (.cells (bC l) 23)).cell? ⟨w.heap.size, k, none⟩ = some (.int .u8 (l[k].toNat : Int)) := fun h => by
     have := row_of_block (heap_alloc_new w (.cells (bC l) 23)) k h
     simpa using this
   by_cases hgo : ∃ hlt : k < l.length, l[k] ≠ 0
   · obtain ⟨hlt, hz⟩ := hgo
     have hc := hcell hlt
     have h12 : k < 12 := by omega
     clear hcell
     have hz' : ((l[k]'hlt).toNat : Int) ≠ 0 := fun h => hz (by apply UInt8.toNat_inj.1; simpa using h)
     have HZ := Lib.hid hz; clear hz
     go_wp2_with fail
     go_round
     case rel =>
       refine ⟨k + 1, by omega, by go_num, fun i h h2 => ?_⟩
       by_cases e : i = k
       · subst e; exact HZ.out
       · exact HA.out i (by omega) h2
     case measure => simp [intOf]; omega
   · have hft : front l = l.take k := front_take l k (by omega) HA.out (by
       by_cases e : k = l.length
       · exact .inl e
       · exact .inr fun h => Classical.byContradiction fun hz => hgo ⟨h, hz⟩)
     have hcv := run_bytes_string (w.alloc (.cells (bC l) 23)) w.heap.size 0 k 12 l (row_of_block (heap_alloc_new _ _)) (by omega)
     rw [← hft] at hcv
     have hz : ∀ h : k < l.length, (l[k].toNat : Int) = 0 := fun h => by
       have : l[k] = 0 := Classical.byContradiction fun hz => hgo ⟨h, hz⟩
       rw [this]; rfl
     clear hgo
     have HF := Lib.hid hft; clear hft
     have hk' : (k : Int) ≤ 12 := by omega
     by_cases hlt : k < 12
     all_goals
       try (have hc := hcell (by omega); rw [hz (by omega)] at hc)
       clear hcell hz
       go_wp2_with fail
       cases hn : isName (front l)
       · have HN := Lib.hid hn
         have hi : ∀ W : World, Calls Tryz.prog 80 #[.string ⟨(front l).toArray⟩] W fun e w' => e = .returned (.bool false) ∧ W = w' := fun W => hn ▸ is_any ⟨(front l).toArray⟩ W (front_small HL.out)
         clear hn
         refine wp_region_quiet_below (by kernel_rfl) (by kernel_rfl) ?_
         repeat (go_big_quiet_step (exact rg_call0 hi _ _))
         refine wpQuiet_nil ?_
         rintro _ ⟨⟨dq, osq⟩, rfl⟩
         go_wp2_with fail
         go_ret
         exact ⟨by rw [textL, rightB, HN.out]; rfl, (below_alloc1 _ _).trans ((below_regrown _ dq osq).mono (by simp))⟩
       · have HN := Lib.hid hn
         have hi : ∀ W : World, Calls Tryz.prog 80 #[.string ⟨(front l).toArray⟩] W fun e w' => e = .returned (.bool true) ∧ W = w' := fun W => hn ▸ is_any ⟨(front l).toArray⟩ W (front_small HL.out)
         have hp : ∀ W : World, Calls Tryz.prog 81 #[.string ⟨(front l).toArray⟩] W fun e w' => e = .returned (.agg (bC (pad (front l)))) ∧ Below W.heap.size W w' := fun W => pad_any ⟨(front l).toArray⟩ W (front_small HL.out)
         have hneq := neq22 (xs := pad (front l)) (ys := l) (hx := pad_length _) (hy := HL.out)
         clear hn
         refine wp_region_quiet_below (by kernel_rfl) (by kernel_rfl) ?_
         repeat (first
           | (with_reducible refine wq_load22 _ w.heap.size l (0, 0) rfl rfl rfl (heap_alloc_new _ _) HL.out ?_; simp only [Act.put, wrT])
           | go_big_quiet_step (first | exact rg_call0 hi _ _ | exact rg_call hp _ _))
         refine wpQuiet_nil ?_
         rintro _ ⟨⟨dq, osq⟩, rfl⟩
         cases he : pad (front l) == l
         · have HQ := Lib.hid he; clear he
           go_wp2_with fail
           go_ret
           exact ⟨by rw [textL, rightB, HN.out, HQ.out]; rfl, (below_alloc1 _ _).trans ((below_regrown _ dq osq).mono (by simp))⟩
         · have HQ := Lib.hid he; clear he
           go_wp2_with fail
           go_ret
           exact ⟨by rw [textL, rightB, HN.out, HQ.out]; rfl, (below_alloc1 _ _).trans ((below_regrown _ dq osq).mono (by simp))⟩
end Go.Proofs.YtbfefdedjcppaaaGreatDoor

/- How arrays of bytes come in. -/
namespace Go.Proofs.YtbfefdedjcppaaaGreatDoor
open Go.ChangeShapes Go.WideShapes Go.ChangeAt Go.RowKit Go.Deep
def byteOf : Value → UInt8
 | .int _ x => UInt8.ofNat x.toNat
 | _ => 0
theorem bytes_of_trod {H : Type} {enc : TypeId × Value → H} {P : Program} {w : World} {base : Nat} {spare : Nat → Bool} {held : Bool} {t e : TypeId} {n fuel : Nat} {cs : List Value} {x : DataW H × List MemPlace}
   (ht : P.underlying t = some (.array n e)) (he : P.underlying e = some (.int .u8)) (hce : P.cellsOf e = 1) (hl : cs.length = n)
   (hf : DataW.trod enc P w base spare held fuel t cs = some x) : ∃ l : List UInt8, l.length = n ∧ cs = (bC l).toList := by
 obtain ⟨xs, m, _, _, hlen, hxs, hall⟩ := DataW.trod_array ht hf
 refine ⟨cs.map byteOf, by simpa using hl, ?_⟩
 simp only [bC, List.map_map]
 apply List.ext_getElem?
 intro i
 by_cases hi : i < n
 · have h1 := hall i hi
   rw [List.getElem?_eq_getElem (by omega)] at h1
   have e1 : (cs.drop (i * P.cellsOf e)).take (P.cellsOf e) = [cs[i]'(by omega)] := by
     rw [hce, Nat.mul_one, List.drop_eq_getElem_cons (by omega), List.take_succ_cons, List.take_zero]
   rw [e1] at h1
   obtain ⟨x, hx, _, wx⟩ := DataW.trod_int he h1
   simp only [List.cons.injEq, and_true] at hx
   have hw : 0 ≤ x ∧ x ≤ 255 := by
     simpa [Lit.wf, show IntKind.u8.min = 0 from rfl, show IntKind.u8.max = 255 from rfl] using wx
   have e2 : cs[i]? = some (.int .u8 x) := by
     rw [← hx]; simp
   simp only [List.getElem?_map, e2, Option.map_some, Function.comp, byteOf]
   congr 2
   simp
   omega
 · rw [List.getElem?_eq_none (by omega), List.getElem?_eq_none (by simp; omega)]
end Go.Proofs.YtbfefdedjcppaaaGreatDoor

/- Results that lie in memory: the first one a row of cells. -/
namespace Go.Proofs.YtbfefdedjcppaaaGreatDoor
open Go.RowKit
theorem res_rowc_tmp {P : Program} {fn : Func} {p t : Tmp} {T T' : TypeId} {d : TypeDesc} (h : fn.results = #[.cell p T, .tmp t]) (tmps : Array Value) (w : World) (g : Nat) (cs : Array Value) (fr : Nat × Nat)
   (hp : tmps.getD p undef = .pointer (some ⟨g, 0, none⟩)) (hg : w.heap[g]? = some (.cells cs T' fr)) (hu : P.underlying T = some d) (hd : (match d with | .struct _ | .array _ _ => true | _ => false) = true) (hi : (P.info? T).map (·.size) = some cs.size) :
   (results fn tmps).run P w = .ok (.tuple #[.agg cs, tmps.getD t undef]) w := by
 have hp' : tmps[p]?.getD undef = .pointer (some ⟨g, 0, none⟩) := by simpa using hp
 have hload : (loadVar T ⟨g, 0, none⟩).run P w = .ok (.agg cs) w := by
   refine run_loadVar_row _ g T' T cs fr d hg hu ?_ hi
   revert hd
   cases d <;> intro hd <;> first | rfl | exact hd
 simp [results, h, hp', asAddr, hload]
theorem res_rowc {P : Program} {fn : Func} {p : Tmp} {T T' : TypeId} {d : TypeDesc} (h : fn.results = #[.cell p T]) (tmps : Array Value) (w : World) (g : Nat) (cs : Array Value) (fr : Nat × Nat)
   (hp : tmps.getD p undef = .pointer (some ⟨g, 0, none⟩)) (hg : w.heap[g]? = some (.cells cs T' fr)) (hu : P.underlying T = some d) (hd : (match d with | .struct _ | .array _ _ => true | _ => false) = true) (hi : (P.info? T).map (·.size) = some cs.size) :
   (results fn tmps).run P w = .ok (.agg cs) w := by
 have hp' : tmps[p]?.getD undef = .pointer (some ⟨g, 0, none⟩) := by simpa using hp
 have hload : (loadVar T ⟨g, 0, none⟩).run P w = .ok (.agg cs) w := by
   refine run_loadVar_row _ g T' T cs fr d hg hu ?_ hi
   revert hd
   cases d <;> intro hd <;> first | rfl | exact hd
 simp [results, h, hp', asAddr, hload]
theorem gate_st {P : Program} {ops : Array Oper} {rest : List Oper} {o : Oper} {a : Act} {w : World} {Q : Exit → Act → World → Prop} (T : TypeId) (x y : Operand) (_ : o.op = .store T x y) (h : wpList P ops Q (o :: rest) a w) : wpList P ops Q (o :: rest) a w := h
theorem gate_ld {P : Program} {ops : Array Oper} {rest : List Oper} {o : Oper} {a : Act} {w : World} {Q : Exit → Act → World → Prop} (T : TypeId) (x : Operand) (_ : o.op = .load T x) (h : wpList P ops Q (o :: rest) a w) : wpList P ops Q (o :: rest) a w := h
theorem gate_bd {P : Program} {ops : Array Oper} {rest : List Oper} {o : Oper} {a : Act} {w : World} {Q : Exit → Act → World → Prop} (T : TypeId) (xs : Array (Nat × Operand)) (_ : o.op = .build T xs) (h : wpList P ops Q (o :: rest) a w) : wpList P ops Q (o :: rest) a w := h
theorem wl_bd {P : Program} {ops : Array Oper} {rest : List Oper} {o : Oper} {a : Act} {w : World} {Q : Exit → Act → World → Prop} (hg : o.guard = none) (t : TypeId) (parts : List (Nat × Operand)) (ho : o.op = .build t parts.toArray)
   (vs : List (Nat × Value)) (hv : parts.map (fun p => (p.1, a.eval p.2)) = vs) (cells : Array Value) (hf : P.built t vs = some cells)
   (h : wpList P ops Q rest (a.put o.dst (.agg cells)) w) : wpList P ops Q (o :: rest) a w :=
 wpList_buildTo hg t parts.toArray ho o.dst rfl cells (by
   have e : (parts.toArray.map fun (i, x) => (i, a.eval x)).toList = vs := by rw [← hv]; simp
   rw [e]; exact hf) h
theorem setRow_at {w : World} {g : Nat} {old cs : Array Value} {T : TypeId} {fr : Nat × Nat} (hg : w.heap[g]? = some (.cells old T fr)) : (w.setRow g cs).heap[g]? = some (.cells cs T fr) := setRow_heap _ _ _ _ _ _ hg
theorem setRow_below {B : Nat} {a w : World} (h : Below B a w) {g : Nat} (hg : B ≤ g) (cs : Array Value) : Below B a (w.setRow g cs) :=
 h.trans ⟨rfl, rfl, rfl, by simp, fun k hk => setRow_other w g k cs (by omega)⟩
end Go.Proofs.YtbfefdedjcppaaaGreatDoor

/- Parts of slices; appending a part of a slice; laws for the steps of a region that draws. -/
namespace Go.Proofs.YtbfefdedjcppaaaGreatDoor
open Go.RowKit
section
variable {α : Type} {enc : α → List Value} {k : Nat}
def cutQ (k : Nat) (q : Option Addr) (j co : Nat) : Option Addr := if co = j then q else q.map (·.add (j * k))
theorem run_sl_lo {P : Program} {T E : TypeId} (hT : P.underlying T = some (.slice E)) (hk : (P.info? E).map (·.size) = some k) (q : Option Addr) (n co j : Nat) (hj : j ≤ n) (w : World) :
   (Instr.sliceAt T (.slice q n co) (some (.int .i64 (j : Nat))) none none).run P w = .ok (.slice (cutQ k q j co) (n - j) (co - j)) w := by
 obtain ⟨ie, hie, hs⟩ := Option.map_eq_some_iff.1 hk
 have hjn : (j : Int) ≤ n := by omega
 have hs' : (sizeOf E).run P w = .ok k w := by simp [sizeOf, typeInfo, hie, hs]
 simp [Instr.sliceAt, Instr.slice, run_underlying hT, Instr.sliceBounds, run_sliceBound, hs', cutQ, hjn, (by omega : (0 : Int) ≤ (j : Int))]
theorem SlAt.cut {w : World} {q : Option Addr} {ys : List α} (h : SlAt enc k w q ys) (j co : Nat) (hc : ys.length ≤ co) : SlAt enc k w (cutQ k q j co) (ys.drop j) := by
 unfold cutQ
 split
 · rename_i e
   rw [List.drop_eq_nil_of_le (by omega)]
   exact SlAt.nil _ _
 · intro i hi
   rw [List.length_drop] at hi
   obtain ⟨b, o, rfl, _⟩ := h 0 (by omega)
   obtain ⟨b', o', h1, h2, h3⟩ := h.drop j i (by rw [List.length_drop]; exact hi)
   refine ⟨b', o', ?_, h2, h3⟩
   rw [← h1]
   show some (Addr.add _ _) = some _
   rw [Addr.add_mid]
theorem slat_range (hk : ∀ x, (enc x).length = k) {w : World} {b : Nat} : ∀ (ys : List α) (o : Nat), SlAt enc k w (some ⟨b, o, none⟩) ys → w.rangeAt b o (ys.flatMap enc)
 | [], _, _ => fun j v hv => by simp at hv
 | y :: ys, o, h => by
   obtain ⟨b', o', h1, _, h3⟩ := h 0 (by simp)
   simp only [Option.some.injEq, Addr.mk.injEq] at h1
   obtain ⟨rfl, rfl, _⟩ := h1
   have ht := slat_range hk ys (o + k) (by have := h.drop 1; simpa using this)
   intro j v hv
   rw [List.flatMap_cons] at hv
   rcases Nat.lt_or_ge j k with hj | hj
   · rw [List.getElem?_append_left (by rw [hk]; exact hj)] at hv
     have := h3 j v hv
     simpa using this
   · rw [List.getElem?_append_right (by rw [hk]; exact hj), hk] at hv
     have := ht (j - k) v hv
     rwa [show o + k + (j - k) = o + j by omega] at this
theorem OwnE.none_cap {E : TypeId} {w : World} {base n co : Nat} {q : Option Addr} {xs : List α} (h : OwnE enc E k w base (.slice q n co) xs) (hq : q = none) : co = 0 := by
 obtain ⟨_, ⟨h2, _⟩ | ⟨g, cap, cur, h2, _⟩⟩ := h
 · simp only [Value.slice.injEq] at h2; exact h2.2.2
 · simp only [Value.slice.injEq] at h2; rw [hq] at h2; cases h2.1
theorem OwnE.cap_le {E : TypeId} {w : World} {base n co : Nat} {q : Option Addr} {xs : List α} (h : OwnE enc E k w base (.slice q n co) xs) : n = xs.length ∧ n ≤ co := by
 obtain ⟨p, cap', hv⟩ := h.slice
 have hn : n = xs.length := by simp only [Value.slice.injEq] at hv; exact hv.2.1
 refine ⟨hn, ?_⟩
 obtain ⟨_, ⟨h2, h3⟩ | ⟨g, cap, cur, h2, _, _, hc, _⟩⟩ := h
 · simp only [Value.slice.injEq] at h2; omega
 · simp only [Value.slice.injEq] at h2; omega
theorem op_app {P : Program} {o : Oper} {a : Act} {w : World} {K : Act → World → Prop} {Q : Exit → Act → World → Prop} (T E : TypeId) (bytes : Nat) (z : Value) (hT : P.underlying T = some (.slice E)) (hinf : (P.info? E).map (fun i => (i.zero, i.size, i.bytes)) = some (some z, k, bytes)) (hzk : z.cells.size = k) (hk0 : 0 < k) (hk : ∀ x, (enc x).length = k) (h1 : ∀ x, ∀ u ∈ enc x, u.oneCell' = true)
   (s x : Operand) (ho : o.op = .call { callee := .builtin .append, args := #[s, x], argTypes := #[T, T] })
   (base : Nat) (v : Value) (xs : List α) (hs : a.eval s = v) (hown : OwnE enc E k w base v xs) (q : Option Addr) (m c : Nat) (ys : List α) (hx : a.eval x = .slice q m c) (hm : ys.length = m) (hq : SlAt enc k w q ys) (hq0 : q = none → c = 0)
   (hlen : (xs.length + m) * bytes ≤ 140737488355328) (hml : xs.length + m ≤ maxLen) (hbase : base ≤ w.heap.size)
   (h : ∀ v' w', OwnE enc E k w' base v' (xs ++ ys) → w.grownBy w' v.ownBlock → (v'.ownBlock = v.ownBlock ∨ v'.ownBlock = some w.heap.size) → K (a.put o.dst v') w') : o.wp P a w K Q := by
 obtain ⟨i, hi, hz, hsz, hby⟩ := info_parts hinf
 cases q with
 | none =>
   have hy : ys = [] := by
     cases ys with
     | nil => rfl
     | cons y ys =>
       obtain ⟨b, o, h1, _⟩ := hq 0 (by simp)
       cases h1
   subst hy
   have hm0 : m = 0 := by simpa using hm.symm
   subst hm0
   have hc := hq0 rfl
   subst hc
   have hrun := run_append_owned_none (P := P) (w := w) base T o.type E i k hT hi v xs.length (xs.flatMap enc) hown
   unfold Oper.wp
   simp [execOp, ho, resolve, invoke, builtin, hs, hx, hrun, Result.andThen]
   exact h v w (by rw [List.append_nil]; exact hown) ⟨rfl, rfl, rfl, Nat.le_refl _, fun _ _ _ => rfl⟩ (Or.inl rfl)
 | some ad =>
   have hnews : ∀ j u, (ys.flatMap enc)[j]? = some u → w.cell? (ad.add j) = some u := by
     cases ys with
     | nil => intro j u hu; simp at hu
     | cons y ys =>
       obtain ⟨b, o, h1, _⟩ := hq 0 (by simp)
       cases h1
       intro j u hu
       rw [Addr.add_mid]
       exact slat_range hk _ _ hq j u hu
   have hall : ∀ u ∈ ys.flatMap enc, u.oneCell' = true := by
     intro u hu
     obtain ⟨y, _, hy⟩ := List.mem_flatMap.1 hu
     exact h1 y u hy
   obtain ⟨v', w', hr, g1, g2, _, g4⟩ := run_append_own_at (P := P) w base T o.type E i z k bytes hT hi hz hsz hby hzk hk0 v xs.length (xs.flatMap enc) hown ad m c (ys.flatMap enc) (by rw [flat_len hk, hm]) hnews hall hml hlen hbase
   unfold Oper.wp execOp
   simp only [ho, resolve, invoke, builtin, Sem.run_bind, Sem.run_pure, Result.andThen_ok, List.map_toArray, List.map_cons, List.map_nil, hs, hx, hr]
   refine h v' w' ?_ g2 g4
   have e : (xs ++ ys).flatMap enc = xs.flatMap enc ++ ys.flatMap enc := List.flatMap_append
   unfold OwnE
   rw [e, List.length_append, hm]
   exact g1
theorem op_bs1 {P : Program} {o : Oper} {a : Act} {w : World} {K : Act → World → Prop} {Q : Exit → Act → World → Prop} (T E : TypeId) (bytes : Nat) (z : Value) (hT : P.underlying T = some (.slice E)) (hinf : (P.info? E).map (fun i => (i.zero, i.size, i.bytes)) = some (some z, k, bytes)) (_ : z.cells.size = k) (hk0 : 0 < k) (hk2 : k ≤ 1000000) (hk : ∀ x, (enc x).length = k)
   (x : Operand) (ho : o.op = .buildSlice T 1 #[(0, x)]) (y : α) (hx : a.eval x = .agg (enc y).toArray)
   (h : K (a.put o.dst (.slice (some ⟨w.heap.size, 0, none⟩) 1 1)) (w.alloc (.cells (enc y).toArray E))) : o.wp P a w K Q := by
 obtain ⟨ie, hie, hz, hsz, hby⟩ := info_parts hinf
 have hb := run_buildSlice (P := P) w T E 1 #[(0, .agg (enc y).toArray)] (enc y).toArray ie z hT hie hz (by rw [hsz]; omega) (by rw [hsz]; omega) (by
   rw [hsz]
   have := Great.fill_whole (s := k) hk0 [.agg (enc y).toArray] ((Array.range (1 * k)).map (z.cells[· % z.cells.size]!)) (fun v hv => by
     simp at hv; subst hv
     show (enc y).toArray.size = k
     simp [hk]) (by simp)
   simp only [List.zipIdx_cons, List.zipIdx_nil, List.map_cons, List.map_nil] at this
   rw [this]
   simp [Value.cells])
 unfold Oper.wp execOp
 have hp : (#[(0, x)].map fun (p : Nat × Operand) => (p.1, a.eval p.2)) = #[(0, Value.agg (enc y).toArray)] := by simp [hx]
 simp only [ho, Sem.run_bind, hp, hb, Result.andThen_ok]
 exact h
end
end Go.Proofs.YtbfefdedjcppaaaGreatDoor

/- A region that draws its order: operations that read and calls that lay blocks, in whatever order; behind all of them a tail in its own order. -/
namespace Go.Proofs.YtbfefdedjcppaaaGreatDoor
open Go.RowKit
section
variable {P : Program} {ops : Array Oper} {md : Region.Mode} {C : World → Prop}
def wpAnyLQ (P : Program) (md : Region.Mode) (ops : Array Oper) (C : World → Prop) (n : Nat) (L : Array Bool → Act → Prop) : Nat → Array Bool → Act → Prop
 | 0, listed, a => L listed a
 | f + 1, listed, a =>
   Region.ready md ops listed ≠ [] ∧ ∀ i ∈ Region.ready md ops listed, i < n ∧ qOp P ops C i (wpAnyLQ P md ops C n L f (listed.setIfInBounds i true)) a
theorem wpAny_of_headQ {n g : Nat} {L : Array Bool → Act → Prop} {Q' : Exit → Act → World → Prop} (hL : ∀ listed a w, C w → L listed a → wpAny P md ops Q' g listed a w) :
   ∀ (f : Nat) (listed : Array Bool) (a : Act) (w : World), C w → wpAnyLQ P md ops C n L f listed a → wpAny P md ops Q' (f + g) listed a w
 | 0, listed, a, w, hw, h => by rw [Nat.zero_add]; exact hL _ _ _ hw h
 | f + 1, listed, a, w, hw, h => by
   rw [show f + 1 + g = (f + g) + 1 by omega]
   exact ⟨fun h0 => absurd h0 h.1, fun i hi => wpOp_of_qOp hw (fun a' w' hw' h' => wpAny_of_headQ hL f _ a' w' hw' h') (h.2 i hi).2⟩
theorem wpAnyLQ_first {n i : Nat} {oi : Oper} {v : Value} {L : Array Bool → Act → Prop} (hi : ops[i]? = some oi) (hsel : ∀ (j : Nat) (o : Oper) cs b, ops[j]? = some o → o.op ≠ .select cs b)
   (hs : Region.sinkB md ops n = true) (hc : Region.chainB md ops n = true) (hn : n < ops.size) (hin : i < n)
   (hdone : ∀ listed a, L listed a → ∀ j ∈ Region.ready md ops listed, n ≤ j) :
   ∀ (f : Nat) (listed : Array Bool) (a : Act), HeadInv md ops n listed →
     (∀ j oj, ops[j]? = some oj → j ≠ i → listed.getD j true = false → (∀ e ∈ oj.after, Region.binds md e = true → e.on ≠ i) → oi.apart ops oj = true) →
     i ∈ Region.ready md ops listed → YieldsIn P ops C oi v a →
     wpAnyLQ P md ops C n L f (listed.setIfInBounds i true) (a.put oi.dst v) → wpAnyLQ P md ops C n L (f + 1) listed a := by
 intro f
 induction f with
 | zero =>
   intro listed a inv _ hr hy H
   have hun := (mem_ready.1 hr).1
   refine ⟨fun h => (by rw [h] at hr; cases hr), fun j hj => ?_⟩
   have hjn : j < n := by
     rcases Nat.lt_or_ge j n with h | h
     · exact h
     · exact absurd hj (tail_waits hs hc hn inv _ i rfl hin hun j h)
   refine ⟨hjn, ?_⟩
   by_cases hji : j = i
   · subst hji; exact hy.qOp hi H
   · have := hdone _ _ H j (ready_mono hj hji)
     omega
 | succ f ih =>
   intro listed a inv hfree hr hy H
   have hun := (mem_ready.1 hr).1
   refine ⟨fun h => (by rw [h] at hr; cases hr), fun j hj => ?_⟩
   have hjn : j < n := by
     rcases Nat.lt_or_ge j n with h | h
     · exact h
     · exact absurd hj (tail_waits hs hc hn inv _ i rfl hin hun j h)
   refine ⟨hjn, ?_⟩
   by_cases hji : j = i
   · subst hji; exact hy.qOp hi H
   · have h1 := (H.2 j (ready_mono hj hji)).2
     obtain ⟨hjun, oj, hoj, hall⟩ := mem_ready.1 hj
     have hnot : ∀ e ∈ oj.after, Region.binds md e = true → e.on ≠ i := fun e he hb heq => by
       have h1 := hall e he hb
       rw [heq, getD_both hun] at h1
       cases h1
     have h2 := qOp_put hoj (hfree j oj hoj hji hjun hnot) (fun cs b => hsel i oi cs b hi) (fun cs b => hsel j oj cs b hoj) hy h1
     have hfree' : ∀ k ok, ops[k]? = some ok → k ≠ i → (listed.setIfInBounds j true).getD k true = false →
         (∀ e ∈ ok.after, Region.binds md e = true → e.on ≠ i) → oi.apart ops ok = true := fun k ok hk hki hun hno => by
       refine hfree k ok hk hki ?_ hno
       by_cases hjk : j = k
       · subst hjk; exact hjun
       · rw [getD_set_ne true hjk] at hun; exact hun
     refine qOp_mono (fun a' h3 => ih (listed.setIfInBounds j true) a' (inv.set hj hjn) hfree' (ready_mono hr (Ne.symm hji)) h3.1 ?_) h2
     rw [Array.setIfInBounds_comm _ _ hji]
     exact h3.2
theorem wpAnyLQ_lex {n g : Nat} {Lq : Act → Prop} (hsel : Region.noSelect ops = true) (hs : Region.sinkB md ops n = true) (hc : Region.chainB md ops n = true) (hn : n < ops.size) :
   ∀ (l : List Oper) (k : Nat) (listed : Array Bool) (a : Act), (∀ j, j < l.length → l[j]? = ops[k + j]?) → k + l.length = n → HeadInv md ops n listed →
   Region.lexHead md ops g l.length k listed = true → wpQuiet P ops C Lq l a →
   wpAnyLQ P md ops C n (fun listed' a' => Region.seqB md ops g n listed' = true ∧ Lq a') l.length listed a
 | [], k, listed, a, _, hk, _, hB, h => by
   have : k = n := by simpa using hk
   subst this
   exact ⟨by simpa [Region.lexHead] using hB, h⟩
 | o :: l, k, listed, a, hl, hk, inv, hB, h => by
   have h0 : ops[k]? = some o := by simpa using (hl 0 (by simp)).symm
   simp only [List.length_cons, Region.lexHead, Bool.and_eq_true] at hB
   obtain ⟨⟨hr, hf⟩, hB'⟩ := hB
   have hkn : k < n := by simp only [List.length_cons] at hk; omega
   have hr' : k ∈ Region.ready md ops listed := by simpa using hr
   have hst : qOp P ops C k (wpQuiet P ops C Lq l) a := by unfold qOp; simp only [h0]; exact h
   obtain ⟨v, hy, hK⟩ := yieldsIn_of_qOp h0 hst
   exact wpAnyLQ_first h0 (Region.noSelect_spec hsel) hs hc hn hkn (fun listed' a' hL => seqB_ready hL.1) l.length listed a inv (Region.free_spec h0 hf) hr' hy
     (wpAnyLQ_lex hsel hs hc hn l (k + 1) _ _ (fun j hj => by have := hl (j + 1) (by simp; omega); simpa [Nat.add_assoc, Nat.add_comm 1 j] using this) (by simp only [List.length_cons] at hk; omega) (inv.set hr' hkn) hB' hK)
end
theorem wp_region_quiet_tail {P : Program} {C : World → Prop} {id : Nat} {Q : Exit → Act → World → Prop} {a : Act} {w : World} {l : List Oper} (n : Nat) (hm : P.follows .mixedOrders = true) (hB : Region.lexTailB .any l.toArray n = true) (hC : C { w with drawn := w.drawn + 1 })
   (h : wpQuiet P l.toArray C (fun a' => ∀ w', C w' → wpList P l.toArray Q (l.drop n) a' w') (l.take n) a) : (Code.region id l.toArray true).wp P Q a w := by
 simp only [Region.lexTailB, Bool.and_eq_true, decide_eq_true_eq] at hB
 obtain ⟨⟨⟨⟨hsel, hn⟩, hs⟩, hc⟩, hlex⟩ := hB
 have hn' : n < l.length := by simpa using hn
 have htl : (l.take n).length = n := by simp; omega
 have hdl : (l.drop n).length = l.toArray.size - n := by simp
 have inv0 : HeadInv .any l.toArray n (Array.replicate l.toArray.size false) :=
   ⟨by simp, fun j oj _ hl => (by rw [getD_replicate_false] at hl; cases hl), fun t _ ht => getD_in (by simpa using ht) (getD_replicate_false _ _)⟩
 have H := wpAnyLQ_lex (md := .any) (g := l.toArray.size - n) hsel hs hc hn (l.take n) 0 _ a (fun j hj => by
   have hj' : j < n := by rw [htl] at hj; exact hj
   simp [hj']) (by simpa using htl) inv0 (by rw [htl]; exact hlex) h
 refine wp_region_any hm ?_
 have := wpAny_of_headQ (Q' := Q) (g := l.toArray.size - n) (fun listed a' w' hw' hL => by
   have := wpAny_of_seq (md := .any) (Q' := Q) (l.drop n) n listed a' w' (fun j => by simp [List.getElem?_drop]) (by rw [hdl]; exact hL.1) (hL.2 w' hw')
   rwa [hdl] at this) _ _ _ _ hC H
 rw [htl, show n + (l.toArray.size - n) = l.toArray.size by omega] at this
 exact this
theorem wp_region_below_tail {P : Program} {id : Nat} {Q : Exit → Act → World → Prop} {a : Act} {w : World} {l : List Oper} (n : Nat) (hm : P.follows .mixedOrders = true) (hB : Region.lexTailB .any l.toArray n = true)
   (h : wpQuiet P l.toArray (fun w' => ∃ p : Regrown, w' = Sort.grow (redrawn w p.d) p.os) (fun a' => ∀ w', (∃ p : Regrown, w' = Sort.grow (redrawn w p.d) p.os) → wpList P l.toArray Q (l.drop n) a' w') (l.take n) a) : (Code.region id l.toArray true).wp P Q a w :=
 wp_region_quiet_tail (C := fun w' => ∃ p : Regrown, w' = Sort.grow (redrawn w p.d) p.os) n hm hB ⟨⟨w.drawn + 1, #[]⟩, by rw [Sort.grow_empty]; rfl⟩ h
end Go.Proofs.YtbfefdedjcppaaaGreatDoor

/- The wrap of a row that lists variables, the world's shape kept. -/
namespace Go.Proofs.YtbfefdedjcppaaaGreatDoor
open Go
variable {H : Type} {enc : TypeId × Value → H}
theorem returnsInHanded_of_change_both {a : Assume} {C : Checked} {os : Os} {f : FuncId} {fn : Func} {s : ChangeSpec} {conds : List PathCond} {apart fresh handsOn again : Bool} {X : World → Array Value → Prop}
   (hX : ∀ (w w' : World) (args : Array Value), w.heap = w'.heap → X w args → X w' args)
   (own : ownKnob C.prog.godebug = none) (started : os.Started) (noInit : C.prog.inits.idxOf? f = none) (hfn : C.prog.funcs[f]? = some fn)
   (witness : ∃ (w : World) (tape : Tape) (i : Input), w.os = os ∧ (w.forCall tape i).Shaped C.prog ∧ i.vars = [] ∧ Input.okWide C.prog (w.forCall tape i) .any w.heap.size f i ∧
     ((s.pre enc C.prog fn conds apart (w.forCall tape i).memory i.args ∧ X (w.forCall tape i).memory i.args) ∧ sizedMet enc C.prog fn (OpenSpec.ofChange s) apart (w.forCall tape i).memory i.args) ∧ a.holds C.prog (lone (Frame.enter C.prog f i.args .normal) [] (w.forCall tape i)))
   (contract : ∀ (W : World) (base : Nat) (args : Array Value) (ds gs : List (DataW H)) (before : List MemPlace),
     (∀ (j : Nat) t v, fn.params[j]? = some t → args[j]? = some v → Value.okWide C.prog W .any base t v) →
     DataW.Whole enc C.prog fn.params.toList s.vars apart W args.toList ds gs before →
     conds.all (PathCond.test C.prog ⟨fn.params.toList, ds, s.plain.varTypes C.prog, gs⟩) = true →
     (DataW.weightsEach C.prog (fn.params.toList ++ s.plain.varTypes C.prog) (ds ++ gs)).all (· ≤ reachBytes) = true → X W args →
     W.ShapedOpen C.prog →
     a.holds C.prog (lone (Frame.enter C.prog f args .normal) [] W) →
     Calls C.prog f args W fun e W' => ∃ v, e = .returned v ∧ s.post enc C.prog fn apart fresh handsOn again W args v W') :
   ReturnsInHanded a C os f .any (fun w args => (s.pre enc C.prog fn conds apart w args ∧ X w args) ∧ sizedMet enc C.prog fn (OpenSpec.ofChange s) apart w args) (s.post enc C.prog fn apart fresh handsOn again) := by
 refine returnsInHanded_of_calls own started noInit witness ?_
 intro w tape i _ hsh _ hok hpre hholds
 obtain ⟨_, _, _, fn', hfn', _, _, _, _, hval⟩ := hok
 have e : fn' = fn := Option.some.inj (hfn'.symm.trans hfn)
 subst e
 obtain ⟨⟨⟨ds, gs, before, hw, hc⟩, hx⟩, hz⟩ := hpre
 have hw' := DataW.Whole.of_heap (w' := w.forCall tape i) (by rfl) hw
 refine (contract (w.forCall tape i) w.heap.size i.args ds gs before hval hw' hc (hz.weights hw) (hX _ _ _ (by rfl) hx) hsh hholds).mono fun e W' ⟨v, he, hp⟩ => ?_
 subst he
 exact ChangeSpec.post_blind hp
end Go.Proofs.YtbfefdedjcppaaaGreatDoor

/- A region that draws its order: quiet operations, then two variables laid and stored ('x, y := .., ..'). Over any program. -/
namespace Go.Proofs.YtbfefdedjcppaaaGreatDoor
open Go.RowKit
section
variable {P : Program} {Q : Exit → Act → World → Prop}
def ordB (md : Region.Mode) (ops : Array Oper) : Bool := (List.range ops.size).all fun i => ((ops[i]?).map fun o => o.after.all fun e => !Region.binds md e || decide (e.on < i)).getD true
def waitsB (md : Region.Mode) (ops : Array Oper) (i j : Nat) : Bool := ((ops[i]?).map fun o => o.after.any fun e => Region.binds md e && e.on == j).getD false
theorem ready_waits {md : Region.Mode} {ops : Array Oper} {listed : Array Bool} {i j : Nat} (h : i ∈ Region.ready md ops listed) (hw : waitsB md ops i j = true) : listed.getD j false = true := by
 obtain ⟨_, o, ho, hall⟩ := mem_ready.1 h
 unfold waitsB at hw
 rw [ho] at hw
 simp only [Option.map_some, Option.getD_some, Array.any_eq_true'] at hw
 obtain ⟨e, he, hb⟩ := hw
 simp only [Bool.and_eq_true, beq_iff_eq] at hb
 rw [← hb.2]; exact hall e he hb.1
theorem all_of_ready_nil {md : Region.Mode} {ops : Array Oper} {listed : Array Bool} (hz : listed.size = ops.size) (ho : ordB md ops = true) (hr : Region.ready md ops listed = []) : ∀ i, i < ops.size → listed.getD i false = true := by
 intro i
 induction i using Nat.strongRecOn with
 | ind i ih =>
   intro hi
   cases hl : listed.getD i false with
   | true => rfl
   | false =>
     exfalso
     have hm : i ∈ Region.ready md ops listed := by
       refine mem_ready.2 ⟨?_, ops[i], Array.getElem?_eq_getElem hi, fun e he hb => ?_⟩
       · simp only [Array.getD_eq_getD_getElem?, Array.getElem?_eq_getElem (hz ▸ hi : i < listed.size), Option.getD_some] at hl ⊢; exact hl
       · have h1 := List.all_eq_true.1 ho i (List.mem_range.2 hi)
         rw [Array.getElem?_eq_getElem hi] at h1
         simp only [Option.map_some, Option.getD_some, Array.all_eq_true'] at h1
         have h2 := h1 e he
         rw [hb] at h2
         have h3 : e.on < i := by simpa using h2
         exact ih e.on h3 (by omega)
     rw [hr] at hm
     cases hm
theorem wpAny_inv {md : Region.Mode} {ops : Array Oper} (Inv : Array Bool → Act → World → Prop) (ho : ordB md ops = true)
   (hs : ∀ listed a w, listed.size = ops.size → Inv listed a w → ∀ i ∈ Region.ready md ops listed, wpOp P ops Q i (Inv (listed.setIfInBounds i true)) a w)
   (he : ∀ listed a w, listed.size = ops.size → (∀ i, i < ops.size → listed.getD i false = true) → Inv listed a w → Q .normal a w) :
   ∀ fuel (listed : Array Bool) a w, listed.size = ops.size → listed.toList.count false ≤ fuel → Inv listed a w → wpAny P md ops Q fuel listed a w := by
 intro fuel
 induction fuel with
 | zero =>
   intro listed a w hz hf hi
   have hr : Region.ready md ops listed = [] := by
     rw [List.eq_nil_iff_forall_not_mem]
     intro i hm
     obtain ⟨h1, o, h2, _⟩ := mem_ready.1 hm
     have hil : i < listed.size := by rw [hz]; exact (Array.getElem?_eq_some_iff.1 h2).1
     have h3 : listed[i] = false := by simpa [Array.getD_eq_getD_getElem?, Array.getElem?_eq_getElem hil] using h1
     have h4 : false ∈ listed.toList := by rw [← h3]; exact Array.getElem_mem_toList hil
     have := List.count_pos_iff.2 h4
     omega
   exact ⟨hr, he listed a w hz (all_of_ready_nil hz ho hr) hi⟩
 | succ fuel ih =>
   intro listed a w hz hf hi
   refine ⟨fun hr => he listed a w hz (all_of_ready_nil hz ho hr) hi, fun i hm => wpOp_mono (fun a' w' h => ih _ a' w' (by simpa using hz) ?_ h) (hs listed a w hz hi i hm)⟩
   obtain ⟨h1, o, h2, _⟩ := mem_ready.1 hm
   have hil : i < listed.size := by rw [hz]; exact (Array.getElem?_eq_some_iff.1 h2).1
   have h3 : listed[i] = false := by simpa [Array.getD_eq_getD_getElem?, Array.getElem?_eq_getElem hil] using h1
   have h4 : false ∈ listed.toList := by rw [← h3]; exact Array.getElem_mem_toList hil
   have hc := List.count_pos_iff.2 h4
   rw [Array.toList_setIfInBounds, List.count_set (by simpa using hil)]
   have h5 : listed.toList[i]'(by simpa using hil) = false := by simpa using h3
   rw [h5, if_pos (show (false == false) = true from rfl), if_neg (show ¬ (true == false) = true by decide)]
   omega
structure Fr (a0 : Act) (D : List Nat) (a : Act) : Prop where
 size : a.tmps.size = a0.tmps.size
 defers : a.defers = a0.defers
 off : ∀ k, k ∉ D → a.tmps.getD k undef = a0.tmps.getD k undef
theorem Fr.put {a0 a : Act} {D : List Nat} (h : Fr a0 D a) (d : Nat) (v : Value) (hd : d ∈ D) : Fr a0 D (a.put (some d) v) :=
 ⟨by simpa [Act.put] using h.size, h.defers, fun k hk => by
   have hne : d ≠ k := fun e => hk (e ▸ hd)
   rw [← h.off k hk]
   simp [Act.put, Array.getD_eq_getD_getElem?, hne]⟩
theorem put_same (a : Act) (d : Nat) (v : Value) (hd : d < a.tmps.size) : (a.put (some d) v).tmps.getD d undef = v := by
 simp [Act.put, Array.getD_eq_getD_getElem?, hd]
theorem put_other (a : Act) (d k : Nat) (v : Value) (hd : d ≠ k) : (a.put (some d) v).tmps.getD k undef = a.tmps.getD k undef := by
 simp [Act.put, Array.getD_eq_getD_getElem?, hd]
def puts (t : Array Value) : List (Nat × Value) → Array Value
 | [] => t
 | (d, v) :: r => puts (t.setIfInBounds d v) r
theorem puts_size : ∀ (l : List (Nat × Value)) (t : Array Value), (puts t l).size = t.size
 | [], _ => rfl
 | (d, v) :: r, t => by rw [puts, puts_size r]; simp
theorem puts_off (k : Nat) : ∀ (l : List (Nat × Value)) (t : Array Value), k ∉ l.map (·.1) → (puts t l).getD k undef = t.getD k undef
 | [], _, _ => rfl
 | (d, v) :: r, t, h => by
   simp only [List.map_cons, List.mem_cons, not_or] at h
   rw [puts, puts_off k r _ h.2]
   simp [Array.getD_eq_getD_getElem?, Ne.symm h.1]
theorem puts_at : ∀ (l : List (Nat × Value)) (t : Array Value), (l.map (·.1)).Nodup → (∀ x ∈ l, x.1 < t.size) → ∀ x ∈ l, (puts t l).getD x.1 undef = x.2
 | [], _, _, _, x, hx => by cases hx
 | (d, v) :: r, t, hn, hb, x, hx => by
   simp only [List.map_cons, List.nodup_cons] at hn
   rcases List.mem_cons.1 hx with rfl | hx
   · rw [puts, puts_off d r _ hn.1]
     have : d < t.size := hb (d, v) List.mem_cons_self
     simp [Array.getD_eq_getD_getElem?, this]
   · rw [puts]
     exact puts_at r _ hn.2 (fun y hy => by simpa using hb y (List.mem_cons_of_mem _ hy)) x hx
theorem Fr.eq {a0 a : Act} {l : List (Nat × Value)} (h : Fr a0 (l.map (·.1)) a) (hn : (l.map (·.1)).Nodup) (hb : ∀ x ∈ l, x.1 < a0.tmps.size) (hv : ∀ x ∈ l, a.tmps.getD x.1 undef = x.2) : a = ⟨puts a0.tmps l, a0.defers⟩ := by
 obtain ⟨t, df⟩ := a
 have e : t = puts a0.tmps l := by
   refine Array.ext (by rw [puts_size]; exact h.size) fun k hk hk2 => ?_
   have e1 : t.getD k undef = (puts a0.tmps l).getD k undef := by
     by_cases hm : k ∈ l.map (·.1)
     · obtain ⟨x, hx, rfl⟩ := List.mem_map.1 hm
       rw [puts_at l _ hn hb x hx]; exact hv x hx
     · rw [puts_off k l _ hm]; exact h.off k hm
   simpa [Array.getD_eq_getD_getElem?, hk, hk2] using e1
 subst e
 have := h.defers
 simp only at this
 rw [this]
theorem set_ne {listed : Array Bool} {i j : Nat} {d : Bool} (h : i ≠ j) : (listed.setIfInBounds i true).getD j d = listed.getD j d := by
 simp [Array.getD_eq_getD_getElem?, h]
theorem wpOp_val {ops : Array Oper} {i : Nat} {o : Oper} {a : Act} {w w' : World} {v : Value} {K : Act → World → Prop} (hi : ops[i]? = some o) (hg : o.guard = none) (hr : (execOp a.eval o).run P w = .ok (.value v) w') (h : K (a.put o.dst v) w') : wpOp P ops Q i K a w := by
 unfold wpOp
 simp only [hi]
 rw [if_pos (by unfold Region.wanted; rw [hg])]
 left
 unfold Oper.wp
 rw [hr]
 exact h
theorem wpOp_skip {ops : Array Oper} {i : Nat} {o : Oper} {a : Act} {w w' : World} {K : Act → World → Prop} (hi : ops[i]? = some o) (hg : o.guard = none) (hr : (execOp a.eval o).run P w = .ok .skip w') (h : K (a.put o.dst undef) w') : wpOp P ops Q i K a w := by
 unfold wpOp
 simp only [hi]
 rw [if_pos (by unfold Region.wanted; rw [hg])]
 left
 unfold Oper.wp
 rw [hr]
 exact h
theorem exec_ldr {o : Oper} {a : Act} {w : World} (T : TypeId) (x : Operand) (ho : o.op = .load T x)
   (b f : Nat) (cs : List Value) (d : TypeDesc) (hu : P.underlying T = some d) (hd : d.isRow = true) (hs : (P.info? T).map (·.size) = some cs.length) (hx : a.eval x = .pointer (some ⟨b, f, none⟩)) (hc : w.rangeAt b f cs) : (execOp a.eval o).run P w = .ok (.value (.agg cs.toArray)) w := by
 have := run_loadAt_mid (P := P) _ b f T cs d hc hu hd hs
 unfold execOp
 simp only [ho, hx, Sem.run_bind, this, Result.andThen_ok, Sem.run_pure]
theorem listed_set {listed : Array Bool} {i j : Nat} (hj : (listed.setIfInBounds i true).getD j false = true) : j = i ∨ listed.getD j false = true := by
 by_cases h : i = j
 · exact Or.inl h.symm
 · right
   simpa [Array.getD_eq_getD_getElem?, Array.getElem?_setIfInBounds, h] using hj
theorem listed_of {listed : Array Bool} {i j : Nat} (hj : listed.getD j false = true) : (listed.setIfInBounds i true).getD j false = true := by
 by_cases h : i = j
 · subst h
   by_cases hz : i < listed.size
   · simp [Array.getD_eq_getD_getElem?, hz]
   · simp [Array.getD_eq_getD_getElem?, hz] at hj
 · simpa [Array.getD_eq_getD_getElem?, Array.getElem?_setIfInBounds, h] using hj
def LaidV (W0 : World) (a : Act) (w : World) (p : Nat) (cs : Array Value) (T : TypeId) : Prop :=
 ∃ g, a.tmps.getD p undef = .pointer (some ⟨g, 0, none⟩) ∧ W0.heap.size ≤ g ∧ w.heap[g]? = some (.cells cs T (0, 0))
theorem LaidV.below {W0 : World} {a a' : Act} {w w' : World} {p : Nat} {cs : Array Value} {T : TypeId} (h : LaidV W0 a w p cs T) (ha : a'.tmps.getD p undef = a.tmps.getD p undef) (hb : Below w.heap.size w w') : LaidV W0 a' w' p cs T := by
 obtain ⟨g, h1, h2, h3⟩ := h
 exact ⟨g, ha.trans h1, h2, (hb.block g (lt_heap h3)).trans h3⟩
end
end Go.Proofs.YtbfefdedjcppaaaGreatDoor

/- A region that draws its order: operations that turn the world, each waiting for the one before; between them operations that read, in whatever order. Over any program. -/
namespace Go.Proofs.YtbfefdedjcppaaaGreatDoor
open Go.RowKit
section
variable {P : Program} {Q : Exit → Act → World → Prop}
def putO (a : Act) : Option (Nat × Value) → Act
 | some (d, v) => a.put (some d) v
 | none => a
def Held (DV : List (Option (Nat × Value))) (a : Act) (i : Nat) : Prop := ∀ d v, DV[i]? = some (some (d, v)) → a.tmps.getD d undef = v
structure ChainInv (md : Region.Mode) (ops : Array Oper) (C : Nat → World → Prop) (a0 : Act) (DV : List (Option (Nat × Value))) (E : List Nat) (listed : Array Bool) (a : Act) (w : World) : Prop where
 fr : Fr a0 ((DV.filterMap id).map (·.1)) a
 val : ∀ i, listed.getD i false = true → Held DV a i
 down : ∀ i j, listed.getD i false = true → waitsB md ops i j = true → listed.getD j false = true
 at_ : ∃ k, k ≤ E.length ∧ C k w ∧ ∀ r (h : r < E.length), (listed.getD E[r] false = true ↔ r < k)
theorem DV_mem {DV : List (Option (Nat × Value))} {i d : Nat} {v : Value} (h : DV[i]? = some (some (d, v))) : (d, v) ∈ DV.filterMap id := by
 refine List.mem_filterMap.2 ⟨some (d, v), List.mem_of_getElem? h, rfl⟩
theorem DV_ne : ∀ {DV : List (Option (Nat × Value))} {i j d e : Nat} {v u : Value}, ((DV.filterMap id).map (·.1)).Nodup → i ≠ j → DV[i]? = some (some (d, v)) → DV[j]? = some (some (e, u)) → d ≠ e
 | [], _, _, _, _, _, _, _, _, h, _ => by simp at h
 | x :: r, i, j, d, e, v, u, hn, hij, hi, hj => by
   cases x with
   | none =>
     cases i with
     | zero => simp at hi
     | succ i =>
       cases j with
       | zero => simp at hj
       | succ j => exact DV_ne (DV := r) (i := i) (j := j) (by simpa using hn) (by omega) (by simpa using hi) (by simpa using hj)
   | some y =>
     simp only [List.filterMap_cons, id_eq, List.map_cons, List.nodup_cons] at hn
     cases i with
     | zero =>
       cases j with
       | zero => omega
       | succ j =>
         simp only [List.getElem?_cons_zero, Option.some.injEq] at hi
         simp only [List.getElem?_cons_succ] at hj
         rintro rfl
         subst hi
         exact hn.1 (List.mem_map.2 ⟨_, DV_mem hj, rfl⟩)
     | succ i =>
       cases j with
       | zero =>
         simp only [List.getElem?_cons_zero, Option.some.injEq] at hj
         simp only [List.getElem?_cons_succ] at hi
         rintro rfl
         subst hj
         exact hn.1 (List.mem_map.2 ⟨_, DV_mem hi, rfl⟩)
       | succ j => exact DV_ne (DV := r) (i := i) (j := j) hn.2 (by omega) (by simpa using hi) (by simpa using hj)
theorem gd_rep (m j : Nat) : (Array.replicate m false).getD j false = false := by
 rw [Array.getD_eq_getD_getElem?, Array.getElem?_replicate]
 split <;> rfl
theorem nodup_inj {E : List Nat} (h : E.Nodup) {r s : Nat} (hr : r < E.length) (hs : s < E.length) (e : E[r] = E[s]) : r = s := by
 have h1 := List.pairwise_iff_getElem.1 h
 rcases Nat.lt_trichotomy r s with hlt | he | hlt
 · exact absurd e (h1 r s hr hs hlt)
 · exact he
 · exact absurd e.symm (h1 s r hs hr hlt)
theorem ChainInv.step {md : Region.Mode} {ops : Array Oper} {C : Nat → World → Prop} {a0 : Act} {DV : List (Option (Nat × Value))} {E : List Nat} {listed : Array Bool} {a : Act} {w w' : World} {i : Nat}
   (I : ChainInv md ops C a0 DV E listed a w) (hlen : DV.length = ops.size) (hn : ((DV.filterMap id).map (·.1)).Nodup) (hbd : ∀ k ∈ (DV.filterMap id).map (·.1), k < a0.tmps.size)
   (hi : i ∈ Region.ready md ops listed)
   (hat : ∃ k, k ≤ E.length ∧ C k w' ∧ ∀ r (h : r < E.length), ((listed.setIfInBounds i true).getD E[r] false = true ↔ r < k)) :
   ChainInv md ops C a0 DV E (listed.setIfInBounds i true) (putO a (DV[i]?.getD none)) w' := by
 obtain ⟨hun, oi, hoi, _⟩ := mem_ready.1 hi
 have hisz : i < ops.size := (Array.getElem?_eq_some_iff.1 hoi).1
 have hdi : ∃ x, DV[i]? = some x := ⟨DV[i]'(by omega), List.getElem?_eq_getElem (by omega)⟩
 obtain ⟨x, hx⟩ := hdi
 rw [hx]
 simp only [Option.getD_some]
 have hdown : ∀ i' j, (listed.setIfInBounds i true).getD i' false = true → waitsB md ops i' j = true → (listed.setIfInBounds i true).getD j false = true := by
   intro i' j hl hw
   rcases listed_set hl with rfl | hl
   · exact listed_of (ready_waits hi hw)
   · exact listed_of (I.down i' j hl hw)
 cases x with
 | none =>
   refine ⟨I.fr, fun j hl => ?_, hdown, hat⟩
   rcases listed_set hl with rfl | hl
   · intro d v hd; rw [hx] at hd; simp at hd
   · exact I.val j hl
 | some y =>
   obtain ⟨d, v⟩ := y
   have hm : d ∈ (DV.filterMap id).map (·.1) := List.mem_map.2 ⟨_, DV_mem hx, rfl⟩
   refine ⟨I.fr.put _ _ hm, fun j hl => ?_, hdown, hat⟩
   intro e u he
   by_cases hji : j = i
   · subst hji
     rw [hx] at he
     simp only [Option.some.injEq, Prod.mk.injEq] at he
     obtain ⟨rfl, rfl⟩ := he
     exact put_same _ _ _ (by rw [I.fr.size]; exact hbd _ hm)
   · show (a.put (some d) v).tmps.getD e undef = u
     rw [put_other _ _ _ _ (DV_ne hn (Ne.symm hji) hx he)]
     exact I.val j ((listed_set hl).resolve_left hji) e u he
structure BaseInv (md : Region.Mode) (ops : Array Oper) (a0 : Act) (DV : List (Option (Nat × Value))) (listed : Array Bool) (a : Act) : Prop where
 fr : Fr a0 ((DV.filterMap id).map (·.1)) a
 val : ∀ i, listed.getD i false = true → Held DV a i
 down : ∀ i j, listed.getD i false = true → waitsB md ops i j = true → listed.getD j false = true
end
end Go.Proofs.YtbfefdedjcppaaaGreatDoor

/- A drawn region whose turning operations wait for one another in a chain, with values that are known only at their operation: as many as there are; a drawn region that lays one variable and stores it last. Over any program. -/
namespace Go.Proofs.YtbfefdedjcppaaaGreatDoor
open Go.RowKit
section
variable {P : Program} {Q : Exit → Act → World → Prop}
theorem wpOp_wp {ops : Array Oper} {i : Nat} {o : Oper} {a : Act} {w : World} {K : Act → World → Prop} (hi : ops[i]? = some o) (hg : o.guard = none) (h : o.wp P a w K Q) : wpOp P ops Q i K a w := by
 unfold wpOp
 simp only [hi]
 rw [if_pos (by unfold Region.wanted; rw [hg])]
 left
 exact h
theorem wpOp_as {ops : Array Oper} {i : Nat} {o : Oper} {a : Act} {w : World} {K : Act → World → Prop} (hi : ops[i]? = some o) (hg : o.guard = none) (x : Operand) (ho : o.op = .assign x) (v : Value) (hx : a.eval x = v) (h : K (a.put o.dst v) w) : wpOp P ops Q i K a w := by
 refine wpOp_val hi hg ?_ h
 unfold execOp
 simp only [ho, hx, Sem.run_pure]
theorem wp_region_chainG {γ : Type} {id : Nat} {a0 : Act} {W0 : World} {l : List Oper} (C : Nat → γ → World → Prop) (DV : γ → List (Option (Nat × Value))) (E : List Nat) (g0 : γ)
   (hm : P.follows .mixedOrders = true) (ho : ordB .any l.toArray = true) (hlen : ∀ v, (DV v).length = l.length)
   (hdd : ∀ v v', ((DV v').filterMap _root_.id).map (·.1) = ((DV v).filterMap _root_.id).map (·.1))
   (hn : (((DV g0).filterMap _root_.id).map (·.1)).Nodup) (hbd : ∀ k ∈ ((DV g0).filterMap _root_.id).map (·.1), k < a0.tmps.size)
   (hEn : E.Nodup) (hEb : ∀ r ∈ E, r < l.length)
   (hch : ∀ r (h : r + 1 < E.length), waitsB .any l.toArray E[r + 1] (E[r]'(by omega)) = true)
   (h0 : C 0 g0 { W0 with drawn := W0.drawn + 1 })
   (hq : ∀ i, i < l.length → i ∉ E → ∀ (gv : γ) (a : Act) (w : World) (k : Nat), Fr a0 (((DV g0).filterMap _root_.id).map (·.1)) a → (∀ j, waitsB .any l.toArray i j = true → Held (DV gv) a j) → C k gv w → (∀ r (h : r < E.length), r < k → waitsB .any l.toArray E[r] i = false) →
     ∀ K : Act → World → Prop, K (putO a ((DV gv)[i]?.getD none)) w → wpOp P l.toArray Q i K a w)
   (he : ∀ r (h : r < E.length) (gv : γ) (a : Act) (w : World), Fr a0 (((DV g0).filterMap _root_.id).map (·.1)) a → (∀ j, waitsB .any l.toArray E[r] j = true → Held (DV gv) a j) → C r gv w →
     ∀ K : Act → World → Prop, (∀ gv' w', (∀ i, i ≠ E[r] → waitsB .any l.toArray i E[r] = false → (DV gv')[i]? = (DV gv)[i]?) → C (r + 1) gv' w' → K (putO a ((DV gv')[E[r]]?.getD none)) w') → wpOp P l.toArray Q E[r] K a w)
   (hend : ∀ (gv : γ) (w : World), C E.length gv w → Q .normal ⟨puts a0.tmps ((DV gv).filterMap _root_.id), a0.defers⟩ w) :
   (Code.region id l.toArray true).wp P Q a0 W0 := by
 have hsz : l.toArray.size = l.length := by simp
 refine wp_region_any hm (wpAny_inv (fun listed a w => ∃ gv, BaseInv .any l.toArray a0 (DV gv) listed a ∧ ∃ k, k ≤ E.length ∧ C k gv w ∧ ∀ r (h : r < E.length), (listed.getD E[r] false = true ↔ r < k)) ho ?_ ?_ _ _ _ _ (by simp) ?_ ?_)
 · rintro listed a w hz ⟨gv, I, k, hk, hC, hkl⟩ i hi
   obtain ⟨hun, oi, hoi, _⟩ := mem_ready.1 hi
   have hisz : i < l.length := by rw [← hsz]; exact (Array.getElem?_eq_some_iff.1 hoi).1
   have hunf : listed.getD i false = false := by
     have h1 : i < listed.size := by rw [hz, hsz]; exact hisz
     simpa [Array.getD_eq_getD_getElem?, Array.getElem?_eq_getElem h1] using hun
   have hset : (listed.setIfInBounds i true).getD i false = true := by
     have h1 : i < listed.size := by rw [hz, hsz]; exact hisz
     simp [Array.getD_eq_getD_getElem?, h1]
   have hstep : ∀ gv' (w' : World) k', BaseInv .any l.toArray a0 (DV gv') listed a → (k' ≤ E.length ∧ C k' gv' w' ∧ ∀ r (h : r < E.length), ((listed.setIfInBounds i true).getD E[r] false = true ↔ r < k')) →
       ∃ gv, BaseInv .any l.toArray a0 (DV gv) (listed.setIfInBounds i true) (putO a ((DV gv')[i]?.getD none)) ∧ ∃ k, k ≤ E.length ∧ C k gv w' ∧ ∀ r (h : r < E.length), ((listed.setIfInBounds i true).getD E[r] false = true ↔ r < k) := by
     intro gv' w' k' I' h'
     have J : ChainInv .any l.toArray (fun _ _ => True) a0 (DV gv') [] (listed.setIfInBounds i true) (putO a ((DV gv')[i]?.getD none)) w' :=
       ChainInv.step (w := w') ⟨I'.fr, I'.val, I'.down, 0, Nat.zero_le _, trivial, fun r hr => absurd hr (by simp)⟩ (by rw [hlen]; simp) (by rw [hdd g0]; exact hn) (by rw [hdd g0]; exact hbd) hi ⟨0, Nat.zero_le _, trivial, fun r hr => absurd hr (by simp)⟩
     exact ⟨gv', ⟨J.fr, J.val, J.down⟩, k', h'⟩
   by_cases hE : i ∈ E
   · obtain ⟨r, hr, rfl⟩ := List.getElem_of_mem hE
     have hrk : r = k := by
       have h1 : ¬ r < k := fun h => by rw [(hkl r hr).2 h] at hunf; cases hunf
       cases r with
       | zero => omega
       | succ r =>
         have := (hkl r (by omega)).1 (ready_waits hi (hch r hr))
         omega
     subst hrk
     refine he r hr gv a w (by rw [← hdd g0 gv]; exact I.fr) (fun j hw => I.val j (ready_waits hi hw)) hC _ fun gv' w' hg hw' => ?_
     have I' : BaseInv .any l.toArray a0 (DV gv') listed a := ⟨by rw [hdd gv gv']; exact I.fr, fun i hl => by
       have hne : i ≠ E[r] := fun e => by rw [e, hunf] at hl; cases hl
       have hwf : waitsB .any l.toArray i E[r] = false := by
         cases hw : waitsB .any l.toArray i E[r] with
         | false => rfl
         | true =>
           have := I.down _ _ hl hw
           rw [hunf] at this; cases this
       intro d v h
       rw [hg i hne hwf] at h
       exact I.val i hl d v h, I.down⟩
     refine hstep gv' w' (r + 1) I' ⟨hr, hw', fun s hs => ?_⟩
     by_cases hsr : s = r
     · subst hsr; simp [hset]
     · have hne : E[r] ≠ E[s] := fun e => hsr (nodup_inj hEn hr hs e).symm
       rw [set_ne hne, hkl s hs]; omega
   · refine hq i hisz hE gv a w k (by rw [← hdd g0 gv]; exact I.fr) (fun j hw => I.val j (ready_waits hi hw)) hC (fun r hr hrk => ?_) _ ?_
     · cases hw : waitsB .any l.toArray E[r] i with
       | false => rfl
       | true =>
         have := I.down _ _ ((hkl r hr).2 hrk) hw
         rw [hunf] at this; cases this
     · refine hstep gv w k I ⟨hk, hC, fun s hs => ?_⟩
       have hne : i ≠ E[s] := fun e => hE (e ▸ List.getElem_mem hs)
       rw [set_ne hne]; exact hkl s hs
 · rintro listed a w hz hall ⟨gv, I, k, hk, hC, hkl⟩
   have hkE : k = E.length := by
     rcases Nat.lt_or_ge k E.length with h | h
     · have := (hkl k h).1 (hall _ (by rw [hsz]; exact hEb _ (List.getElem_mem h)))
       omega
     · omega
   subst hkE
   rw [I.fr.eq (by rw [hdd g0]; exact hn) (fun x hx => hbd _ (by rw [← hdd g0 gv]; exact List.mem_map.2 ⟨x, hx, rfl⟩)) (fun x hx => ?_)]
   · exact hend gv w hC
   · obtain ⟨y, hy, hyx⟩ := List.mem_filterMap.1 hx
     obtain ⟨i, hi, hiy⟩ := List.getElem_of_mem hy
     simp only [_root_.id] at hyx
     refine I.val i (hall i (by rw [hsz, ← hlen gv]; omega)) x.1 x.2 ?_
     rw [List.getElem?_eq_getElem hi, hiy, hyx]
 · simp
 · refine ⟨g0, ⟨⟨rfl, rfl, fun _ _ => rfl⟩, fun i hl => ?_, fun i j hl => ?_⟩, 0, Nat.zero_le _, h0, fun r hr => ?_⟩
   · rw [gd_rep] at hl; cases hl
   · rw [gd_rep] at hl; cases hl
   · rw [gd_rep]; simp
end
end Go.Proofs.YtbfefdedjcppaaaGreatDoor

/- append(s, part...) in a region that lists its operations in order. -/
namespace Go.Proofs.YtbfefdedjcppaaaGreatDoor
open Go.RowKit
theorem wl_appO {P : Program} {ops : Array Oper} {o : Oper} {rest : List Oper} {a : Act} {w : World} {Q : Exit → Act → World → Prop} {α : Type} {enc : α → List Value} {k : Nat} (hgd : o.guard = none) (T E : TypeId) (bytes : Nat) (z : Value) (hT : P.underlying T = some (.slice E)) (hinf : (P.info? E).map (fun i => (i.zero, i.size, i.bytes)) = some (some z, k, bytes)) (hzk : z.cells.size = k) (hk0 : 0 < k) (hk : ∀ x, (enc x).length = k) (h1 : ∀ x, ∀ u ∈ enc x, u.oneCell' = true)
   (s x : Operand) (ho : o.op = .call { callee := .builtin .append, args := #[s, x], argTypes := #[T, T] })
   (base : Nat) (v : Value) (xs : List α) (hs : a.eval s = v) (hown : OwnE enc E k w base v xs) (q : Option Addr) (m c : Nat) (ys : List α) (hx : a.eval x = .slice q m c) (hm : ys.length = m) (hq : SlAt enc k w q ys) (hq0 : q = none → c = 0)
   (hlen : (xs.length + m) * bytes ≤ 140737488355328) (hml : xs.length + m ≤ maxLen) (hbase : base ≤ w.heap.size)
   (h : ∀ v' w', OwnE enc E k w' base v' (xs ++ ys) → w.grownBy w' v.ownBlock → (v'.ownBlock = v.ownBlock ∨ v'.ownBlock = some w.heap.size) → wpList P ops Q rest (a.put o.dst v') w') : wpList P ops Q (o :: rest) a w :=
 wpList_plain hgd fun _ hK => op_app T E bytes z hT hinf hzk hk0 hk h1 s x ho base v xs hs hown q m c ys hx hm hq hq0 hlen hml hbase fun v' w' g1 g2 g3 => hK _ _ (h v' w' g1 g2 g3)
theorem exec_lo {P : Program} {o : Oper} {a : Act} {w : World} {k : Nat} {T E : TypeId} (hT : P.underlying T = some (.slice E)) (hk : (P.info? E).map (·.size) = some k) (x y : Operand) (ho : o.op = .slice T x (some y) none none) (q : Option Addr) (n co j : Nat) (hx : a.eval x = .slice q n co) (hy : a.eval y = .int .i64 (j : Nat)) (hj : j ≤ n) : (execOp a.eval o).run P w = .ok (.value (.slice (cutQ k q j co) (n - j) (co - j))) w := by
 have := run_sl_lo hT hk q n co j hj w
 unfold execOp
 simp only [ho, hx, hy, Option.map_some, Option.map_none, Sem.run_bind, this, Result.andThen_ok, Sem.run_pure]
end Go.Proofs.YtbfefdedjcppaaaGreatDoor

/- Small laws: a load of one cell in a quiet region; an operation by its value in a listed one. -/
namespace Go.Proofs.YtbfefdedjcppaaaGreatDoor
open Go.RowKit
section
variable {P : Program} {ops : Array Oper} {Q : Act → Prop} {a : Act} {o : Oper} {rest : List Oper} {W : World}
end
section
variable {P : Program} {ops : Array Oper} {Q : Exit → Act → World → Prop} {a : Act} {o : Oper} {rest : List Oper} {w : World}
theorem wl_valG (hw : Region.wanted o (yielded ops a.tmps) = true) (v : Value) (hr : (execOp a.eval o).run P w = .ok (.value v) w) (h : wpList P ops Q rest (a.put o.dst v) w) : wpList P ops Q (o :: rest) a w :=
 wpList_step fun _ hK => by
   rw [if_pos hw]
   unfold Oper.wp
   rw [hr]
   exact hK _ _ h
theorem gate_op (x : Op) (_ : o.op = x) (h : wpList P ops Q (o :: rest) a w) : wpList P ops Q (o :: rest) a w := h
end
theorem exec_st1G {P : Program} {o : Oper} {a : Act} {w : World} (T : TypeId) (hsz : (P.info? T).map (·.size) = some 1) (x y : Operand) (ho : o.op = .store T x y) (b i : Nat) (v : Value) (hx : a.eval x = .pointer (some ⟨b, i, none⟩)) (hy : a.eval y = v) (h1 : v.oneCell' = true) (cur : List Value) (T' : TypeId) (hg : w.heap[b]? = some (.cells cur.toArray T' (0, 0))) (hi : i + 1 ≤ cur.length) :
   (execOp a.eval o).run P w = .ok .skip (w.setRow b (cur.take i ++ [v] ++ cur.drop (i + 1)).toArray) := by
 have hst := run_storeCells_at P b i T' [v] 0 cur.toArray w hg (by simpa using hi) (fun x hx => by simp at hx; subst hx; exact h1)
 have hc : v.cells = #[v] := by cases v <;> first | rfl | cases h1
 have hrun : (storeVar T ⟨b, i, none⟩ v).run P w = .ok () (w.setRow b (cur.take i ++ [v] ++ cur.drop (i + 1)).toArray) := by
   cases hq : P.info? T with
   | none => simp [hq] at hsz
   | some inf =>
     have hs : inf.size = 1 := by simpa [hq] using hsz
     simp only [Nat.add_zero, List.length_singleton] at hst
     simp [storeVar, sizeOf, typeInfo, hq, hc, hs, hst]
 unfold execOp
 simp only [ho, hx, hy, Instr.storeAt, Instr.sureAddr, Sem.run_bind, Sem.run_pure, Result.andThen_ok, hrun]
theorem exec_ld1G {P : Program} {o : Oper} {a : Act} {w : World} (T : TypeId) (hag : ∀ w, (isAgg T).run P w = .ok false w) (x : Operand) (ho : o.op = .load T x) (b i : Nat) (v : Value) (hx : a.eval x = .pointer (some ⟨b, i, none⟩)) (hc : w.cell? ⟨b, i, none⟩ = some v) : (execOp a.eval o).run P w = .ok (.value v) w := by
 unfold execOp
 simp only [ho, hx, Sem.run_bind]
 simp [go_sem, hag, hc]
end Go.Proofs.YtbfefdedjcppaaaGreatDoor

/- Words for regions that draw their order, taken one operation at a time. -/
namespace Go.Proofs.YtbfefdedjcppaaaGreatDoor
open Go.RowKit
theorem oneH {P : Program} {md : Region.Mode} {ops : Array Oper} {Q : Exit → Act → World → Prop} {S : World → Prop} (i : Nat) {fuel : Nat} {listed : Array Bool} {a : Act} {w : World} (hr : Region.ready md ops listed = [i])
   (h : wpOp P ops Q i (fun a' w' => S w' ∧ wpAnyH P md ops Q S fuel (listed.setIfInBounds i true) a' w') a w) : wpAnyH P md ops Q S (fuel + 1) listed a w :=
 wpAnyH_all hr (by simp) fun j hj => by
   rw [List.mem_singleton] at hj
   subst hj
   exact h
theorem exec_bs1 {P : Program} {o : Oper} {a : Act} {w : World} {α : Type} {enc : α → List Value} {k : Nat} (T E : TypeId) (bytes : Nat) (z : Value) (hT : P.underlying T = some (.slice E)) (hinf : (P.info? E).map (fun i => (i.zero, i.size, i.bytes)) = some (some z, k, bytes)) (hk0 : 0 < k) (hk2 : k ≤ 1000000) (hk : ∀ x, (enc x).length = k)
   (x : Operand) (ho : o.op = .buildSlice T 1 #[(0, x)]) (y : α) (hx : a.eval x = .agg (enc y).toArray) : (execOp a.eval o).run P w = .ok (.value (.slice (some ⟨w.heap.size, 0, none⟩) 1 1)) (w.alloc (.cells (enc y).toArray E)) := by
 obtain ⟨ie, hie, hz, hsz, hby⟩ := info_parts hinf
 have hb := run_buildSlice (P := P) w T E 1 #[(0, .agg (enc y).toArray)] (enc y).toArray ie z hT hie hz (by rw [hsz]; omega) (by rw [hsz]; omega) (by
   rw [hsz]
   have := Great.fill_whole (s := k) hk0 [.agg (enc y).toArray] ((Array.range (1 * k)).map (z.cells[· % z.cells.size]!)) (fun v hv => by
     simp at hv; subst hv
     show (enc y).toArray.size = k
     simp [hk]) (by simp)
   simp only [List.zipIdx_cons, List.zipIdx_nil, List.map_cons, List.map_nil] at this
   rw [this]
   simp [Value.cells])
 unfold execOp
 have hp : (#[(0, x)].map fun (p : Nat × Operand) => (p.1, a.eval p.2)) = #[(0, Value.agg (enc y).toArray)] := by simp [hx]
 simp only [ho, Sem.run_bind, hp, hb, Result.andThen_ok, Sem.run_pure]
end Go.Proofs.YtbfefdedjcppaaaGreatDoor

/- More words for regions that draw their order: what is ready is taken; calls. -/
namespace Go.Proofs.YtbfefdedjcppaaaGreatDoor
open Go.RowKit
theorem takeR {P : Program} {md : Region.Mode} {ops : Array Oper} {Q : Exit → Act → World → Prop} {S : World → Prop} {i : Nat} {oi : Oper} {v : Value} {fuel : Nat} {listed : Array Bool} {a : Act} {w : World} (d : Nat) (hi : ops[i]? = some oi) (hd : oi.dst = some d)
   (hs : Region.noSelect ops = true) (hf : Region.free md ops listed i = true) (hr : (Region.ready md ops listed).contains i = true)
   (hQ : ∀ c a w, Q (.panic c) (a.put (some d) v) w → Q (.panic c) a w) (hy : YieldsIf P ops S oi v a) (hS : S w)
   (h : wpAnyH P md ops Q S fuel (listed.setIfInBounds i true) (a.put (some d) v) w) : wpAnyH P md ops Q S (fuel + 1) listed a w :=
 wpAnyH_take hi hs hf hr (by rw [hd]; exact hQ) hy hS (by rw [hd]; exact h)
section
variable {P : Program} {Q : Exit → Act → World → Prop}
theorem wpOp_call {ops : Array Oper} {i : Nat} {o : Oper} {a : Act} {w : World} {f : FuncId} {args : Array Value} {R : Ending → World → Prop} {K : Act → World → Prop} (hi : ops[i]? = some o) (hg : o.guard = none) (hr : (execOp a.eval o).run P w = .ok (.enter f args) w)
   (hc : Calls P f args w R) (h : ∀ e w', R e w' → ∃ v, e = .returned v ∧ K (a.put o.dst v) w') : wpOp P ops Q i K a w := by
 unfold wpOp
 simp only [hi]
 rw [if_pos (by unfold Region.wanted; rw [hg])]
 left
 unfold Oper.wp
 rw [hr, Oper.upon_enter]
 refine hc.mono ?_
 intro e w' hR
 obtain ⟨v, rfl, hk⟩ := h e w' hR
 exact hk
theorem exec_calls {o : Oper} {a : Act} {f : FuncId} {xs : Array Operand} {ts : Array TypeId} {vs : Array Value} (ho : o.op = .call { callee := .value (.func f), args := xs, argTypes := ts }) (hf : ∀ args w, (callFunc f args).run P w = .ok (.enter f args) w) (hx : xs.map a.eval = vs) (w : World) :
   (execOp a.eval o).run P w = .ok (.enter f vs) w := by
 unfold execOp
 simp [ho, resolve, invoke, hx, hf, Deferred.ofValue, show a.eval (.func f) = .func (.func f) #[] #[] from rfl]
theorem exec_nc {o : Oper} {a : Act} {w : World} (x : Operand) (ho : o.op = .nilCheck x) (d : Addr) (hx : a.eval x = .pointer (some d)) : (execOp a.eval o).run P w = .ok (.value (.pointer (some d))) w := by
 unfold execOp
 simp only [ho, hx]
 simp [go_sem]
end
end Go.Proofs.YtbfefdedjcppaaaGreatDoor

/- range over an ASCII text. -/
namespace Go.Proofs.YtbfefdedjcppaaaGreatDoor
open Go.RowKit
section
variable {P : Program}
theorem runS_next (W : World) (it : Nat) (s : ByteArray) (pos : Nat) (ty : TypeId) (c : UInt8) (hit : W.heap[it]? = some (.stringIter s pos)) (hc : s.data.toList[pos]? = some c) (ha : c.toNat < 128) :
   (Instr.next (.pointer (some ⟨it, 0, none⟩)) true ty).run P W = .ok (.tuple #[.bool true, .int .i64 (pos : Int), .int .i32 (c.toNat : Int)]) (putB W it (.stringIter s (pos + 1))) := by
 have h : pos < s.size := by
   have := (List.getElem?_eq_some_iff.1 hc).1
   simpa using this
 have e : s[pos]'h = c := by
   have := (List.getElem?_eq_some_iff.1 hc).2
   rw [← this]; simp; rfl
 simp only [Instr.next, getObj, setObj, Sem.run_bind, Sem.run, hit, Result.andThen, h, if_true, decode_ascii s pos h (by rw [e]; exact ha)]
 simp [goInt, e, putB]
theorem runS_end (W : World) (it : Nat) (s : ByteArray) (pos : Nat) (ty : TypeId) (hit : W.heap[it]? = some (.stringIter s pos)) (h : ¬ pos < s.size) :
   (Instr.next (.pointer (some ⟨it, 0, none⟩)) true ty).run P W = .ok (.tuple #[.bool false]) W := by
 simp [Instr.next, getObj, Sem.run, hit, h]
end
theorem iterPos_at {W : World} {it : Nat} {s : ByteArray} {pos : Nat} (h : W.heap[it]? = some (.stringIter s pos)) : W.iterPos it = pos := by simp [World.iterPos, h]
theorem putB_below {B : Nat} {w W : World} (h : Below B w W) (r : Nat) (o : Obj) (hr : B ≤ r) : Below B w (putB W r o) := h.trans ⟨rfl, rfl, rfl, by rw [putB_size]; exact Nat.le_refl _, fun k hk => putB_other W r k o (by omega)⟩
end Go.Proofs.YtbfefdedjcppaaaGreatDoor
