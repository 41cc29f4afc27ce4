/- Bare; check. -/
import Derived.Test.YtmbbhnbfgcmkgaaDoorB1
import Derived.Laws.RangeAny
namespace Go.Proofs.YtmbbhnbfgcmkgaaDoor
open Go.RowKit

section
variable {P : Program}
theorem runS_next (W : World) (it : Nat) (s : ByteArray) (pos : Nat) (ty : TypeId) (c : UInt8) (hit : W.heap[it]? = some (.stringIter s pos)) (hc : s.data.toList[pos]? = some c) (ha : c.toNat < 128) :
    (Instr.next (.pointer (some ⟨it, 0, none⟩)) true ty).run P W = .ok (.tuple #[.bool true, .int .i64 (pos : Int), .int .i32 (c.toNat : Int)]) (putB W it (.stringIter s (pos + 1))) := by
  have h : pos < s.size := by
    have := (List.getElem?_eq_some_iff.1 hc).1
    simpa using this
  have e : s[pos]'h = c := by
    have := (List.getElem?_eq_some_iff.1 hc).2
    rw [← this]; simp; rfl
  simp only [Instr.next, getObj, setObj, Sem.run_bind, Sem.run, hit, Result.andThen, h, if_true, decode_ascii s pos h (by rw [e]; exact ha)]
  simp [goInt, e, putB]
theorem runS_end (W : World) (it : Nat) (s : ByteArray) (pos : Nat) (ty : TypeId) (hit : W.heap[it]? = some (.stringIter s pos)) (h : ¬ pos < s.size) :
    (Instr.next (.pointer (some ⟨it, 0, none⟩)) true ty).run P W = .ok (.tuple #[.bool false]) W := by
  simp [Instr.next, getObj, Sem.run, hit, h]
end
theorem iterPos_at {W : World} {it : Nat} {s : ByteArray} {pos : Nat} (h : W.heap[it]? = some (.stringIter s pos)) : W.iterPos it = pos := by simp [World.iterPos, h]
theorem putB_below {B : Nat} {w W : World} (h : Below B w W) (r : Nat) (o : Obj) (hr : B ≤ r) : Below B w (putB W r o) := h.trans ⟨rfl, rfl, rfl, by rw [putB_size]; exact Nat.le_refl _, fun k hk => putB_other W r k o (by omega)⟩
/-- append(s, part...), in a walk. -/
theorem wl_app {P : Program} {α : Type} {enc : α → List Value} {k : Nat} {ops : Array Oper} {rest : List Oper} {o : Oper} {a : Act} {w : World} {Q : Exit → Act → World → Prop} (hw : Region.wanted o (yielded ops a.tmps) = true) (T E : TypeId) (bytes : Nat) (z : Value) (hT : P.underlying T = some (.slice E)) (hinf : (P.info? E).map (fun i => (i.zero, i.size, i.bytes)) = some (some z, k, bytes)) (hzk : z.cells.size = k) (hk0 : 0 < k) (hk : ∀ x, (enc x).length = k) (h1 : ∀ x, ∀ u ∈ enc x, u.oneCell' = true)
    (s x : Operand) (ho : o.op = .call { callee := .builtin .append, args := #[s, x], argTypes := #[T, T] })
    (base : Nat) (v : Value) (xs : List α) (hs : a.eval s = v) (hown : OwnE enc E k w base v xs) (q : Option Addr) (m c : Nat) (ys : List α) (hx : a.eval x = .slice q m c) (hm : ys.length = m) (hq : SlAt enc k w q ys) (hq0 : q = none → c = 0)
    (hlen : (xs.length + m) * bytes ≤ 140737488355328) (hml : xs.length + m ≤ maxLen) (hbase : base ≤ w.heap.size)
    (h : ∀ v' w', OwnE enc E k w' base v' (xs ++ ys) → w.grownBy w' v.ownBlock → (v'.ownBlock = v.ownBlock ∨ v'.ownBlock = some w.heap.size) → wpList P ops Q rest (a.put o.dst v') w') : wpList P ops Q (o :: rest) a w :=
  wpList_step fun _ hK => by
    rw [if_pos hw]
    exact op_app T E bytes z hT hinf hzk hk0 hk h1 s x ho base v xs hs hown q m c ys hx hm hq hq0 hlen hml hbase (fun v' w' g1 g2 g3 => hK _ _ (h v' w' g1 g2 g3))
/-- What an act's kind uses. -/
def bareD (x : D4) : D4 := ⟨x.kind, if x.kind = 1 ∨ x.kind = 2 ∨ x.kind = 3 then x.who else 0, if x.kind = 4 ∨ x.kind = 6 then x.n else 0, if x.kind = 1 then x.b else []⟩
/-- A letter of a kind's uses. -/
def useD (x y : D4) (c : UInt8) : D4 := if c = 119 then { y with who := x.who } else if c = 110 then { y with n := x.n } else { y with b := x.b }
theorem use_all (x : D4) : (usesL x.kind).foldl (useD x) ⟨x.kind, 0, 0, []⟩ = bareD x := by
  obtain ⟨k, wh, n, b⟩ := x
  show (usesL k).foldl _ _ = _
  rcases kinds k with h | h | rfl | rfl | rfl | rfl | rfl | rfl
  · have : usesL k = [] := by unfold usesL; rw [if_neg (by omega), if_neg (by omega), if_neg (by omega)]
    rw [this]; unfold bareD; simp only [List.foldl_nil]
    rw [if_neg (by omega), if_neg (by omega), if_neg (by omega)]
  · have : usesL k = [] := by unfold usesL; rw [if_neg (by omega), if_neg (by omega), if_neg (by omega)]
    rw [this]; unfold bareD; simp only [List.foldl_nil]
    rw [if_neg (by omega), if_neg (by omega), if_neg (by omega)]
  all_goals (simp [usesL, useD, bareD])
theorem uses_in (k : Int) : ∀ c ∈ usesL k, c = 119 ∨ c = 110 ∨ c = 98 := by
  intro c hc
  unfold usesL at hc
  split at hc
  · simp at hc; rcases hc with h | h <;> simp [h]
  · split at hc
    · simp at hc; exact Or.inl hc
    · split at hc
      · simp at hc; exact Or.inr (Or.inl hc)
      · cases hc
/-- Where Bare stands. -/
structure BSt (w W : World) (it : Nat) (x y : A4) : Prop where
  bel : Below w.heap.size w W
  p : W.heap[w.heap.size]? = some (Obj.cells (a4C x).toArray 36 (0, 0))
  r : W.heap[w.heap.size + 1]? = some (Obj.cells (a4C a40).toArray 36 (0, 0))
  o : W.heap[w.heap.size + 2]? = some (Obj.cells (a4C y).toArray 36 (0, 0))
  it3 : w.heap.size + 3 ≤ it
  oky : OkA W y
  new : ∀ a, y.q = some a → it < a.block
theorem BSt.below {w W W' : World} {it : Nat} {x y : A4} (h : BSt w W it x y) (hb : Below W.heap.size W W') : BSt w W' it x y :=
  ⟨h.bel.trans (hb.mono h.bel.size), (hb.block _ (lt_heap h.p)).trans h.p, (hb.block _ (lt_heap h.r)).trans h.r, (hb.block _ (lt_heap h.o)).trans h.o, h.it3, h.oky.below hb, h.new⟩
theorem OkA.of_blocks {W W' : World} {x : A4} (h : OkA W x) (hs : W.heap.size ≤ W'.heap.size) (hb : ∀ a, x.q = some a → W'.heap[a.block]? = W.heap[a.block]?) : OkA W' x :=
  ⟨fun i hi => by
    obtain ⟨b, o, h1, h2, h3⟩ := h.row i hi
    exact ⟨b, o, h1, Nat.lt_of_lt_of_le h2 hs, range_of_block h3 (hb _ h1)⟩, h.le, h.max, h.nilc⟩
theorem BSt.next {w W : World} {it : Nat} {x y : A4} (h : BSt w W it x y) (o : Obj) : BSt w (putB W it o) it x y :=
  have h3 := h.it3
  ⟨putB_below h.bel it o (by omega), (putB_other _ _ _ _ (by omega)).trans h.p, (putB_other _ _ _ _ (by omega)).trans h.r, (putB_other _ _ _ _ (by omega)).trans h.o, h3,
   h.oky.of_blocks (by rw [putB_size]; exact Nat.le_refl _) (fun a ha => putB_other _ _ _ _ (by have := h.new a ha; omega)), h.new⟩
theorem BSt.set {w W : World} {it : Nat} {x y : A4} (h : BSt w W it x y) (i : Nat) (v : Value) (y' : A4) (hc : (a4C y).toArray.setIfInBounds i v = (a4C y').toArray) (hy : OkA W y') (hn : ∀ a, y'.q = some a → it < a.block) : BSt w (W.setCell ⟨w.heap.size + 2, i, none⟩ v) it x y' :=
  have h3 := h.it3
  ⟨h.bel.setCell (p := ⟨w.heap.size + 2, i, none⟩) (by show w.heap.size ≤ w.heap.size + 2; omega) _, (heap_setCell_other _ (by omega)).trans h.p, (heap_setCell_other _ (by omega)).trans h.r, by rw [heap_setCell_self _ h.o, hc], h3,
   hy.of_blocks (by simp [World.setCell]) (fun a ha => heap_setCell_other _ (by have := hn a ha; omega)), hn⟩
theorem use_take {x : D4} {u : List UInt8} {pos : Nat} {c : UInt8} (hc : u[pos]? = some c) : (u.take (pos + 1)).foldl (useD x) ⟨x.kind, 0, 0, []⟩ = useD x ((u.take pos).foldl (useD x) ⟨x.kind, 0, 0, []⟩) c := by
  have h := (List.getElem?_eq_some_iff.1 hc).1
  rw [List.take_succ_eq_append_getElem h, List.foldl_append, (List.getElem?_eq_some_iff.1 hc).2]; rfl
theorem a4_set1 (y : A4) (v : Int) : (a4C y).toArray.setIfInBounds 1 (.int .i64 v) = (a4C { y with who := v }).toArray := rfl
theorem a4_set2 (y : A4) (v : Int) : (a4C y).toArray.setIfInBounds 2 (.int .i64 v) = (a4C { y with n := v }).toArray := rfl
theorem a4_set3 (y : A4) (q : Option Addr) (c : Nat) (b : List UInt8) : (a4C y).toArray.setIfInBounds 3 (.slice q b.length c) = (a4C { y with q := q, cap := c, b := b }).toArray := rfl
set_option maxRecDepth 100000 in
set_option maxHeartbeats 4000000 in
theorem bare_any (x : A4) (w : World) (hx : OkA w x) (hb : x.b.length ≤ 1000000) :
    Calls Tryd.prog 12 #[.agg (a4C x).toArray] w fun e w' => ∃ y : A4, e = .returned (.agg (a4C y).toArray) ∧ y.d = bareD x.d ∧ OkA w' y ∧ (∀ a, y.q = some a → w.heap.size ≤ a.block) ∧ Below w.heap.size w w' := by
  have HX := Lib.hid hx
  have HUA : Hid ((usesL x.kind).foldl (useD x.d) ⟨x.kind, 0, 0, []⟩ = bareD x.d) := use_all x.d
  have HUI := Lib.hid (uses_in x.kind)
  have HUs : Hid (∀ W, Calls Tryd.prog 25 #[.int .i64 x.kind] W fun e w' => e = .returned (.string ⟨(usesL x.kind).toArray⟩) ∧ Below W.heap.size W w') := fun W => uses_any x.kind W
  have hbd : ∀ W, (Instr.build 36 #[(0, .int .i64 x.kind)]).run Tryd.prog W = .ok (.agg (a4C ⟨x.kind, 0, 0, none, 0, []⟩).toArray) W := fun W => run_build W _ _ _ (by kernel_rfl)
  have hk0 : ((w.alloc (.cells (a4C x).toArray 36)).alloc (.cells #[Value.int IntKind.i64 0, Value.int IntKind.i64 0, Value.int IntKind.i64 0, Value.slice none 0 0] 36)).cell? ⟨w.heap.size, 0, none⟩ = some (.int .i64 x.kind) := by rw [cell_blk (heap_alloc2_old _ _ _)]; rfl
  have HB1 : Hid (Below w.heap.size w (((w.alloc (.cells (a4C x).toArray 36)).alloc (.cells (a4C a40).toArray 36)).alloc (.cells (a4C ⟨x.kind, 0, 0, none, 0, []⟩).toArray 36))) := (below_alloc2 _ _ _).alloc (by simp; omega) _
  have HP1 : Hid ((((w.alloc (.cells (a4C x).toArray 36)).alloc (.cells (a4C a40).toArray 36)).alloc (.cells (a4C ⟨x.kind, 0, 0, none, 0, []⟩).toArray 36)).heap[w.heap.size]? = some (.cells (a4C x).toArray 36 (0, 0))) := by
    show _ = _; rw [heap_alloc_old _ _ (by simp; omega)]; exact heap_alloc2_old _ _ _
  have HR1 : Hid ((((w.alloc (.cells (a4C x).toArray 36)).alloc (.cells (a4C a40).toArray 36)).alloc (.cells (a4C ⟨x.kind, 0, 0, none, 0, []⟩).toArray 36)).heap[w.heap.size + 1]? = some (.cells (a4C a40).toArray 36 (0, 0))) := by
    show _ = _; rw [heap_alloc_old _ _ (by simp)]; exact heap_alloc2_new _ _ _
  have HO1 : Hid ((((w.alloc (.cells (a4C x).toArray 36)).alloc (.cells (a4C a40).toArray 36)).alloc (.cells (a4C ⟨x.kind, 0, 0, none, 0, []⟩).toArray 36)).heap[w.heap.size + 2]? = some (.cells (a4C ⟨x.kind, 0, 0, none, 0, []⟩).toArray 36 (0, 0))) := by
    show _ = _; have := heap_alloc_new ((w.alloc (.cells (a4C x).toArray 36)).alloc (.cells (a4C a40).toArray 36)) (.cells (a4C ⟨x.kind, 0, 0, none, 0, []⟩).toArray 36); simpa using this
  go_enter Tryd.func12, Tryd.ntmps12
  go_upto_region 2 with ((with_reducible refine gate_st 36 _ _ rfl ?_); refine wl_strn rfl _ _ _ rfl (a4C ⟨x.kind, 0, 0, none, 0, []⟩).toArray _ _ sizA4 rfl (by simp [a4C, Value.oneCell']) rfl rfl ?_)
  rw [show (Obj.cells #[Value.int IntKind.i64 0, Value.int IntKind.i64 0, Value.int IntKind.i64 0, Value.slice none 0 0] 36) = Obj.cells (a4C a40).toArray 36 from rfl, show (Obj.cells #[Value.int IntKind.i64 x.kind, Value.int IntKind.i64 0, Value.int IntKind.i64 0, Value.slice none 0 0] 36) = Obj.cells (a4C ⟨x.kind, 0, 0, none, 0, []⟩).toArray 36 from rfl]
  simp only [Nat.add_assoc, Nat.reduceAdd]
  have hk1 : (((w.alloc (.cells (a4C x).toArray 36)).alloc (.cells (a4C a40).toArray 36)).alloc (.cells (a4C ⟨x.kind, 0, 0, none, 0, []⟩).toArray 36)).cell? ⟨w.heap.size, 0, none⟩ = some (.int .i64 x.kind) := by rw [cell_blk HP1.out]; rfl
  clear hbd hk0
  generalize (((w.alloc (.cells (a4C x).toArray 36)).alloc (.cells (a4C a40).toArray 36)).alloc (.cells (a4C ⟨x.kind, 0, 0, none, 0, []⟩).toArray 36)) = W1 at *
  go_wp2_with (go_at_call 25; (refine (HUs.out _).mono ?_); rintro e w2 ⟨rfl, hb2⟩; have HB2 := Lib.hid hb2; clear hb2)
  have HI : Hid ((w2.iter ⟨(usesL x.kind).toArray⟩ 0).heap[w2.heap.size]? = some (.stringIter ⟨(usesL x.kind).toArray⟩ 0)) := World.iter_heap _ _ _
  have hit3 : w.heap.size + 3 ≤ w2.heap.size := by have h1 := HB2.out.size; have h2 := lt_heap HO1.out; omega
  have HS : Hid (BSt w (w2.iter ⟨(usesL x.kind).toArray⟩ 0) w2.heap.size x ⟨x.kind, 0, 0, none, 0, []⟩) := by
    have hb3 : Below W1.heap.size W1 (w2.iter ⟨(usesL x.kind).toArray⟩ 0) := HB2.out.alloc HB2.out.size _
    exact ⟨HB1.out.trans (hb3.mono HB1.out.size), (hb3.block _ (lt_heap HP1.out)).trans HP1.out, (hb3.block _ (lt_heap HR1.out)).trans HR1.out, (hb3.block _ (lt_heap HO1.out)).trans HO1.out, hit3, ⟨SlAt.nil _ _, Nat.le_refl _, Nat.zero_le _, fun _ => rfl⟩, fun a h => by cases h⟩
  clear HB1 HP1 HR1 HO1 HB2 hk1 hit3 HUs
  have HU0 : Hid (usesL x.kind = usesL x.kind) := rfl
  generalize hu : usesL x.kind = u at *
  generalize w2.iter ⟨u.toArray⟩ 0 = W2 at *
  generalize w2.heap.size = it at *
  clear hu HU0
  have hus : (⟨u.toArray⟩ : ByteArray).size = u.length := by show u.toArray.size = _; simp
  go_loopw [5] (fun _ wr => ∃ (pos : Nat) (y : A4), pos ≤ u.length ∧ Hid (BSt w wr it x y) ∧ Hid (wr.heap[it]? = some (.stringIter ⟨u.toArray⟩ pos)) ∧ Hid (y.d = (u.take pos).foldl (useD x.d) ⟨x.kind, 0, 0, []⟩) ∧ Hid (y.b.length ≤ 1000000)) (fun _ wr => u.length - wr.iterPos it)
  case atStart => exact ⟨0, _, Nat.zero_le _, HS.out, HI.out, rfl, Nat.zero_le _⟩
  case round =>
    obtain ⟨pos, y, hpos, HS1, HI1, HD, HL⟩ := hrel
    clear HS HI
    by_cases hlt : pos < u.length
    · have hc : u[pos]? = some u[pos] := List.getElem?_eq_getElem hlt
      have hci := HUI.out _ (List.getElem_mem hlt)
      have HD2 : Hid (useD x.d y.d u[pos] = (u.take (pos + 1)).foldl (useD x.d) ⟨x.kind, 0, 0, []⟩) := by show _ = _; rw [HD.out]; exact (use_take (x := x.d) hc).symm
      generalize u[pos] = c at *
      have hnx := fun ty => runS_next (P := Tryd.prog) wr it ⟨u.toArray⟩ pos ty c HI1.out (by simpa using hc) (by rcases hci with h | h | h <;> (rw [h]; decide))
      have HS2 := Lib.hid (HS1.out.next (.stringIter ⟨u.toArray⟩ (pos + 1)))
      have HI2 : Hid ((putB wr it (.stringIter ⟨u.toArray⟩ (pos + 1))).heap[it]? = some (.stringIter ⟨u.toArray⟩ (pos + 1))) := putB_same _ _ _ _ HI1.out
      have HM : Hid (u.length - (pos + 1) < u.length - wr.iterPos it) := by show _ < _; rw [iterPos_at HI1.out]; omega
      clear hc HD HS1 HI1
      generalize putB wr it (.stringIter ⟨u.toArray⟩ (pos + 1)) = W3 at *
      have hp1 : W3.cell? ⟨w.heap.size, 1, none⟩ = some (.int .i64 x.who) := by rw [cell_blk HS2.out.p]; rfl
      have hp2 : W3.cell? ⟨w.heap.size, 2, none⟩ = some (.int .i64 x.n) := by rw [cell_blk HS2.out.p]; rfl
      have hp3 : W3.cell? ⟨w.heap.size, 3, none⟩ = some (.slice x.q x.b.length x.cap) := by rw [cell_blk HS2.out.p]; rfl
      have hf1 : W3.frozen? ⟨w.heap.size + 2, 1, none⟩ = false := by simp [World.frozen?, HS2.out.o]
      have hf2 : W3.frozen? ⟨w.heap.size + 2, 2, none⟩ = false := by simp [World.frozen?, HS2.out.o]
      have ho1 : W3.cell? ⟨w.heap.size + 2, 1, none⟩ = some (.int .i64 y.who) := by rw [cell_blk HS2.out.o]; rfl
      have ho2 : W3.cell? ⟨w.heap.size + 2, 2, none⟩ = some (.int .i64 y.n) := by rw [cell_blk HS2.out.o]; rfl
      rcases hci with rfl | rfl | rfl
      · have HS3 := Lib.hid (HS2.out.set 1 (.int .i64 x.who) { y with who := x.who } (a4_set1 y _) ⟨HS2.out.oky.row, HS2.out.oky.le, HS2.out.oky.max, HS2.out.oky.nilc⟩ HS2.out.new)
        have hit := HS2.out.it3
        have HI3 : Hid ((W3.setCell ⟨w.heap.size + 2, 1, none⟩ (.int .i64 x.who)).heap[it]? = some (.stringIter ⟨u.toArray⟩ (pos + 1))) := (heap_setCell_other _ (by omega)).trans HI2.out
        clear HS2 HI2
        go_wp2_with fail
        go_roundw
        case rel => exact ⟨pos + 1, _, by omega, HS3.out, HI3.out, HD2.out, HL.out⟩
        case measure => rw [iterPos_at HI3.out]; exact HM.out
      · have HS3 := Lib.hid (HS2.out.set 2 (.int .i64 x.n) { y with n := x.n } (a4_set2 y _) ⟨HS2.out.oky.row, HS2.out.oky.le, HS2.out.oky.max, HS2.out.oky.nilc⟩ HS2.out.new)
        have hit := HS2.out.it3
        have HI3 : Hid ((W3.setCell ⟨w.heap.size + 2, 2, none⟩ (.int .i64 x.n)).heap[it]? = some (.stringIter ⟨u.toArray⟩ (pos + 1))) := (heap_setCell_other _ (by omega)).trans HI2.out
        clear HS2 HI2
        go_wp2_with fail
        go_roundw
        case rel => exact ⟨pos + 1, _, by omega, HS3.out, HI3.out, HD2.out, HL.out⟩
        case measure => rw [iterPos_at HI3.out]; exact HM.out
      · have HR := Lib.hid (HX.out.row.below (HS2.out.bel))
        have HN := Lib.hid HX.out.nilc
        clear HX ho1 ho2 hf1 hf2 hp1 hp2
        go_upto_region 11 with fail
        go_wp2_with (refine wl_app rfl 34 5 1 (.int .u8 0) Tryd.underlying34 infoU8 rfl (by omega) enc1_len enc1_one _ _ rfl W3.heap.size (.slice none 0 0) [] rfl (OwnE.nil _ _) x.q x.b.length x.cap x.b rfl rfl HR.out HN.out (by simp; omega) (by unfold maxLen; simp; omega) (Nat.le_refl _) (fun v' wA hoA hgA _ => ?_); obtain ⟨q', c', hv', hle, hmx, hsl, hnew⟩ := hoA.at enc1_len; rw [List.nil_append] at hoA hv' hle hsl; subst hv'; have HS4 := Lib.hid (HS2.out.below (grown_below hgA (fun g h => by cases h) (Nat.le_refl _))); have HI4 : Hid (wA.heap[it]? = some (.stringIter ⟨u.toArray⟩ (pos + 1))) := (by show _ = _; rw [hgA.block it (lt_heap HI2.out) (fun e => by cases e)]; exact HI2.out); have HY : Hid (OkA wA { y with q := q', cap := c', b := x.b } ∧ ∀ a, q' = some a → it < a.block) := ⟨⟨hsl, hle, hmx, fun h => hoA.none_cap h⟩, fun a ha => Nat.lt_of_lt_of_le (lt_heap HI2.out) (hnew a ha).1⟩; clear hoA hgA hle hmx hsl hnew HS2 HI2 hp3 HR HN; have hf3 : wA.frozen? ⟨w.heap.size + 2, 3, none⟩ = false := (by simp [World.frozen?, HS4.out.o]); have ho3 : wA.cell? ⟨w.heap.size + 2, 3, none⟩ = some (.slice y.q y.b.length y.cap) := (by rw [cell_blk HS4.out.o]; rfl))
        have hit := HS4.out.it3
        have HS5 := Lib.hid (HS4.out.set 3 (.slice q' x.b.length c') { y with q := q', cap := c', b := x.b } (a4_set3 y _ _ _) HY.out.1 HY.out.2)
        have HI5 : Hid ((wA.setCell ⟨w.heap.size + 2, 3, none⟩ (.slice q' x.b.length c')).heap[it]? = some (.stringIter ⟨u.toArray⟩ (pos + 1))) := (heap_setCell_other _ (by omega)).trans HI4.out
        go_roundw
        case rel => exact ⟨pos + 1, _, by omega, HS5.out, HI5.out, HD2.out, hb⟩
        case measure => rw [iterPos_at HI5.out]; exact HM.out
    · obtain rfl : pos = u.length := by omega
      have hnx := fun ty => runS_end (P := Tryd.prog) wr it ⟨u.toArray⟩ u.length ty HI1.out (by rw [hus]; omega)
      have HD2 : Hid (y.d = bareD x.d) := by show _ = _; rw [HD.out, List.take_of_length_le (Nat.le_refl _), HUA.out]
      have hit := HS1.out.it3
      have HG : Hid ((wr.setRow (w.heap.size + 1) (a4C y).toArray).heap[w.heap.size + 1]? = some (Obj.cells (a4C y).toArray 36 (0, 0))) := setRow_at HS1.out.r
      go_wp2_with (first
        | (refine ld_A4 rfl _ rfl (w.heap.size + 2) 0 y rfl (range_whole (by simpa using HS1.out.o)) ?_)
        | ((with_reducible refine gate_st 36 _ _ rfl ?_); refine wl_str rfl _ _ _ rfl (w.heap.size + 1) (a4C y).toArray (a4C a40).toArray _ sizA4 rfl (by simp [a4C, Value.oneCell']) rfl rfl HS1.out.r ?_))
      refine bodyPost_ret (res_rowc rfl _ _ (w.heap.size + 1) _ _ rfl HG.out Tryd.underlying36 rfl sizA4) rfl ⟨y, rfl, HD2.out, HS1.out.oky.of_blocks (by simp) (fun a ha => setRow_other _ _ _ _ (by have := HS1.out.new a ha; omega)), fun a ha => by have := HS1.out.new a ha; omega, setRow_below HS1.out.bel (by omega) _⟩
end Go.Proofs.YtmbbhnbfgcmkgaaDoor
