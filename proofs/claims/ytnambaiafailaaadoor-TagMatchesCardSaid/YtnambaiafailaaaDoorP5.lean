/- tag.Parse. -/
import Derived.Test.YtnambaiafailaaaDoorB5
import Derived.Test.YtnambaiafailaaaDoorG4
import Derived.Test.YtnambaiafailaaaDoorG5
import Derived.Test.YtnambaiafailaaaDoorSh
import Derived.Deep.DeepCutAuto
namespace Go.Proofs.YtnambaiafailaaaDoor
open Go.RowKit

/-- The library's variable that Index reads. -/
def MX (w : World) : Prop := ∃ m : Int, w.cell? ⟨1, 0, none⟩ = some (.int .i64 m)
theorem MX.below {w w' : World} (h : MX w) (hb : Below w.heap.size w w') : MX w' := by
  obtain ⟨m, hm⟩ := h
  exact ⟨m, (hb.cell (p := ⟨1, 0, none⟩) (World.block_lt_of_cell? _ _ hm)).trans hm⟩
/-- A list laid over another one. -/
def ovl (c : List UInt8) (o : Nat) (l : List UInt8) : List UInt8 := c.take o ++ l ++ c.drop (o + l.length)
theorem ovl_len {c : List UInt8} {o : Nat} {l : List UInt8} (h : o + l.length ≤ c.length) : (ovl c o l).length = c.length := by
  unfold ovl; simp; omega
theorem ovl_nil (c : List UInt8) (o : Nat) : ovl c o [] = c := by unfold ovl; simp
theorem ovl_snoc {c : List UInt8} {o : Nat} {l : List UInt8} (h : o + l.length ≤ c.length) {k : Nat} (hk : k < l.length) : (ovl c o (l.take k)).set (o + k) l[k] = ovl c o (l.take (k + 1)) := by
  have l1 : (l.take k).length = k := by simp; omega
  have l2 : (l.take (k + 1)).length = k + 1 := by simp; omega
  have l0 : (c.take o).length = o := by simp; omega
  apply List.ext_getElem?
  intro j
  rw [List.getElem?_set]
  simp only [ovl, l1, l2]
  by_cases e : o + k = j
  · subst e
    rw [if_pos rfl, if_pos (by simp; omega), List.getElem?_append_left (by simp; omega), List.getElem?_append_right (by omega), l0, Nat.add_sub_cancel_left, List.getElem?_take_of_lt (by omega), List.getElem?_eq_getElem hk]
  · rw [if_neg e]
    by_cases h1 : j < o
    · rw [List.getElem?_append_left (by simp; omega), List.getElem?_append_left (by omega), List.getElem?_append_left (by simp; omega), List.getElem?_append_left (by omega)]
    · by_cases h2 : j < o + k
      · rw [List.getElem?_append_left (by simp; omega), List.getElem?_append_right (by omega), List.getElem?_append_left (by simp; omega), List.getElem?_append_right (by omega), List.getElem?_take_of_lt (by omega), List.getElem?_take_of_lt (by omega)]
      · have h3 : o + k + 1 ≤ j := by omega
        rw [List.getElem?_append_right (by simp; omega), List.getElem?_append_right (by simp; omega)]
        simp only [List.length_append, l0, l1, l2, List.getElem?_drop]
        congr 1; omega
theorem ovl_title {c : List UInt8} {a : List UInt8} (h : 3 + a.length ≤ c.length) (ha : a ≠ []) : (ovl c 3 (a.map loB)).set 3 (upB (loB (a.headD 0))) = ovl c 3 (titleL a) := by
  cases a with
  | nil => exact absurd rfl ha
  | cons b a =>
    have l0 : (c.take 3).length = 3 := by simp at h ⊢; omega
    simp only [ovl, titleL, List.headD_cons, List.map_cons, List.length_cons, List.length_map]
    rw [List.append_assoc, List.append_assoc, List.set_append_right _ _ (by omega), l0, up_lo]
    rfl
theorem tag0_len : tag0.length = 10 := rfl
theorem ovl_bytT {L S R : List UInt8} (h1 : L.length ≤ 3) (h2 : S.length ≤ 4) (_ : R.length ≤ 3) : ovl (ovl (ovl tag0 0 L) 3 S) 7 R = bytT ⟨L, S, R⟩ := by
  have e1 : ovl tag0 0 L = padTo 3 L ++ List.replicate 7 0 := by
    simp only [ovl, padTo, tag0, List.take_zero, List.nil_append, Nat.zero_add, List.drop_replicate, List.append_assoc, List.replicate_append_replicate]
    congr 2; omega
  have p1 := padTo_len (l := L) h1
  have p2 := padTo_len (l := S) h2
  have e2 : ovl (padTo 3 L ++ List.replicate 7 0) 3 S = padTo 3 L ++ padTo 4 S ++ List.replicate 3 0 := by
    simp only [ovl]
    rw [List.take_left' p1, ← List.drop_drop, List.drop_left' p1]
    simp only [padTo, List.drop_replicate, List.append_assoc, List.replicate_append_replicate]
    congr 4; omega
  rw [e1, e2]
  simp only [ovl]
  rw [List.take_left' (by rw [List.length_append, p1, p2]), ← List.drop_drop, List.drop_left' (by rw [List.length_append, p1, p2])]
  simp only [bytT, padTo, List.drop_replicate, List.append_assoc]

/-- The world in which Parse goes on. -/
structure PSt (w : World) (ps : List ByteArray) (c : List UInt8) (wr : World) : Prop where
  bel : Below w.heap.size w wr
  r : wr.heap[w.heap.size]? = some (.cells (bC tag0) 29 (0, 0))
  t : wr.heap[w.heap.size + 1]? = some (.cells (bC c) 29 (0, 0))
  p : wr.heap[w.heap.size + 1 + 1]? = some (.cells (ps.map Value.string).toArray 9 (0, 0))
theorem PSt.set {w wr : World} {ps : List ByteArray} {c : List UInt8} (h : PSt w ps c wr) (j : Nat) (x : UInt8) : PSt w ps (c.set j x) (wr.setCell ⟨w.heap.size + 1, j, none⟩ (.int .u8 (x.toNat : Int))) :=
  ⟨h.bel.setCell (p := ⟨w.heap.size + 1, j, none⟩) (by simp) _, by rw [heap_setCell_other _ (by omega)]; exact h.r, by rw [heap_setCell_self _ h.t, bC_set], by rw [heap_setCell_other _ (by omega)]; exact h.p⟩
theorem PSt.cell {w wr : World} {ps : List ByteArray} {c : List UInt8} (h : PSt w ps c wr) (j : Nat) (hj : j < c.length) : ∃ b : UInt8, wr.cell? ⟨w.heap.size + 1, j, none⟩ = some (.int .u8 (b.toNat : Int)) ∧ wr.frozen? ⟨w.heap.size + 1, j, none⟩ = false := by
  refine ⟨c[j], by rw [cell_blk h.t, bC_get c j hj], ?_⟩
  simp [World.frozen?, h.t]
theorem PSt.piece {w wr : World} {ps : List ByteArray} {c : List UInt8} (h : PSt w ps c wr) (j : Nat) (hj : j < ps.length) : wr.cell? ⟨w.heap.size + 1 + 1, j, none⟩ = some (.string ps[j]) := by
  rw [cell_blk h.p]; simp [hj]
theorem PSt.pieceE {w wr : World} {ps : List ByteArray} {c : List UInt8} (h : PSt w ps c wr) {j : Nat} {y : ByteArray} (hj : ps[j]? = some y) : wr.cell? ⟨w.heap.size + 1 + 1, j, none⟩ = some (.string y) := by
  rw [cell_blk h.p]; simp [hj]
theorem PSt.cellE {w wr : World} {ps : List ByteArray} {c : List UInt8} (h : PSt w ps c wr) {j : Nat} {b : UInt8} (hj : c[j]? = some b) : wr.cell? ⟨w.heap.size + 1, j, none⟩ = some (.int .u8 (b.toNat : Int)) ∧ wr.frozen? ⟨w.heap.size + 1, j, none⟩ = false := by
  refine ⟨?_, by simp [World.frozen?, h.t]⟩
  obtain ⟨h1, h2⟩ := List.getElem?_eq_some_iff.1 hj
  rw [cell_blk h.t, bC_get c j h1, h2]
theorem ovl_at {c l : List UInt8} {o : Nat} {b : UInt8} (h : o ≤ c.length) (hb : l[0]? = some b) : (ovl c o l)[o]? = some b := by
  have l0 : (c.take o).length = o := by simp; omega
  have hl := (List.getElem?_eq_some_iff.1 hb).1
  unfold ovl
  rw [List.append_assoc, List.getElem?_append_right (by omega), l0, Nat.sub_self, List.getElem?_append_left hl, hb]
theorem split_any (s : ByteArray) (w : World) (hs : s.size ≤ 1000000) (hm : MX w) :
    Calls Tryd.prog 45 #[.string s, .string ⟨#[45]⟩] w fun e w' => ∃ ps : List ByteArray, ps.map (·.data.toList) = spl 45 s.data.toList ∧ e = .returned (.slice (some ⟨w.heap.size, 0, none⟩) ps.length ps.length) ∧ w' = w.alloc (.cells (ps.map Value.string).toArray 9) := by
  obtain ⟨m, hm⟩ := hm
  refine (Tryd.strings_Split s ⟨#[45]⟩ m w (by omega) hm (by decide)).mono fun e w' ⟨h1, h2⟩ => ⟨_, splitB_spl 45 s, ?_, h2⟩
  rw [h1, Lib.splitB_all ⟨#[45]⟩ (by decide) 0 _ s rfl]
theorem eqlS (x y : ByteArray) (W : World) : (binOp .eql 9 (.string x) (.string y)).run Tryd.prog W = .ok (.bool (decide (x.data.toList = y.data.toList))) W := by
  have h : (x.toList == y.toList) = decide (x.data.toList = y.data.toList) := by
    rw [ByteArray.toList_eq, ByteArray.toList_eq, Bool.eq_iff_iff]; simp
  go_simp
theorem root_beq (s : ByteArray) : (s.toList == [114, 111, 111, 116]) = decide (s.data.toList = rootL) := by
  rw [ByteArray.toList_eq, Bool.eq_iff_iff, decide_eq_true_eq]; simp [rootL]

def tagR (l : List UInt8) : List UInt8 := match parseT l with | some t => bytT t | none => tag0
def tagE (l : List UInt8) : Int := if (parseT l).isSome then 0 else 14
theorem tag_root {l : List UInt8} (h : l = rootL) : tagR l = tag0 ∧ tagE l = 0 := by
  subst h; decide +kernel
theorem tag_no {l : List UInt8} (h : parseT l = none) : tagR l = tag0 ∧ tagE l = 14 := by
  rw [tagR, tagE, h]; exact ⟨rfl, rfl⟩
theorem sizTag : (Tryd.prog.info? 29).map (·.size) = some 10 := by kernel_rfl
theorem tag0_bC : (bC tag0) = #[.int .u8 0, .int .u8 0, .int .u8 0, .int .u8 0, .int .u8 0, .int .u8 0, .int .u8 0, .int .u8 0, .int .u8 0, .int .u8 0] := rfl
/-- What is left of the parts from o on. -/
def IsTail (b : Nat) (ps : List ByteArray) (o : Nat) (v : Value) : Prop := ∃ q, v = .slice q (ps.length - o) (ps.length - o) ∧ o ≤ ps.length ∧ (o < ps.length → q = some ⟨b, o, none⟩)
theorem sizStr : (Tryd.prog.info? 9).map (·.size) = some 1 := by kernel_rfl
theorem tail_next {b : Nat} {ps : List ByteArray} {o : Nat} {m : Nat} (hm : m = ps.length - o) (ho : o < ps.length) : ∃ q, (∀ W, (Instr.sliceAt 79 (.slice (some ⟨b, o, none⟩) m m) (some (.int .i64 1)) none none).run Tryd.prog W = .ok (.slice q (m - 1) (m - 1)) W) ∧ (o + 1 < ps.length → q = some ⟨b, o + 1, none⟩) := by
  refine ⟨cutQ 1 (some ⟨b, o, none⟩) 1 m, fun W => run_sl_lo (P := Tryd.prog) (k := 1) Tryd.underlying79 sizStr (some ⟨b, o, none⟩) m m 1 (by omega) W, fun h => ?_⟩
  unfold cutQ
  rw [if_neg (by omega)]
  show some (Addr.add _ _) = _
  rw [Addr.add_mid]
theorem run_build0 (w : World) : (Instr.build 29 #[]).run Tryd.prog w = .ok (.agg (bC tag0)) w := run_build w _ _ _ (by kernel_rfl)
section
variable {ops : Array Oper} {rest : List Oper} {o : Oper} {a : Act} {w : World} {Q : Exit → Act → World → Prop}
theorem st_T (hgd : o.guard = none) (x y : Operand) (ho : o.op = .store 29 x y) (g : Nat) (e old : List UInt8) (he : e.length = 10) (hold : old.length = 10) (T' : TypeId)
    (hx : a.eval x = .pointer (some ⟨g, 0, none⟩)) (hy : a.eval y = .agg (bC e)) (hg : w.heap[g]? = some (.cells (bC old) T'))
    (h : wpList Tryd.prog ops Q rest (a.put o.dst undef) (w.setRow g (bC e))) : wpList Tryd.prog ops Q (o :: rest) a w :=
  wl_str hgd _ x y ho g _ (bC old) T' (by rw [sizTag, bC_size, he]) (by rw [bC_size, bC_size, he, hold]) (bC_one e) hx hy hg h
theorem ld_T (hw : Region.wanted o (yielded ops a.tmps) = true) (x : Operand) (ho : o.op = .load 29 x) (g : Nat) (l : List UInt8) (hl : l.length = 10) (hx : a.eval x = .pointer (some ⟨g, 0, none⟩)) (hg : w.heap[g]? = some (.cells (bC l) 29 (0, 0)))
    (h : wpList Tryd.prog ops Q rest (a.put o.dst (.agg (bC l))) w) : wpList Tryd.prog ops Q (o :: rest) a w :=
  wl_ldr hw _ x ho g 0 (bC l).toList _ Tryd.underlying29 rfl (by rw [sizTag]; simp [bC, hl]) hx (range_whole (by simpa using hg)) (by simpa using h)
end
theorem PSt.bad {w wr : World} {ps : List ByteArray} {c : List UInt8} (h : PSt w ps c wr) : Below w.heap.size w (wr.setRow w.heap.size (bC tag0)) ∧ (wr.setRow w.heap.size (bC tag0)).heap[w.heap.size]? = some (.cells (bC tag0) 29 (0, 0)) :=
  ⟨setRow_below h.bel (Nat.le_refl _) _, setRow_at h.r⟩
theorem isLang_no {l : List UInt8} (h : l.length < 2 ∨ 3 < l.length ∨ l.all ltB = false) : isLang l = false := by
  unfold isLang
  rcases h with h | h | h
  · rw [decide_eq_false (by omega)]; rfl
  · rw [decide_eq_false (by omega)]; rfl
  · rw [h, Bool.and_false]
set_option maxRecDepth 100000 in
set_option maxHeartbeats 4000000 in
theorem tagParse_any (s : ByteArray) (w : World) (hs : s.size ≤ 1000000) (hmx : MX w) :
    Calls Tryd.prog 12 #[.string s] w fun e w' => e = .returned (.tuple #[.agg (bC (tagR s.data.toList)), .int .i64 (tagE s.data.toList)]) ∧ Below w.heap.size w w' := by
  have he : ∀ W, (binOp .eql 9 (.string s) (.string ⟨#[114, 111, 111, 116]⟩)).run Tryd.prog W = .ok (.bool (decide (s.data.toList = rootL))) W := fun W => eqlS s ⟨#[114, 111, 111, 116]⟩ W
  have hbq := root_beq s
  have HB2 : Hid (Below w.heap.size w ((w.alloc (.cells (bC tag0) 29)).alloc (.cells (bC tag0) 29))) := below_alloc2 _ _ _
  by_cases hroot : s.data.toList = rootL
  · obtain ⟨hr1, hr2⟩ := tag_root hroot
    have H1 := Lib.hid hr1
    have H2 := Lib.hid hr2
    rw [decide_eq_true hroot] at he hbq
    clear hr1 hr2 hroot
    go_enter Tryd.func12, Tryd.ntmps12
    go_wp2_with fail
    rw [← tag0_bC]
    refine bodyPost_ret (res_rowc_tmp (P := Tryd.prog) (T := 29) (T' := 29) (t := 3) rfl _ _ w.heap.size (bC tag0) (0, 0) rfl (heap_alloc2_old _ _ _) Tryd.underlying29 rfl (by rw [sizTag, bC_size]; rfl)) rfl ⟨?_, HB2.out⟩
    rw [H1.out, H2.out]; rfl
  · have HPT : Hid (parseT s.data.toList = parseR (spl 45 s.data.toList)) := by show parseT _ = _; rw [parseT, if_neg hroot]
    rw [decide_eq_false hroot] at he hbq
    clear hroot
    have HSp : Hid (∀ W, Below w.heap.size w W → Calls Tryd.prog 45 #[.string s, .string ⟨#[45]⟩] W fun e w' => ∃ ps : List ByteArray, ps.map (·.data.toList) = spl 45 s.data.toList ∧ e = .returned (.slice (some ⟨W.heap.size, 0, none⟩) ps.length ps.length) ∧ w' = W.alloc (.cells (ps.map Value.string).toArray 9)) := fun W hW => split_any s W hs (hmx.below hW)
    go_enter Tryd.func12, Tryd.ntmps12
    go_upto_region 5 with (go_at_call 45; (refine (HSp.out _ HB2.out).mono ?_); rintro e w' ⟨ps, hps, rfl, rfl⟩)
    have HS : Hid (PSt w ps tag0 (((w.alloc (.cells (bC tag0) 29)).alloc (.cells (bC tag0) 29)).alloc (.cells (ps.map Value.string).toArray 9))) := by
      refine ⟨(HB2.out).alloc (by simp; omega) _, ?_, ?_, ?_⟩
      · rw [heap_alloc_old _ _ (by simp; omega)]; exact heap_alloc2_old _ _ _
      · rw [heap_alloc_old _ _ (by simp)]; exact heap_alloc2_new _ _ _
      · have := heap_alloc_new ((w.alloc (.cells (bC tag0) 29)).alloc (.cells (bC tag0) 29)) (.cells (ps.map Value.string).toArray 9)
        simpa using this
    generalize (((w.alloc (.cells (bC tag0) 29)).alloc (.cells (bC tag0) 29)).alloc (.cells (ps.map Value.string).toArray 9)) = W3 at *
    have hpss : ∀ x ∈ ps, x.size ≤ s.size := fun x hx => by
      have h1 : x.data.toList ∈ spl 45 s.data.toList := by rw [← hps]; exact List.mem_map_of_mem hx
      have := spl_size 45 _ _ h1
      simpa using this
    cases hp : ps with
    | nil => rw [hp] at hps; exact absurd hps.symm (spl_ne 45 _)
    | cons x r =>
    have HPP : Hid (parseT s.data.toList = parseR (x.data.toList :: r.map (·.data.toList))) := by
      show parseT _ = _
      rw [HPT.out, ← hps, hp]; rfl
    have hx1 : x.size ≤ 1000000 := Nat.le_trans (hpss x (by rw [hp]; simp)) hs
    have HRS : Hid (∀ y ∈ r, y.size ≤ 1000000) := fun y hy => Nat.le_trans (hpss y (by rw [hp]; simp [hy])) hs
    have HLE : Hid (ps = x :: r) := hp
    have hlen : ps.length = r.length + 1 := by rw [hp]; simp
    have hc0 : W3.cell? ⟨w.heap.size + 1 + 1, 0, none⟩ = some (.string x) := by have := HS.out.piece 0 (by omega); simpa [hp] using this
    have HBad : Hid (parseT s.data.toList = none → tagR s.data.toList = tag0 ∧ tagE s.data.toList = 14) := tag_no
    have HAl : Hid (∀ W : World, Calls Tryd.prog 46 #[.string x, .func (.func 47) #[] #[]] W fun e w' => e = .returned (.bool (x.data.toList.all ltB)) ∧ W = w') := fun W => all_any5 _ _ x W (by unfold maxLen; omega) (.inl ⟨rfl, rfl⟩)
    have HNo : Hid (x.data.toList.length < 2 ∨ 3 < x.data.toList.length ∨ x.data.toList.all ltB = false → parseT s.data.toList = none) := fun h => by
      rw [HPP.out, parseR, if_neg (by rw [isLang_no h]; simp)]
    have hsl : x.data.toList.length = x.size := by simp
    rw [hsl] at HNo
    have hn0 : (0 : Int) < ps.length := by omega
    have hrun0 := run_build0
    clear hps hpss HPT HSp he hbq hp hs hmx HB2
    rw [← hlen] at *
    by_cases hok : (2 ≤ x.size ∧ x.size ≤ 3) ∧ x.data.toList.all ltB = true
    case neg =>
      have HT : Hid (tagR s.data.toList = tag0 ∧ tagE s.data.toList = 14) := HBad.out (HNo.out (by
        by_cases h2 : x.size < 2
        · exact .inl h2
        · by_cases h3 : 3 < x.size
          · exact .inr (.inl h3)
          · refine .inr (.inr ?_)
            cases h : x.data.toList.all ltB
            · rfl
            · exact absurd ⟨⟨by omega, by omega⟩, h⟩ hok))
      clear HNo HBad
      by_cases h2 : (x.size : Int) < 2
      · clear hok
        go_wp2_with (first
          | (go_at_call 46; (refine (HAl.out _).mono ?_); rintro e w' ⟨rfl, rfl⟩)
          | ((with_reducible refine gate_st 29 _ _ rfl ?_); refine st_T rfl _ _ rfl w.heap.size tag0 tag0 rfl rfl _ rfl rfl HS.out.r ?_))
        refine bodyPost_ret (res_rowc_tmp (P := Tryd.prog) (T := 29) (T' := 29) (t := 3) rfl _ _ w.heap.size (bC tag0) (0, 0) rfl (PSt.bad HS.out).2 Tryd.underlying29 rfl (by rw [sizTag, bC_size]; rfl)) rfl ⟨?_, (PSt.bad HS.out).1⟩
        rw [HT.out.1, HT.out.2]; rfl
      · by_cases h3 : (3 : Int) < x.size
        · clear hok
          go_wp2_with (first
            | (go_at_call 46; (refine (HAl.out _).mono ?_); rintro e w' ⟨rfl, rfl⟩)
            | ((with_reducible refine gate_st 29 _ _ rfl ?_); refine st_T rfl _ _ rfl w.heap.size tag0 tag0 rfl rfl _ rfl rfl HS.out.r ?_))
          refine bodyPost_ret (res_rowc_tmp (P := Tryd.prog) (T := 29) (T' := 29) (t := 3) rfl _ _ w.heap.size (bC tag0) (0, 0) rfl (PSt.bad HS.out).2 Tryd.underlying29 rfl (by rw [sizTag, bC_size]; rfl)) rfl ⟨?_, (PSt.bad HS.out).1⟩
          rw [HT.out.1, HT.out.2]; rfl
        · have hall : x.data.toList.all ltB = false := by
            cases h : x.data.toList.all ltB
            · rfl
            · exact absurd ⟨⟨by omega, by omega⟩, h⟩ hok
          rw [hall] at HAl
          clear hok hall
          go_wp2_with (first
            | (go_at_call 46; (refine (HAl.out _).mono ?_); rintro e w' ⟨rfl, rfl⟩)
            | ((with_reducible refine gate_st 29 _ _ rfl ?_); refine st_T rfl _ _ rfl w.heap.size tag0 tag0 rfl rfl _ rfl rfl HS.out.r ?_))
          refine bodyPost_ret (res_rowc_tmp (P := Tryd.prog) (T := 29) (T' := 29) (t := 3) rfl _ _ w.heap.size (bC tag0) (0, 0) rfl (PSt.bad HS.out).2 Tryd.underlying29 rfl (by rw [sizTag, bC_size]; rfl)) rfl ⟨?_, (PSt.bad HS.out).1⟩
          rw [HT.out.1, HT.out.2]; rfl
    obtain ⟨⟨h2, h3⟩, hall⟩ := hok
    rw [hall] at HAl
    have HP2 : Hid (parseT s.data.toList = if (reg (scr (r.map (·.data.toList))).2).2 = [] then some ⟨x.data.toList.map loB, (scr (r.map (·.data.toList))).1, (reg (scr (r.map (·.data.toList))).2).1⟩ else none) := by
      show parseT _ = _
      rw [HPP.out, parseR, if_pos (by rw [isLang, hall, hsl, decide_eq_true ⟨h2, h3⟩]; rfl)]
    have h2' : (2 : Int) ≤ x.size := by omega
    have h3' : (x.size : Int) ≤ 3 := by omega
    clear hall HNo HPP hsl
    go_wp2_with (go_at_call 46; (refine (HAl.out _).mono ?_); rintro e w' ⟨rfl, rfl⟩)
    have hml : (x.data.toList.map loB).length = x.size := by simp
    go_loopw [37] (fun i wr => ∃ k : Nat, k ≤ x.size ∧ i = .int .i64 k ∧ Hid (PSt w ps (ovl tag0 0 ((x.data.toList.map loB).take k)) wr)) (fun i _ => x.size - (intOf i).toNat)
    case atStart => exact ⟨0, Nat.zero_le _, rfl, by rw [List.take_zero, ovl_nil]; exact HS.out⟩
    case round =>
      obtain ⟨k, hk, rfl, HK⟩ := hrel
      by_cases hlt : k < x.size
      · have hlt' : (k : Int) < x.size := by omega
        have hk0 : (0 : Int) ≤ (k : Int) := by omega
        have hk3 : (k : Int) < 3 := by omega
        have hkl : k < (ovl tag0 0 ((x.data.toList.map loB).take k)).length := by rw [ovl_len (by simp [tag0_len]; omega), tag0_len]; omega
        obtain ⟨ob, hcc, hcf⟩ := HK.out.cell k hkl
        have hc1 : wr.cell? ⟨w.heap.size + 1 + 1, 0, none⟩ = some (.string x) := by have := HK.out.piece 0 (by omega); simpa [HLE.out] using this
        have HLo := Lib.hid lower_any5
        have HK2 : Hid (PSt w ps (ovl tag0 0 ((x.data.toList.map loB).take (k + 1))) (wr.setCell ⟨w.heap.size + 1, k, none⟩ (.int .u8 ((loB x[k]).toNat : Int)))) := by
          have h1 := HK.out.set k (loB x[k])
          have h2 := ovl_snoc (c := tag0) (o := 0) (l := x.data.toList.map loB) (by simp [tag0_len]; omega) (k := k) (by simp; exact hlt)
          rw [Nat.zero_add, List.getElem_map, at_list x k hlt] at h2
          show PSt _ _ _ _
          rw [← h2]; exact h1
        clear hkl
        go_wp2_with (go_at_call 48; (refine (HLo.out _ _).mono ?_); rintro e w' ⟨rfl, rfl⟩)
        go_roundw
        case rel => exact ⟨k + 1, by omega, by go_num, HK2.out⟩
        case measure => simp [intOf]; omega
      · obtain rfl : k = x.size := by omega
        rw [List.take_of_length_le (by rw [hml]; exact Nat.le_refl _)] at HK
        have HCL1 : Hid ((ovl tag0 0 (x.data.toList.map loB)).length = 10) := by show (ovl _ _ _).length = 10; rw [ovl_len (by simp [tag0_len]; omega), tag0_len]
        obtain ⟨q1, hsl1, hq1⟩ := tail_next (b := w.heap.size + 1 + 1) (ps := ps) (o := 0) (m := ps.length) rfl (by omega)
        have hl1 : ps.length - 1 = r.length := by rw [HLE.out]; simp
        rw [hl1] at hsl1
        have hq1' : r ≠ [] → q1 = some ⟨w.heap.size + 1 + 1, 1, none⟩ := fun h => hq1 (by rw [HLE.out]; cases r with | nil => exact absurd rfl h | cons a r => simp)
        clear hq1 hl1 hn0 HAl hc0 HS
        cases r with
        | nil =>
          have HTT : Hid (parseT s.data.toList = some ⟨x.data.toList.map loB, [], []⟩) := by show parseT _ = _; rw [HP2.out]; rfl
          clear hq1'
          have HOV : Hid (ovl (ovl (ovl tag0 0 (x.data.toList.map loB)) 3 []) 7 [] = bytT ⟨x.data.toList.map loB, [], []⟩) := ovl_bytT (by simp; omega) (show ([] : List UInt8).length ≤ 4 from Nat.zero_le 4) (show ([] : List UInt8).length ≤ 3 from Nat.zero_le 3)
          have HBL : Hid ((bytT ⟨x.data.toList.map loB, [], []⟩).length = 10) := by show (bytT _).length = 10; rw [← HOV.out, ovl_len (by rw [ovl_len (by rw [ovl_len (by simp [tag0_len]; omega), tag0_len]; have := (show ([] : List UInt8).length ≤ 4 from Nat.zero_le 4); omega), ovl_len (by simp [tag0_len]; omega), tag0_len]; have := (show ([] : List UInt8).length ≤ 3 from Nat.zero_le 3); omega), ovl_len (by rw [ovl_len (by simp [tag0_len]; omega), tag0_len]; have := (show ([] : List UInt8).length ≤ 4 from Nat.zero_le 4); omega), ovl_len (by simp [tag0_len]; omega), tag0_len]
          rw [ovl_nil, ovl_nil] at HOV
          have HTR : Hid (tagR s.data.toList = ovl tag0 0 (x.data.toList.map loB) ∧ tagE s.data.toList = 0) := by
            refine ⟨?_, ?_⟩
            · rw [tagR, HTT.out]; exact HOV.out.symm
            · rw [tagE, HTT.out]; rfl
          have hcl : (ovl tag0 0 (x.data.toList.map loB)).length = 10 := by rw [HOV.out]; exact HBL.out
          generalize ovl tag0 0 (x.data.toList.map loB) = cz at *
          go_wp2_with (first
            | (with_reducible refine ld_T rfl _ rfl (w.heap.size + 1) cz hcl rfl HK.out.t ?_)
            | ((with_reducible refine gate_st 29 _ _ rfl ?_); refine st_T rfl _ _ rfl w.heap.size cz tag0 hcl rfl _ rfl rfl HK.out.r ?_))
          refine bodyPost_ret (res_rowc_tmp (P := Tryd.prog) (T := 29) (T' := 29) (t := 3) rfl _ _ w.heap.size (bC cz) (0, 0) rfl (setRow_at HK.out.r) Tryd.underlying29 rfl (by rw [sizTag, bC_size, hcl])) rfl ⟨?_, setRow_below HK.out.bel (Nat.le_refl _) _⟩
          rw [HTR.out.1, HTR.out.2]; rfl
        | cons a r =>
          obtain rfl := hq1' (by simp)
          clear hq1'
          have hca := HK.out.pieceE (j := 1) (y := a) (by rw [HLE.out]; rfl)
          have ha1 : a.size ≤ 1000000 := HRS.out a (by simp)
          have HALa : Hid (∀ W : World, Calls Tryd.prog 46 #[.string a, .func (.func 47) #[] #[]] W fun e w' => e = .returned (.bool (a.data.toList.all ltB)) ∧ W = w') := fun W => all_any5 _ _ a W (by unfold maxLen; omega) (.inl ⟨rfl, rfl⟩)
          have hla : a.data.toList.length = a.size := by simp
          have HSD : Hid (isScript a.data.toList = (decide (a.size = 4) && a.data.toList.all ltB)) := by show isScript _ = _; rw [isScript, hla]
          have hn3 : (0 : Int) < ((r.length + 1 : Nat) : Int) := by omega
          have hn4 : (0 : Int) < (r.length : Int) + 1 := by omega
          simp only [List.length_cons] at hsl1
          clear hla
          go_upto_region 14 with fail
          go_cut [67] (fun t wx => t = .bool (isScript a.data.toList) ∧ Hid (PSt w ps (ovl tag0 0 (x.data.toList.map loB)) wx))
          case first =>
            by_cases hy4 : a.size = 4
            case pos =>
              have e4 : ((a.size : Int) == 4) = true := by rw [hy4]; rfl
              rw [hy4] at HSD
              clear hy4
              cases hal : a.data.toList.all ltB
              all_goals
                rw [hal] at HALa HSD; clear hal
                go_wp2_with (go_at_call 46; (refine (HALa.out _).mono ?_); rintro e w' ⟨rfl, rfl⟩)
                go_meet
                exact ⟨by rw [HSD.out]; rfl, HK.out⟩
            case neg =>
              have e4 : ((a.size : Int) == 4) = false := by rw [beq_eq_false_iff_ne]; omega
              rw [decide_eq_false hy4] at HSD
              clear hy4
              go_wp2_with fail
              go_meet
              exact ⟨by rw [HSD.out]; rfl, HK.out⟩
          case rest =>
            clear hca HK
            obtain ⟨rfl, HK⟩ := hcut
            clear HSD HALa
            cases hscr : isScript a.data.toList
            case false =>
              have HNS := Lib.hid hscr; clear hscr
              have HSC : Hid (scr ((a :: r).map (·.data.toList)) = ([], a.data.toList :: r.map (·.data.toList))) := by show scr _ = _; simp only [List.map_cons, scr, HNS.out, Bool.false_eq_true, if_false]
              have HCL := HCL1
              have hcy := HK.out.pieceE (j := 1) (y := a) (by rw [HLE.out]; rfl)
              have HALy : Hid (∀ W : World, Calls Tryd.prog 46 #[.string a, .func (.func 47) #[] #[]] W fun e w' => e = .returned (.bool (a.data.toList.all ltB)) ∧ W = w') := fun W => all_any5 _ _ a W (by unfold maxLen; omega) (.inl ⟨rfl, rfl⟩)
              have HADy : Hid (∀ W : World, Calls Tryd.prog 46 #[.string a, .func (.func 50) #[] #[]] W fun e w' => e = .returned (.bool (a.data.toList.all dgB)) ∧ W = w') := fun W => all_any5 _ _ a W (by unfold maxLen; omega) (.inr ⟨rfl, rfl⟩)
              have hly : a.data.toList.length = a.size := by simp
              have HRD : Hid (isRegion a.data.toList = ((decide (a.size = 2) && a.data.toList.all ltB) || (decide (a.size = 3) && a.data.toList.all dgB))) := by show isRegion _ = _; rw [isRegion, hly]
              have hn1 : (0 : Int) < (r.length : Int) + 1 := by omega
              have hn2 : (0 : Int) < ((r.length + 1 : Nat) : Int) := by omega
              clear hly
              go_upto_region 22 with fail
              go_cut [117] (fun t wx => t = .bool (isRegion a.data.toList) ∧ Hid (PSt w ps (ovl tag0 0 (x.data.toList.map loB)) wx))
              case first =>
                by_cases hy2 : a.size = 2
                case pos =>
                  have e2 : ((a.size : Int) == 2) = true := by rw [hy2]; rfl
                  have e3 : ((a.size : Int) == 3) = false := by rw [hy2]; rfl
                  rw [hy2] at HRD
                  clear hy2
                  generalize a.data.toList.all dgB = bd at *
                  cases hal : a.data.toList.all ltB
                  all_goals
                    rw [hal] at HALy HRD; clear hal
                    go_wp2_with (go_at_call 46; (refine (HALy.out _).mono ?_); rintro e w' ⟨rfl, rfl⟩)
                    go_meet
                    exact ⟨by rw [HRD.out]; rfl, HK.out⟩
                case neg =>
                  have e2 : ((a.size : Int) == 2) = false := by rw [beq_eq_false_iff_ne]; omega
                  rw [decide_eq_false hy2] at HRD
                  clear hy2
                  by_cases hy3 : a.size = 3
                  case pos =>
                    have e3 : ((a.size : Int) == 3) = true := by rw [hy3]; rfl
                    rw [hy3] at HRD
                    clear hy3
                    generalize a.data.toList.all ltB = bl at *
                    cases had : a.data.toList.all dgB
                    all_goals
                      rw [had] at HADy HRD; clear had
                      go_wp2_with (go_at_call 46; (refine (HADy.out _).mono ?_); rintro e w' ⟨rfl, rfl⟩)
                      go_meet
                      exact ⟨by rw [HRD.out]; rfl, HK.out⟩
                  case neg =>
                    have e3 : ((a.size : Int) == 3) = false := by rw [beq_eq_false_iff_ne]; omega
                    rw [decide_eq_false hy3] at HRD
                    clear hy3
                    go_wp2_with fail
                    go_meet
                    exact ⟨by rw [HRD.out]; rfl, HK.out⟩
              case rest =>
                clear hcy HK
                obtain ⟨rfl, HK⟩ := hcut
                clear HRD HALy HADy
                cases hreg : isRegion a.data.toList
                case false =>
                  have HNR := Lib.hid hreg; clear hreg
                  have HTT : Hid (tagR s.data.toList = tag0 ∧ tagE s.data.toList = 14) := HBad.out (by rw [HP2.out, HSC.out]; simp only [reg, HNR.out, Bool.false_eq_true, if_false]; rfl)
                  go_wp2_with ((with_reducible refine gate_st 29 _ _ rfl ?_); refine st_T rfl _ _ rfl w.heap.size tag0 tag0 rfl rfl _ rfl rfl HK.out.r ?_)
                  refine bodyPost_ret (res_rowc_tmp (P := Tryd.prog) (T := 29) (T' := 29) (t := 3) rfl _ _ w.heap.size (bC tag0) (0, 0) rfl (PSt.bad HK.out).2 Tryd.underlying29 rfl (by rw [sizTag, bC_size]; rfl)) rfl ⟨?_, (PSt.bad HK.out).1⟩
                  rw [HTT.out.1, HTT.out.2]; rfl
                case true =>
                  have HYR := Lib.hid hreg; clear hreg
                  have hys : a.size ≤ 3 ∧ 2 ≤ a.size := by have h1 := isRegion_len HYR.out; rw [show a.data.toList.length = a.size by simp] at h1; omega
                  have HPR : Hid (parseT s.data.toList = if r.map (·.data.toList) = [] then some ⟨x.data.toList.map loB, [], a.data.toList.map upB⟩ else none) := by show parseT _ = _; rw [HP2.out, HSC.out]; simp only [reg, HYR.out, if_true]
                  obtain ⟨q9, hsl9, _⟩ := tail_next (b := w.heap.size + 1 + 1) (ps := ps) (o := 1) (m := r.length + 1) (by rw [HLE.out]; simp) (by rw [HLE.out]; simp)
                  simp only [Nat.add_sub_cancel] at hsl9
                  have hyl : (a.data.toList.map upB).length = a.size := by simp
                  have hcl0 : (ovl tag0 0 (x.data.toList.map loB)).length = 10 := HCL.out
                  have hcy := HK.out.pieceE (j := 1) (y := a) (by rw [HLE.out]; rfl)
                  go_wp2_with fail
                  go_loopw [122] (fun i wr => ∃ k : Nat, k ≤ a.size ∧ i = .int .i64 k ∧ Hid (PSt w ps (ovl (ovl tag0 0 (x.data.toList.map loB)) 7 ((a.data.toList.map upB).take k)) wr)) (fun i _ => a.size - (intOf i).toNat)
                  case atStart => exact ⟨0, Nat.zero_le _, rfl, by rw [List.take_zero, ovl_nil]; exact HK.out⟩
                  case round =>
                    obtain ⟨k, hk, rfl, HK⟩ := hrel
                    by_cases hlt : k < a.size
                    case pos =>
                      have hlt' : (k : Int) < a.size := by omega
                      have hk0 : (0 : Int) ≤ (k : Int) := by omega
                      have hk3 : (k : Int) < 3 := by omega
                      have hkl : 7 + k < (ovl (ovl tag0 0 (x.data.toList.map loB)) 7 ((a.data.toList.map upB).take k)).length := by rw [ovl_len (by rw [hcl0]; simp; omega), hcl0]; omega
                      obtain ⟨ob, hcc, hcf⟩ := HK.out.cell (7 + k) hkl
                      have hc1 := HK.out.pieceE (j := 1) (y := a) (by rw [HLE.out]; rfl)
                      have HUp := Lib.hid upper_any5
                      have HK2 : Hid (PSt w ps (ovl (ovl tag0 0 (x.data.toList.map loB)) 7 ((a.data.toList.map upB).take (k + 1))) (wr.setCell ⟨w.heap.size + 1, 7 + k, none⟩ (.int .u8 ((upB a[k]).toNat : Int)))) := by
                        have h1 := HK.out.set (7 + k) (upB a[k])
                        have h2 := ovl_snoc (c := ovl tag0 0 (x.data.toList.map loB)) (o := 7) (l := a.data.toList.map upB) (by rw [hcl0]; simp; omega) (k := k) (by simp; exact hlt)
                        rw [List.getElem_map, at_list a k hlt] at h2
                        show PSt _ _ _ _
                        rw [← h2]; exact h1
                      clear hkl
                      go_wp2_with (go_at_call 49; (refine (HUp.out _ _).mono ?_); rintro e w' ⟨rfl, rfl⟩)
                      go_roundw
                      case rel => exact ⟨k + 1, by omega, by go_num, HK2.out⟩
                      case measure => simp [intOf]; omega
                    case neg =>
                      obtain rfl : k = a.size := by omega
                      rw [List.take_of_length_le (by rw [hyl]; exact Nat.le_refl _)] at HK
                      cases r with
                      | nil =>
                        simp only [List.length_nil, Nat.zero_add] at hsl9 ⊢
                        have HOV : Hid (ovl (ovl (ovl tag0 0 (x.data.toList.map loB)) 3 []) 7 (a.data.toList.map upB) = bytT ⟨x.data.toList.map loB, [], (a.data.toList.map upB)⟩) := ovl_bytT (by simp; omega) (show ([] : List UInt8).length ≤ 4 from Nat.zero_le 4) (show (a.data.toList.map upB).length ≤ 3 by rw [hyl]; exact hys.1)
                        have HBL : Hid ((bytT ⟨x.data.toList.map loB, [], (a.data.toList.map upB)⟩).length = 10) := by show (bytT _).length = 10; rw [← HOV.out, ovl_len (by rw [ovl_len (by rw [ovl_len (by simp [tag0_len]; omega), tag0_len]; have := (show ([] : List UInt8).length ≤ 4 from Nat.zero_le 4); omega), ovl_len (by simp [tag0_len]; omega), tag0_len]; have := (show (a.data.toList.map upB).length ≤ 3 by rw [hyl]; exact hys.1); omega), ovl_len (by rw [ovl_len (by simp [tag0_len]; omega), tag0_len]; have := (show ([] : List UInt8).length ≤ 4 from Nat.zero_le 4); omega), ovl_len (by simp [tag0_len]; omega), tag0_len]
                        rw [ovl_nil _ 3] at HOV
                        have HTT : Hid (parseT s.data.toList = some ⟨x.data.toList.map loB, [], (a.data.toList.map upB)⟩) := by show parseT _ = _; rw [HPR.out]; rfl
                        have HTR : Hid (tagR s.data.toList = ovl (ovl tag0 0 (x.data.toList.map loB)) 7 (a.data.toList.map upB) ∧ tagE s.data.toList = 0) := by
                          refine ⟨?_, ?_⟩
                          · rw [tagR, HTT.out]; exact HOV.out.symm
                          · rw [tagE, HTT.out]; rfl
                        have hcl : (ovl (ovl tag0 0 (x.data.toList.map loB)) 7 (a.data.toList.map upB)).length = 10 := by rw [HOV.out]; exact HBL.out
                        generalize ovl (ovl tag0 0 (x.data.toList.map loB)) 7 (a.data.toList.map upB) = cz at *
                        go_wp2_with (first
                          | (with_reducible refine ld_T rfl _ rfl (w.heap.size + 1) cz hcl rfl HK.out.t ?_)
                          | ((with_reducible refine gate_st 29 _ _ rfl ?_); refine st_T rfl _ _ rfl w.heap.size cz tag0 hcl rfl _ rfl rfl HK.out.r ?_))
                        refine bodyPost_ret (res_rowc_tmp (P := Tryd.prog) (T := 29) (T' := 29) (t := 3) rfl _ _ w.heap.size (bC cz) (0, 0) rfl (setRow_at HK.out.r) Tryd.underlying29 rfl (by rw [sizTag, bC_size, hcl])) rfl ⟨?_, setRow_below HK.out.bel (Nat.le_refl _) _⟩
                        rw [HTR.out.1, HTR.out.2]; rfl
                      | cons z t =>
                        have hn5 : (0 : Int) < ((t.length + 1 : Nat) : Int) := by omega
                        have hn6 : (0 : Int) < (t.length : Int) + 1 := by omega
                        simp only [List.length_cons] at hsl9 ⊢
                        have HTT : Hid (tagR s.data.toList = tag0 ∧ tagE s.data.toList = 14) := HBad.out (by rw [HPR.out]; rfl)
                        go_wp2_with ((with_reducible refine gate_st 29 _ _ rfl ?_); refine st_T rfl _ _ rfl w.heap.size tag0 tag0 rfl rfl _ rfl rfl HK.out.r ?_)
                        refine bodyPost_ret (res_rowc_tmp (P := Tryd.prog) (T := 29) (T' := 29) (t := 3) rfl _ _ w.heap.size (bC tag0) (0, 0) rfl (PSt.bad HK.out).2 Tryd.underlying29 rfl (by rw [sizTag, bC_size]; rfl)) rfl ⟨?_, (PSt.bad HK.out).1⟩
                        rw [HTT.out.1, HTT.out.2]; rfl
            case true =>
              have HYS := Lib.hid hscr; clear hscr
              have HSC : Hid (scr ((a :: r).map (·.data.toList)) = (titleL a.data.toList, r.map (·.data.toList))) := by show scr _ = _; simp only [List.map_cons, scr, HYS.out, if_true]
              have has4 : a.size = 4 := by have h1 := isScript_len HYS.out; simpa using h1
              have has4' : (a.size : Int) = 4 := by omega
              have htl : (titleL a.data.toList).length ≤ 4 := by rw [titleL_len]; simp; omega
              have H4 := Lib.hid has4
              have H4' := Lib.hid has4'
              clear has4 has4'
              have hcl0 : (ovl tag0 0 (x.data.toList.map loB)).length = 10 := HCL1.out
              have hal2 : (a.data.toList.map loB).length = 4 := by have := H4.out; simpa using this
              have hca := HK.out.pieceE (j := 1) (y := a) (by rw [HLE.out]; rfl)
              obtain ⟨q2, hsl2, hq2⟩ := tail_next (b := w.heap.size + 1 + 1) (ps := ps) (o := 1) (m := r.length + 1) (by rw [HLE.out]; simp) (by rw [HLE.out]; simp)
              simp only [Nat.add_sub_cancel] at hsl2
              have hq2' : r ≠ [] → q2 = some ⟨w.heap.size + 1 + 1, 2, none⟩ := fun h => hq2 (by rw [HLE.out]; cases r with | nil => exact absurd rfl h | cons a r => simp)
              clear hq2
              go_wp2_with fail
              go_loopw [68] (fun i wr => ∃ k : Nat, k ≤ 4 ∧ i = .int .i64 k ∧ Hid (PSt w ps (ovl (ovl tag0 0 (x.data.toList.map loB)) 3 ((a.data.toList.map loB).take k)) wr)) (fun i _ => 4 - (intOf i).toNat)
              case atStart => exact ⟨0, Nat.zero_le _, rfl, by rw [List.take_zero, ovl_nil]; exact HK.out⟩
              case round =>
                obtain ⟨k, hk, rfl, HK⟩ := hrel
                by_cases hlt4 : k < 4
                case pos =>
                  have hlt : k < a.size := by have := H4.out; omega
                  have hk4 : (k : Int) < 4 := by omega
                  have ha4 : a.size ≤ 4 := by have := H4.out; omega
                  have hlt' : (k : Int) < a.size := by omega
                  have hk0 : (0 : Int) ≤ (k : Int) := by omega
                  have hk3 : (k : Int) < 4 := by omega
                  have hkl : 3 + k < (ovl (ovl tag0 0 (x.data.toList.map loB)) 3 ((a.data.toList.map loB).take k)).length := by rw [ovl_len (by rw [hcl0]; simp; omega), hcl0]; omega
                  obtain ⟨ob, hcc, hcf⟩ := HK.out.cell (3 + k) hkl
                  have hc1 := HK.out.pieceE (j := 1) (y := a) (by rw [HLE.out]; rfl)
                  have HLo := Lib.hid lower_any5
                  have HK2 : Hid (PSt w ps (ovl (ovl tag0 0 (x.data.toList.map loB)) 3 ((a.data.toList.map loB).take (k + 1))) (wr.setCell ⟨w.heap.size + 1, 3 + k, none⟩ (.int .u8 ((loB a[k]).toNat : Int)))) := by
                    have h1 := HK.out.set (3 + k) (loB a[k])
                    have h2 := ovl_snoc (c := ovl tag0 0 (x.data.toList.map loB)) (o := 3) (l := a.data.toList.map loB) (by rw [hcl0]; simp; omega) (k := k) (by simp; exact hlt)
                    rw [List.getElem_map, at_list a k hlt] at h2
                    show PSt _ _ _ _
                    rw [← h2]; exact h1
                  clear hkl
                  go_wp2_with (go_at_call 48; (refine (HLo.out _ _).mono ?_); rintro e w' ⟨rfl, rfl⟩)
                  go_roundw
                  case rel => exact ⟨k + 1, by omega, by go_num, HK2.out⟩
                  case measure => simp [intOf]; omega
                case neg =>
                  obtain rfl : k = 4 := by omega
                  rw [List.take_of_length_le (by rw [hal2]; exact Nat.le_refl _)] at HK
                  have hane : a.data.toList ≠ [] := fun e => by rw [e] at hal2; simp at hal2
                  obtain ⟨c0, hc0⟩ : ∃ c0 : UInt8, a.data.toList.headD 0 = c0 := ⟨_, rfl⟩
                  have HC0 := Lib.hid hc0; clear hc0
                  obtain ⟨hcc, hcf⟩ := HK.out.cellE (j := 3) (b := loB c0) (ovl_at (by rw [hcl0]; omega) (by rw [← HC0.out]; cases hd : a.data.toList with | nil => exact absurd hd hane | cons b l => rfl))
                  have HUp := Lib.hid upper_any5
                  have hla4 : a.data.toList.length = 4 := by rw [List.length_map] at hal2; exact hal2
                  have HK2 : Hid (PSt w ps (ovl (ovl tag0 0 (x.data.toList.map loB)) 3 (titleL a.data.toList)) (wr.setCell ⟨w.heap.size + 1, 3, none⟩ (.int .u8 ((upB (loB c0)).toNat : Int)))) := by
                    have h1 := HK.out.set 3 (upB (loB c0))
                    have h3 := ovl_title (c := ovl tag0 0 (x.data.toList.map loB)) (by rw [hcl0, hla4]; omega) hane
                    rw [HC0.out] at h3
                    rw [h3] at h1
                    exact h1
                  have HCL : Hid ((ovl (ovl tag0 0 (x.data.toList.map loB)) 3 (titleL a.data.toList)).length = 10) := by show (ovl _ _ _).length = 10; rw [ovl_len (by rw [hcl0]; omega), hcl0]
                  clear hcl0 hal2 hane hla4
                  go_upto_region 21 with (go_at_call 49; (refine (HUp.out _ _).mono ?_); rintro e w' ⟨rfl, rfl⟩)
                  have HK := HK2
                  generalize wr.setCell ⟨w.heap.size + 1, 3, none⟩ (.int .u8 ((upB (loB c0)).toNat : Int)) = wr' at *
                  clear HK2 hcc hcf hca
                  go_upto_region 22 with fail
                  cases r with
                  | nil =>
                    have HTT : Hid (parseT s.data.toList = some ⟨x.data.toList.map loB, titleL a.data.toList, []⟩) := by show parseT _ = _; rw [HP2.out, HSC.out]; rfl
                    clear hq2'
                    have HOV : Hid (ovl (ovl (ovl tag0 0 (x.data.toList.map loB)) 3 (titleL a.data.toList)) 7 [] = bytT ⟨x.data.toList.map loB, (titleL a.data.toList), []⟩) := ovl_bytT (by simp; omega) htl (show ([] : List UInt8).length ≤ 3 from Nat.zero_le 3)
                    have HBL : Hid ((bytT ⟨x.data.toList.map loB, (titleL a.data.toList), []⟩).length = 10) := by show (bytT _).length = 10; rw [← HOV.out, ovl_len (by rw [ovl_len (by rw [ovl_len (by simp [tag0_len]; omega), tag0_len]; have := htl; omega), ovl_len (by simp [tag0_len]; omega), tag0_len]; have := (show ([] : List UInt8).length ≤ 3 from Nat.zero_le 3); omega), ovl_len (by rw [ovl_len (by simp [tag0_len]; omega), tag0_len]; have := htl; omega), ovl_len (by simp [tag0_len]; omega), tag0_len]
                    rw [ovl_nil _ 7] at HOV
                    have HTR : Hid (tagR s.data.toList = ovl (ovl tag0 0 (x.data.toList.map loB)) 3 (titleL a.data.toList) ∧ tagE s.data.toList = 0) := by
                      refine ⟨?_, ?_⟩
                      · rw [tagR, HTT.out]; exact HOV.out.symm
                      · rw [tagE, HTT.out]; rfl
                    have hcl : (ovl (ovl tag0 0 (x.data.toList.map loB)) 3 (titleL a.data.toList)).length = 10 := by rw [HOV.out]; exact HBL.out
                    generalize ovl (ovl tag0 0 (x.data.toList.map loB)) 3 (titleL a.data.toList) = cz at *
                    go_wp2_with (first
                      | (with_reducible refine ld_T rfl _ rfl (w.heap.size + 1) cz hcl rfl HK.out.t ?_)
                      | ((with_reducible refine gate_st 29 _ _ rfl ?_); refine st_T rfl _ _ rfl w.heap.size cz tag0 hcl rfl _ rfl rfl HK.out.r ?_))
                    refine bodyPost_ret (res_rowc_tmp (P := Tryd.prog) (T := 29) (T' := 29) (t := 3) rfl _ _ w.heap.size (bC cz) (0, 0) rfl (setRow_at HK.out.r) Tryd.underlying29 rfl (by rw [sizTag, bC_size, hcl])) rfl ⟨?_, setRow_below HK.out.bel (Nat.le_refl _) _⟩
                    rw [HTR.out.1, HTR.out.2]; rfl
                  | cons y t =>
                    obtain rfl := hq2' (by simp)
                    clear hq2'
                    have hy1 : y.size ≤ 1000000 := HRS.out y (by simp)
                    simp only [List.length_cons] at hsl2 ⊢
                    have hcy := HK.out.pieceE (j := 2) (y := y) (by rw [HLE.out]; rfl)
                    have HALy : Hid (∀ W : World, Calls Tryd.prog 46 #[.string y, .func (.func 47) #[] #[]] W fun e w' => e = .returned (.bool (y.data.toList.all ltB)) ∧ W = w') := fun W => all_any5 _ _ y W (by unfold maxLen; omega) (.inl ⟨rfl, rfl⟩)
                    have HADy : Hid (∀ W : World, Calls Tryd.prog 46 #[.string y, .func (.func 50) #[] #[]] W fun e w' => e = .returned (.bool (y.data.toList.all dgB)) ∧ W = w') := fun W => all_any5 _ _ y W (by unfold maxLen; omega) (.inr ⟨rfl, rfl⟩)
                    have hly : y.data.toList.length = y.size := by simp
                    have HRD : Hid (isRegion y.data.toList = ((decide (y.size = 2) && y.data.toList.all ltB) || (decide (y.size = 3) && y.data.toList.all dgB))) := by show isRegion _ = _; rw [isRegion, hly]
                    have hn1 : (0 : Int) < (t.length : Int) + 1 := by omega
                    have hn2 : (0 : Int) < ((t.length + 1 : Nat) : Int) := by omega
                    clear hly
                    go_upto_region 22 with fail
                    go_cut [117] (fun t wx => t = .bool (isRegion y.data.toList) ∧ Hid (PSt w ps (ovl (ovl tag0 0 (x.data.toList.map loB)) 3 (titleL a.data.toList)) wx))
                    case first =>
                      by_cases hy2 : y.size = 2
                      case pos =>
                        have e2 : ((y.size : Int) == 2) = true := by rw [hy2]; rfl
                        have e3 : ((y.size : Int) == 3) = false := by rw [hy2]; rfl
                        rw [hy2] at HRD
                        clear hy2
                        generalize y.data.toList.all dgB = bd at *
                        cases hal : y.data.toList.all ltB
                        all_goals
                          rw [hal] at HALy HRD; clear hal
                          go_wp2_with (go_at_call 46; (refine (HALy.out _).mono ?_); rintro e w' ⟨rfl, rfl⟩)
                          go_meet
                          exact ⟨by rw [HRD.out]; rfl, HK.out⟩
                      case neg =>
                        have e2 : ((y.size : Int) == 2) = false := by rw [beq_eq_false_iff_ne]; omega
                        rw [decide_eq_false hy2] at HRD
                        clear hy2
                        by_cases hy3 : y.size = 3
                        case pos =>
                          have e3 : ((y.size : Int) == 3) = true := by rw [hy3]; rfl
                          rw [hy3] at HRD
                          clear hy3
                          generalize y.data.toList.all ltB = bl at *
                          cases had : y.data.toList.all dgB
                          all_goals
                            rw [had] at HADy HRD; clear had
                            go_wp2_with (go_at_call 46; (refine (HADy.out _).mono ?_); rintro e w' ⟨rfl, rfl⟩)
                            go_meet
                            exact ⟨by rw [HRD.out]; rfl, HK.out⟩
                        case neg =>
                          have e3 : ((y.size : Int) == 3) = false := by rw [beq_eq_false_iff_ne]; omega
                          rw [decide_eq_false hy3] at HRD
                          clear hy3
                          go_wp2_with fail
                          go_meet
                          exact ⟨by rw [HRD.out]; rfl, HK.out⟩
                    case rest =>
                      clear hcy HK
                      obtain ⟨rfl, HK⟩ := hcut
                      clear HRD HALy HADy
                      cases hreg : isRegion y.data.toList
                      case false =>
                        have HNR := Lib.hid hreg; clear hreg
                        have HTT : Hid (tagR s.data.toList = tag0 ∧ tagE s.data.toList = 14) := HBad.out (by rw [HP2.out, HSC.out]; simp only [List.map_cons, reg, HNR.out, Bool.false_eq_true, if_false]; rfl)
                        go_wp2_with ((with_reducible refine gate_st 29 _ _ rfl ?_); refine st_T rfl _ _ rfl w.heap.size tag0 tag0 rfl rfl _ rfl rfl HK.out.r ?_)
                        refine bodyPost_ret (res_rowc_tmp (P := Tryd.prog) (T := 29) (T' := 29) (t := 3) rfl _ _ w.heap.size (bC tag0) (0, 0) rfl (PSt.bad HK.out).2 Tryd.underlying29 rfl (by rw [sizTag, bC_size]; rfl)) rfl ⟨?_, (PSt.bad HK.out).1⟩
                        rw [HTT.out.1, HTT.out.2]; rfl
                      case true =>
                        have HYR := Lib.hid hreg; clear hreg
                        have hys : y.size ≤ 3 ∧ 2 ≤ y.size := by have h1 := isRegion_len HYR.out; rw [show y.data.toList.length = y.size by simp] at h1; omega
                        have HPR : Hid (parseT s.data.toList = if t.map (·.data.toList) = [] then some ⟨x.data.toList.map loB, (titleL a.data.toList), y.data.toList.map upB⟩ else none) := by show parseT _ = _; rw [HP2.out, HSC.out]; simp only [List.map_cons, reg, HYR.out, if_true]
                        obtain ⟨q9, hsl9, _⟩ := tail_next (b := w.heap.size + 1 + 1) (ps := ps) (o := 2) (m := t.length + 1) (by rw [HLE.out]; simp) (by rw [HLE.out]; simp)
                        simp only [Nat.add_sub_cancel] at hsl9
                        have hyl : (y.data.toList.map upB).length = y.size := by simp
                        have hcl0 : (ovl (ovl tag0 0 (x.data.toList.map loB)) 3 (titleL a.data.toList)).length = 10 := HCL.out
                        have hcy := HK.out.pieceE (j := 2) (y := y) (by rw [HLE.out]; rfl)
                        go_wp2_with fail
                        go_loopw [122] (fun i wr => ∃ k : Nat, k ≤ y.size ∧ i = .int .i64 k ∧ Hid (PSt w ps (ovl (ovl (ovl tag0 0 (x.data.toList.map loB)) 3 (titleL a.data.toList)) 7 ((y.data.toList.map upB).take k)) wr)) (fun i _ => y.size - (intOf i).toNat)
                        case atStart => exact ⟨0, Nat.zero_le _, rfl, by rw [List.take_zero, ovl_nil]; exact HK.out⟩
                        case round =>
                          obtain ⟨k, hk, rfl, HK⟩ := hrel
                          by_cases hlt : k < y.size
                          case pos =>
                            have hlt' : (k : Int) < y.size := by omega
                            have hk0 : (0 : Int) ≤ (k : Int) := by omega
                            have hk3 : (k : Int) < 3 := by omega
                            have hkl : 7 + k < (ovl (ovl (ovl tag0 0 (x.data.toList.map loB)) 3 (titleL a.data.toList)) 7 ((y.data.toList.map upB).take k)).length := by rw [ovl_len (by rw [hcl0]; simp; omega), hcl0]; omega
                            obtain ⟨ob, hcc, hcf⟩ := HK.out.cell (7 + k) hkl
                            have hc1 := HK.out.pieceE (j := 2) (y := y) (by rw [HLE.out]; rfl)
                            have HUp := Lib.hid upper_any5
                            have HK2 : Hid (PSt w ps (ovl (ovl (ovl tag0 0 (x.data.toList.map loB)) 3 (titleL a.data.toList)) 7 ((y.data.toList.map upB).take (k + 1))) (wr.setCell ⟨w.heap.size + 1, 7 + k, none⟩ (.int .u8 ((upB y[k]).toNat : Int)))) := by
                              have h1 := HK.out.set (7 + k) (upB y[k])
                              have h2 := ovl_snoc (c := ovl (ovl tag0 0 (x.data.toList.map loB)) 3 (titleL a.data.toList)) (o := 7) (l := y.data.toList.map upB) (by rw [hcl0]; simp; omega) (k := k) (by simp; exact hlt)
                              rw [List.getElem_map, at_list y k hlt] at h2
                              show PSt _ _ _ _
                              rw [← h2]; exact h1
                            clear hkl
                            go_wp2_with (go_at_call 49; (refine (HUp.out _ _).mono ?_); rintro e w' ⟨rfl, rfl⟩)
                            go_roundw
                            case rel => exact ⟨k + 1, by omega, by go_num, HK2.out⟩
                            case measure => simp [intOf]; omega
                          case neg =>
                            obtain rfl : k = y.size := by omega
                            rw [List.take_of_length_le (by rw [hyl]; exact Nat.le_refl _)] at HK
                            cases t with
                            | nil =>
                              simp only [List.length_nil, Nat.zero_add] at hsl9 ⊢
                              have HOV : Hid (ovl (ovl (ovl tag0 0 (x.data.toList.map loB)) 3 (titleL a.data.toList)) 7 (y.data.toList.map upB) = bytT ⟨x.data.toList.map loB, (titleL a.data.toList), (y.data.toList.map upB)⟩) := ovl_bytT (by simp; omega) htl (show (y.data.toList.map upB).length ≤ 3 by rw [hyl]; exact hys.1)
                              have HBL : Hid ((bytT ⟨x.data.toList.map loB, (titleL a.data.toList), (y.data.toList.map upB)⟩).length = 10) := by show (bytT _).length = 10; rw [← HOV.out, ovl_len (by rw [ovl_len (by rw [ovl_len (by simp [tag0_len]; omega), tag0_len]; have := htl; omega), ovl_len (by simp [tag0_len]; omega), tag0_len]; have := (show (y.data.toList.map upB).length ≤ 3 by rw [hyl]; exact hys.1); omega), ovl_len (by rw [ovl_len (by simp [tag0_len]; omega), tag0_len]; have := htl; omega), ovl_len (by simp [tag0_len]; omega), tag0_len]
                              have HTT : Hid (parseT s.data.toList = some ⟨x.data.toList.map loB, (titleL a.data.toList), (y.data.toList.map upB)⟩) := by show parseT _ = _; rw [HPR.out]; rfl
                              have HTR : Hid (tagR s.data.toList = ovl (ovl (ovl tag0 0 (x.data.toList.map loB)) 3 (titleL a.data.toList)) 7 (y.data.toList.map upB) ∧ tagE s.data.toList = 0) := by
                                refine ⟨?_, ?_⟩
                                · rw [tagR, HTT.out]; exact HOV.out.symm
                                · rw [tagE, HTT.out]; rfl
                              have hcl : (ovl (ovl (ovl tag0 0 (x.data.toList.map loB)) 3 (titleL a.data.toList)) 7 (y.data.toList.map upB)).length = 10 := by rw [HOV.out]; exact HBL.out
                              generalize ovl (ovl (ovl tag0 0 (x.data.toList.map loB)) 3 (titleL a.data.toList)) 7 (y.data.toList.map upB) = cz at *
                              go_wp2_with (first
                                | (with_reducible refine ld_T rfl _ rfl (w.heap.size + 1) cz hcl rfl HK.out.t ?_)
                                | ((with_reducible refine gate_st 29 _ _ rfl ?_); refine st_T rfl _ _ rfl w.heap.size cz tag0 hcl rfl _ rfl rfl HK.out.r ?_))
                              refine bodyPost_ret (res_rowc_tmp (P := Tryd.prog) (T := 29) (T' := 29) (t := 3) rfl _ _ w.heap.size (bC cz) (0, 0) rfl (setRow_at HK.out.r) Tryd.underlying29 rfl (by rw [sizTag, bC_size, hcl])) rfl ⟨?_, setRow_below HK.out.bel (Nat.le_refl _) _⟩
                              rw [HTR.out.1, HTR.out.2]; rfl
                            | cons z t =>
                              have hn5 : (0 : Int) < ((t.length + 1 : Nat) : Int) := by omega
                              have hn6 : (0 : Int) < (t.length : Int) + 1 := by omega
                              simp only [List.length_cons] at hsl9 ⊢
                              have HTT : Hid (tagR s.data.toList = tag0 ∧ tagE s.data.toList = 14) := HBad.out (by rw [HPR.out]; rfl)
                              go_wp2_with ((with_reducible refine gate_st 29 _ _ rfl ?_); refine st_T rfl _ _ rfl w.heap.size tag0 tag0 rfl rfl _ rfl rfl HK.out.r ?_)
                              refine bodyPost_ret (res_rowc_tmp (P := Tryd.prog) (T := 29) (T' := 29) (t := 3) rfl _ _ w.heap.size (bC tag0) (0, 0) rfl (PSt.bad HK.out).2 Tryd.underlying29 rfl (by rw [sizTag, bC_size]; rfl)) rfl ⟨?_, (PSt.bad HK.out).1⟩
                              rw [HTT.out.1, HTT.out.2]; rfl
end Go.Proofs.YtnambaiafailaaaDoor
