/- Texts joined: RB. -/
import Derived.Test.YtbfefdedjcppaaaGreatDoorRA
import Derived.Test.YtbfefdedjcppaaaGreatDoorGX
/- request's fields: a tag's canonical text. -/
namespace Go.Proofs.YtbfefdedjcppaaaGreatDoor
set_option maxRecDepth 100000
set_option maxHeartbeats 8000000
open Go.RowKit
def RowIn (cs : List Value) (off : Nat) (r : List Value) : List Value := cs.take off ++ r ++ cs.drop (off + r.length)
theorem rowIn_len {cs : List Value} {off : Nat} {r : List Value} (h : off + r.length ≤ cs.length) : (RowIn cs off r).length = cs.length := by
 unfold RowIn
 simp only [List.length_append, List.length_take, List.length_drop]; omega
theorem exec_stR {P : Program} {o : Oper} {a : Act} {w : World} (T : TypeId) (x y : Operand) (ho : o.op = .store T x y) (b i : Nat) (r : List Value) (hsz : (P.info? T).map (·.size) = some r.length) (hx : a.eval x = .pointer (some ⟨b, i, none⟩)) (hy : a.eval y = .agg r.toArray) (h1 : ∀ v ∈ r, v.oneCell' = true) (cur : List Value) (T' : TypeId) (hg : w.heap[b]? = some (.cells cur.toArray T' (0, 0))) (hi : i + r.length ≤ cur.length) :
   (execOp a.eval o).run P w = .ok .skip (w.setRow b (RowIn cur i r).toArray) := by
 have hst := run_storeCells_at P b i T' r 0 cur.toArray w hg (by simpa using hi) h1
 have hrun : (storeVar T ⟨b, i, none⟩ (.agg r.toArray)).run P w = .ok () (w.setRow b (RowIn cur i r).toArray) := by
   cases hq : P.info? T with
   | none => simp [hq] at hsz
   | some inf =>
     have hs : inf.size = r.length := by simpa [hq] using hsz
     simp only [Nat.add_zero] at hst
     simp [storeVar, sizeOf, typeInfo, hq, Value.cells, hs, hst, RowIn]
 unfold execOp
 simp only [ho, hx, hy, Instr.storeAt, Instr.sureAddr, Sem.run_bind, Sem.run_pure, Result.andThen_ok, hrun]
theorem wl_stR {P : Program} {ops : Array Oper} {rest : List Oper} {o : Oper} {a : Act} {w : World} {Q : Exit → Act → World → Prop} (hgd : o.guard = none) (T : TypeId) (x y : Operand) (ho : o.op = .store T x y) (b i : Nat) (r : List Value) (hsz : (P.info? T).map (·.size) = some r.length) (hx : a.eval x = .pointer (some ⟨b, i, none⟩)) (hy : a.eval y = .agg r.toArray) (h1 : ∀ v ∈ r, v.oneCell' = true) (cur : List Value) (T' : TypeId) (hg : w.heap[b]? = some (.cells cur.toArray T' (0, 0))) (hi : i + r.length ≤ cur.length)
   (h : ∀ w', w'.heap[b]? = some (.cells (RowIn cur i r).toArray T' (0, 0)) → Turn [b] w w' → wpList P ops Q rest (a.put o.dst undef) w') : wpList P ops Q (o :: rest) a w := by
 refine wpList_plain hgd fun K hK => ?_
 have := exec_stR (P := P) (a := a) (w := w) T x y ho b i r hsz hx hy h1 cur T' hg hi
 unfold Oper.wp
 rw [this]
 exact hK _ _ (h _ (setRow_at hg) ⟨rfl, rfl, rfl, by simp, fun b _ hr => setRow_other _ _ _ _ (by simpa using hr)⟩)
def tagOk (s : List UInt8) : Bool := (parseT s).isSome && decide (textB (tagR s) = s)
theorem MX.turn {S : List Nat} {w w' : World} (h : MX w) (ht : Turn S w w') (hS : ∀ k ∈ S, 0 < k) : MX w' := by
 obtain ⟨m, hm⟩ := h
 exact ⟨m, (cell_of (ht.block _ (World.block_lt_of_cell? _ _ hm) fun hk => Nat.lt_irrefl _ (hS _ hk)) 0).trans hm⟩
def TagAt (w : World) (bt off : Nat) (cs : List Value) (T : TypeId) (s : List UInt8) : Prop := w.heap[bt]? = some (.cells (if tagOk s = true then RowIn cs off (bC (tagR s)).toList else cs).toArray T (0, 0))
theorem textS_le (m : Nat) (l : List UInt8) : (textS m l).length ≤ m := by
 unfold textS
 split
 · rename_i h
   unfold textE at h
   split at h
   · rename_i h2; exact absurd h h2
   · split at h
     · omega
     · rw [List.length_take]; omega
 · simp
theorem ftag1_any (br bf bt off b0 b1 : Nat) (cs : List Value) (T : TypeId) (l : List UInt8) (w : World) (h : FAt w br bf l 0 0)
   (h0 : BoxIs w b0 (.pointer (some ⟨bf, 0, none⟩)) 84) (h1 : BoxIs w b1 (.pointer (some ⟨bt, off, none⟩)) 124)
   (ht : w.heap[bt]? = some (.cells cs.toArray T (0, 0))) (hoff : off + 10 ≤ cs.length) (hbt : br < bt ∧ bt ≠ bf) (hb : ∀ b ∈ [b0, b1], b ≠ br ∧ b ≠ bf ∧ b ≠ bt) (hmx : MX w) (hg : 0 < br) :
   Calls Tryz.prog 96 #[.pointer (some ⟨b0, 0, none⟩), .pointer (some ⟨b1, 0, none⟩)] w
     (Reads br bf [br, bf, bt] (l.drop (textN 12 l)) (textE 12 l) (if tagOk (textS 12 l) = true then 0 else 14) (fun w' => TagAt w' bt off cs T (textS 12 l)) w) := by
 unfold BoxIs at h0 h1
 have HF := Lib.hid h
 have H0 := Lib.hid h0
 have H1 := Lib.hid h1
 have HT := Lib.hid ht
 have HB := Lib.hid hb
 have HM := Lib.hid hmx
 have HG := Lib.hid hg
 have HO := Lib.hid hoff
 have KT := Lib.hid (rtext_any (br + 1) br l 12 (by omega) w h.rd)
 have hs12 := textS_le 12 l
 have hok : Hid (tagOk (textS 12 l) = ((parseT (textS 12 l)).isSome && decide (textB (tagR (textS 12 l)) = textS 12 l))) := rfl
 obtain ⟨ce, hce⟩ : ∃ x : Nat, Hid ((if tagOk (textS 12 l) = true then (0 : Nat) else 14) = x) := ⟨_, rfl⟩
 rw [hce.out]
 have hc0 := (cell1 h0).1
 have hc1 := (cell2 h.at_).1
 clear h h0 h1 ht hb hmx hg hoff
 generalize textS 12 l = s at *
 go_enter Tryz.func96, Tryz.ntmps96
 go_upto_region 2 with (go_at_call 48; (refine KT.out.mono ?_); rintro e w1 ⟨rfl, hr1, ht1⟩)
 have HF1 : Hid (FAt w1 br bf (l.drop (textN 12 l)) (textE 12 l) 0) := ⟨hr1, HF.out.lt, (ht1.block _ (lt_heap HF.out.at_) (by have := HF.out.lt; simp; omega)).trans HF.out.at_⟩
 have hM1 : MX w1 := HM.out.turn ht1 (fun k hk => by rw [List.mem_singleton] at hk; rw [hk]; exact HG.out)
 have KP : Hid (∀ W, Below w1.heap.size w1 W → Calls Tryz.prog 97 #[.string ⟨s.toArray⟩] W fun e w' => e = .returned (.tuple #[.agg (bC (tagR s)), .int .i64 (tagE s)]) ∧ Below W.heap.size W w') := fun W hW => tagParse_any ⟨s.toArray⟩ W (by show s.toArray.size ≤ _; simp; omega) (hM1.below hW)
 have hT1 : w1.heap[bt]? = some (.cells cs.toArray T (0, 0)) := (ht1.block _ (lt_heap HT.out) (by have := HB.out; simp; omega)).trans HT.out
 clear hc0 hc1
 go_upto_region 3 with (first
   | (go_at_call 97; (refine (KP.out _ (Below.refl _ _)).mono ?_); rintro e w2 ⟨rfl, hb2⟩; have HB2 := Lib.hid hb2; have hA2 := heap_alloc_new w2 (.cells (bC tag0) 28); clear hb2)
   | ((with_reducible refine gate_st 28 _ _ rfl ?_); refine st_T rfl _ _ rfl w2.heap.size (tagR s) tag0 (tagR_len s) rfl _ rfl rfl hA2 ?_))
 have hA3 := setRow_at (cs := bC (tagR s)) hA2
 have hB3 := setRow_below (HB2.out.alloc HB2.out.size (.cells (bC tag0) 28)) (g := w2.heap.size) HB2.out.size (bC (tagR s))
 have hge : w1.heap.size ≤ w2.heap.size := HB2.out.size
 rw [show (Obj.cells #[Value.int .u8 0, .int .u8 0, .int .u8 0, .int .u8 0, .int .u8 0, .int .u8 0, .int .u8 0, .int .u8 0, .int .u8 0, .int .u8 0] 28 (0, 0)) = .cells (bC tag0) 28 (0, 0) from rfl]
 generalize (w2.alloc (.cells (bC tag0) 28)).setRow w2.heap.size (bC (tagR s)) = W3 at *
 generalize w2.heap.size = bn at *
 have HF3 := Lib.hid (HF1.out.below hB3)
 have HT3 : Hid (Turn [br, bf, bt] w W3) := (ht1.mono (fun k _ hk => by simp at hk ⊢; exact .inl hk)).trans (Turn.of_below hB3)
 have HC3 : Hid (W3.heap[bt]? = some (.cells cs.toArray T (0, 0))) := (hB3.block _ (lt_heap hT1)).trans hT1
 have HX : Hid (∀ W, Below W3.heap.size W3 W → Calls Tryz.prog 59 #[.agg (bC (tagR s))] W fun e w' => e = .returned (.string ⟨(textB (tagR s)).toArray⟩) ∧ Below W.heap.size W w') := fun W hW => tagText_any (tagR s) W (tagR_len s) ((hM1.below hB3).below hW)
 have H13 : Hid (W3.heap[b1]? = some (.cells #[.pointer (some ⟨bt, off, none⟩)] 124 (0, 0))) := (hB3.block _ (by have := lt_heap H1.out; have := ht1.size; omega)).trans ((ht1.block _ (lt_heap H1.out) (by have := (HB.out b1 (by simp)).1; simpa using this)).trans H1.out)
 have HN : Hid (tagE s = if (parseT s).isSome then 0 else 14) := rfl
 have HA3 := Lib.hid hA3
 clear hA2 HB2 KP hM1 hT1 HM KT HF hr1 ht1 HF1 hB3 hA3
 by_cases hp : (parseT s).isSome = true
 · rw [if_pos hp] at HN
   rw [hp, Bool.true_and] at hok
   rw [HN.out]
   by_cases hq : textB (tagR s) = s
   · have hne : (textB (tagR s) == s) = true := by rw [hq]; exact beq_self_eq_true s
     rw [hq, decide_eq_true rfl] at hok
     rw [hok.out, if_pos rfl] at hce
     obtain rfl : 0 = ce := hce.out
     clear hp hq
     generalize textB (tagR s) = tx at *
     go_upto_region 5 with (first
       | (with_reducible refine ld_T rfl _ rfl bn (tagR s) (tagR_len s) rfl HA3.out ?_)
       | (go_at_call 59; (refine (HX.out _ (Below.refl _ _)).mono ?_); rintro e w4 ⟨rfl, hb4⟩; have HB4 := Lib.hid hb4; clear hb4))
     have hc14 := (cell1 ((HB4.out.block _ (lt_heap H13.out)).trans H13.out)).1
     have hA4 := (HB4.out.block _ (lt_heap HA3.out)).trans HA3.out
     have hC4 := (HB4.out.block _ (lt_heap HC3.out)).trans HC3.out
     go_wp2_with (first
       | (with_reducible refine ld_T rfl _ rfl bn (tagR s) (tagR_len s) rfl hA4 ?_)
       | ((with_reducible refine gate_st 28 _ _ rfl ?_); refine wl_stR rfl _ _ _ rfl bt off (bC (tagR s)).toList (by rw [sizTag]; simp [bC, tagR_len]) rfl (by rw [Array.toArray_toList]; rfl) (fun v hv => (Array.all_eq_true_iff_forall_mem.1 (bC_one (tagR s))) v (by simpa using hv)) cs T hC4 (by simp [bC, tagR_len]; exact HO.out) ?_; intro w5 hw5 ht5; have HW5 := Lib.hid hw5; have HT5 := Lib.hid ht5; clear hw5 ht5))
     go_ret
     refine ⟨rfl, ?_, ?_, ?_⟩
     · exact (HF3.out.below HB4.out).turn HT5.out (fun k hk => by rw [List.mem_singleton] at hk; rw [hk]; exact hbt)
     · exact (HT3.out.trans (Turn.of_below HB4.out)).trans (HT5.out.mono (fun k _ hk => by rw [List.mem_singleton] at hk; rw [hk]; simp))
     · unfold TagAt
       rw [hok.out, if_pos rfl]
       exact HW5.out
   · have hq' : decide (textB (tagR s) = s) = false := decide_eq_false hq
     have hne : (textB (tagR s) == s) = false := by simpa using hq
     rw [hq'] at hok
     rw [hok.out, if_neg (by decide)] at hce
     obtain rfl : 14 = ce := hce.out
     clear hp hq hq'
     generalize textB (tagR s) = tx at *
     go_upto_region 4 with (first
       | (with_reducible refine ld_T rfl _ rfl bn (tagR s) (tagR_len s) rfl HA3.out ?_)
       | (go_at_call 59; (refine (HX.out _ (Below.refl _ _)).mono ?_); rintro e w4 ⟨rfl, hb4⟩; have HB4 := Lib.hid hb4; clear hb4))
     go_wp2_with fail
     go_ret
     refine ⟨rfl, HF3.out.below HB4.out, HT3.out.trans (Turn.of_below HB4.out), ?_⟩
     unfold TagAt
     rw [hok.out, if_neg (by decide)]
     exact (HB4.out.block _ (lt_heap HC3.out)).trans HC3.out
 · have hp' : (parseT s).isSome = false := by simpa using hp
   rw [if_neg hp] at HN
   rw [hp', Bool.false_and] at hok
   rw [hok.out, if_neg (by decide)] at hce
   obtain rfl : 14 = ce := hce.out
   rw [HN.out]
   clear HX HA3 hp hp'
   go_wp2_with fail
   go_ret
   refine ⟨rfl, HF3.out, HT3.out, ?_⟩
   unfold TagAt
   rw [hok.out, if_neg (by decide)]
   exact HC3.out
end Go.Proofs.YtbfefdedjcppaaaGreatDoor

/- request's fields: a tag; the closures of a name and of a text. -/
namespace Go.Proofs.YtbfefdedjcppaaaGreatDoor
set_option maxRecDepth 100000
set_option maxHeartbeats 4000000
open Go.RowKit
theorem rowIn_cell {cs r : List Value} {off i : Nat} (h : off + r.length ≤ cs.length) (hi : i < r.length) : (RowIn cs off r)[off + i]? = r[i]? := by
 unfold RowIn
 have hl : (cs.take off).length = off := by rw [List.length_take]; omega
 rw [List.append_assoc, List.getElem?_append_right (by omega), hl, Nat.add_sub_cancel_left, List.getElem?_append_left hi]
theorem ftag_any (br bf bt off : Nat) (cs : List Value) (T : TypeId) (l : List UInt8) (w : World) (h : FAt w br bf l 0 0)
   (ht : w.heap[bt]? = some (.cells cs.toArray T (0, 0))) (hoff : off + 10 ≤ cs.length) (hbt : br < bt ∧ bt ≠ bf) (hmx : MX w) (hg : 0 < br) :
   Calls Tryz.prog 49 #[.pointer (some ⟨bf, 0, none⟩), .pointer (some ⟨bt, off, none⟩)] w
     (Took br bf [br, bf, bt] (l.drop (textN 12 l)) (textE 12 l) (if textE 12 l = 0 then (if tagOk (textS 12 l) = true then 0 else 14) else textE 12 l) (fun w' => TagAt w' bt off cs T (textS 12 l)) w) := by
 obtain ⟨h0, h1, hb, hz⟩ := two_boxes w (.pointer (some ⟨bf, 0, none⟩)) (.pointer (some ⟨bt, off, none⟩)) 84 124
 have hbf := lt_heap h.at_
 have hbts := lt_heap ht
 have hlt := h.lt
 have hF := h.below hb
 have KT := Lib.hid (ftake_any 96 #[.pointer (some ⟨w.heap.size, 0, none⟩), .pointer (some ⟨w.heap.size + 1, 0, none⟩)] (enters_of Tryz.func96 (by kernel_rfl) rfl) br bf l _ _ _ [br, bf, bt] _ _ hF (by simp)
   (fun W v hW => by unfold TagAt at hW ⊢; rw [heap_setCell_other _ hbt.2]; exact hW)
   (ftag1_any br bf bt off _ _ cs T l _ hF h0 h1 ((hb.block bt hbts).trans ht) hoff hbt (fun b hm => by
     simp only [List.mem_cons, List.not_mem_nil, or_false] at hm
     rcases hm with rfl | rfl <;> refine ⟨?_, ?_, ?_⟩ <;> omega) (hmx.below hb) hg))
 have HB := Lib.hid hb
 have hc0 := (cell1 h0).1
 clear h0 h1 hb hF h ht hbf hbts hlt hmx
 generalize (if tagOk (textS 12 l) = true then 0 else 14) = ce at *
 obtain ⟨ef', hef⟩ : ∃ x, Hid ((if textE 12 l = 0 then ce else textE 12 l) = x) := ⟨_, rfl⟩
 rw [hef.out] at KT ⊢
 go_enter Tryz.func49, Tryz.ntmps49
 go_wp2_with (go_at_call 26; (refine KT.out.mono ?_); rintro e w1 ⟨rfl, hf1, ht1, hp1⟩)
 refine bodyPost_end (results_none rfl _ _ _) rfl ?_
 exact ⟨rfl, hf1, turn_below HB.out ht1, hp1⟩
theorem ftag_bad (br bf : Nat) (p : Option Addr) (l : List UInt8) (er ef : Nat) (w : World) (h : FAt w br bf l er ef) (he : ef ≠ 0) :
   Calls Tryz.prog 49 #[.pointer (some ⟨bf, 0, none⟩), .pointer p] w fun e w' => e = .returned (.tuple #[]) ∧ Below w.heap.size w w' := by
 obtain ⟨h0, h1, hb, hz⟩ := two_boxes w (.pointer (some ⟨bf, 0, none⟩)) (.pointer p) 84 124
 have hF := h.below hb
 have KT := Lib.hid (fun v => ftake_bad v br bf l er ef _ hF he)
 have HB := Lib.hid hb
 have hc0 := (cell1 h0).1
 clear h0 h1 hb hF h he
 go_enter Tryz.func49, Tryz.ntmps49
 go_wp2_with (go_at_call 26; (refine (KT.out _).mono ?_); rintro e w1 ⟨rfl, rfl⟩)
 refine bodyPost_end (results_none rfl _ _ _) rfl ?_
 exact ⟨rfl, HB.out⟩
end Go.Proofs.YtbfefdedjcppaaaGreatDoor

/- request's order: the closures of a name and of a text. -/
namespace Go.Proofs.YtbfefdedjcppaaaGreatDoor
set_option maxRecDepth 100000
set_option maxHeartbeats 8000000
open Go.RowKit
theorem ag93 (w : World) : (isAgg 93).run Tryz.prog w = .ok false w := by simp [isAgg, run_underlying Tryz.underlying93]
theorem siz9n : (Tryz.prog.info? 9).map (·.size) = some 1 := by kernel_rfl
def errN (s : List UInt8) : Nat := if isName s then 0 else 15
theorem errN_eq (s : List UInt8) : ((errN s : Nat) : Int) = parseE s := by unfold errN parseE; split <;> rfl
theorem oname1_any (br bf bt off b0 b1 : Nat) (cs : List Value) (T : TypeId) (l : List UInt8) (w : World) (h : FAt w br bf l 0 0)
   (h0 : BoxIs w b0 (.pointer (some ⟨bf, 0, none⟩)) 84) (h1 : BoxIs w b1 (.pointer (some ⟨bt, off, none⟩)) 93)
   (ht : w.heap[bt]? = some (.cells cs.toArray T (0, 0))) (hoff : off + 30 ≤ cs.length) (hbt : br < bt ∧ bt ≠ bf) (hb : ∀ b ∈ [b0, b1], b ≠ br ∧ b ≠ bf ∧ b ≠ bt) :
   Calls Tryz.prog 73 #[.pointer (some ⟨b0, 0, none⟩), .pointer (some ⟨b1, 0, none⟩)] w
     (Reads br bf [br, bf, bt] (l.drop (textN 12 l)) (textE 12 l) (errN (textS 12 l)) (fun w' => w'.heap[bt]? = some (.cells (RowIn cs (off + 7) (bC (parseN (textS 12 l))).toList).toArray T (0, 0))) w) := by
 unfold BoxIs at h0 h1
 have HF := Lib.hid h
 have H0 := Lib.hid h0
 have H1 := Lib.hid h1
 have HT := Lib.hid ht
 have HB := Lib.hid hb
 have HO := Lib.hid hoff
 have KT := Lib.hid (rtext_any (br + 1) br l 12 (by omega) w h.rd)
 have hs12 := textS_le 12 l
 have hc0 := (cell1 h0).1
 have hc1 := (cell2 h.at_).1
 clear h h0 h1 ht hb hoff
 generalize textS 12 l = s at *
 have KP : Hid (∀ W, Calls Tryz.prog 74 #[.string ⟨s.toArray⟩] W fun e w' => e = .returned (.tuple #[.agg (bC (parseN s)), .int .i64 (errN s : Nat)]) ∧ Below W.heap.size W w') := fun W => by
   have := parse_any ⟨s.toArray⟩ W (by show s.toArray.size ≤ _; simp [maxLen]; omega)
   rw [errN_eq]
   exact this
 go_enter Tryz.func73, Tryz.ntmps73
 go_upto_region 2 with (first
   | (go_at_call 48; (refine KT.out.mono ?_); rintro e w1 ⟨rfl, hr1, ht1⟩)
   | (go_at_call 74; (refine (KP.out _).mono ?_); rintro e w2 ⟨rfl, hb2⟩; have HB2 := Lib.hid hb2; have hA2 := heap_alloc_new w2 (.cells (bC z12) 24); clear hb2)
   | ((with_reducible refine gate_st 24 _ _ rfl ?_); (refine st23 rfl _ _ rfl w2.heap.size (parseN s) rfl rfl (parseN_length _) z12 hA2 rfl ?_)))
 have HF1 : Hid (FAt w1 br bf (l.drop (textN 12 l)) (textE 12 l) 0) := ⟨hr1, HF.out.lt, (ht1.block _ (lt_heap HF.out.at_) (by have := HF.out.lt; simp; omega)).trans HF.out.at_⟩
 have hT1 : w1.heap[bt]? = some (.cells cs.toArray T (0, 0)) := (ht1.block _ (lt_heap HT.out) (by have := HB.out; simp; omega)).trans HT.out
 clear hc0 hc1
 have hA3 := setRow_at (cs := bC (parseN s)) hA2
 have hB3 := setRow_below (HB2.out.alloc HB2.out.size (.cells (bC z12) 24)) (g := w2.heap.size) HB2.out.size (bC (parseN s))
 rw [show (Obj.cells #[Value.int .u8 0, .int .u8 0, .int .u8 0, .int .u8 0, .int .u8 0, .int .u8 0, .int .u8 0, .int .u8 0, .int .u8 0, .int .u8 0, .int .u8 0, .int .u8 0] 24 (0, 0)) = .cells (bC z12) 24 (0, 0) from rfl]
 generalize (w2.alloc (.cells (bC z12) 24)).setRow w2.heap.size (bC (parseN s)) = W3 at *
 generalize w2.heap.size = bn at *
 have HF3 := Lib.hid (HF1.out.below hB3)
 have HT3 : Hid (Turn [br, bf, bt] w W3) := (ht1.mono (fun k _ hk => by simp at hk ⊢; exact .inl hk)).trans (Turn.of_below hB3)
 have hC3 : W3.heap[bt]? = some (.cells cs.toArray T (0, 0)) := (hB3.block _ (lt_heap hT1)).trans hT1
 have h13 : W3.heap[b1]? = some (.cells #[.pointer (some ⟨bt, off, none⟩)] 93 (0, 0)) := (hB3.block _ (by have := lt_heap H1.out; have := ht1.size; omega)).trans ((ht1.block _ (lt_heap H1.out) (by have := (HB.out b1 (by simp)).1; simpa using this)).trans H1.out)
 have hc13 := (cell1 h13).1
 clear hA2 HB2 KP hT1 KT HF hr1 ht1 HF1 hB3
 go_wp2_with (first
   | (with_reducible refine ld23 rfl _ rfl bn rfl (parseN s) (parseN_length _) (0, 0) hA3 ?_)
   | ((with_reducible refine gate_st 24 _ _ rfl ?_); refine wl_stR rfl _ _ _ rfl bt (off + 7) (bC (parseN s)).toList (by rw [info23]; simp [bC, parseN_length]) rfl (by rw [Array.toArray_toList]; rfl) (fun v hv => (Array.all_eq_true_iff_forall_mem.1 (bC_one (parseN s))) v (by simpa using hv)) cs T hC3 (by simp [bC, parseN_length]; have := HO.out; omega) ?_; intro w5 hw5 ht5; have HW5 := Lib.hid hw5; have HT5 := Lib.hid ht5; clear hw5 ht5))
 go_ret
 refine ⟨rfl, HF3.out.turn HT5.out (fun k hk => by rw [List.mem_singleton] at hk; rw [hk]; exact hbt), HT3.out.trans (HT5.out.mono (fun k _ hk => by rw [List.mem_singleton] at hk; rw [hk]; simp)), HW5.out⟩
end Go.Proofs.YtbfefdedjcppaaaGreatDoor

/- request's order: the closure of a text. -/
namespace Go.Proofs.YtbfefdedjcppaaaGreatDoor
set_option maxRecDepth 100000
set_option maxHeartbeats 8000000
open Go.RowKit
theorem exec_fO {o : Oper} {a : Act} {w : World} (x : Operand) (n k : Nat) (hk : (n = 0 ∧ k = 0) ∨ (n = 1 ∧ k = 1) ∨ (n = 2 ∧ k = 2) ∨ (n = 8 ∧ k = 19) ∨ (n = 9 ∧ k = 29)) (ho : o.op = .fieldAddr 30 x n) (b f : Nat) (hx : a.eval x = .pointer (some ⟨b, f, none⟩)) : (execOp a.eval o).run Tryz.prog w = .ok (.value (.pointer (some ⟨b, f + k, none⟩))) w := by
 rcases hk with ⟨rfl, rfl⟩ | ⟨rfl, rfl⟩ | ⟨rfl, rfl⟩ | ⟨rfl, rfl⟩ | ⟨rfl, rfl⟩ <;>
 · unfold execOp
   simp only [ho, hx]
   simp [go_sem]
theorem otext1_any (br bf bt off b0 b1 : Nat) (cs : List Value) (T : TypeId) (l : List UInt8) (w : World) (h : FAt w br bf l 0 0)
   (h0 : BoxIs w b0 (.pointer (some ⟨bf, 0, none⟩)) 84) (h1 : BoxIs w b1 (.pointer (some ⟨bt, off, none⟩)) 93)
   (ht : w.heap[bt]? = some (.cells cs.toArray T (0, 0))) (hoff : off + 30 ≤ cs.length) (hbt : br < bt ∧ bt ≠ bf) (hb : ∀ b ∈ [b0, b1], b ≠ br ∧ b ≠ bf ∧ b ≠ bt) :
   Calls Tryz.prog 75 #[.pointer (some ⟨b0, 0, none⟩), .pointer (some ⟨b1, 0, none⟩)] w
     (Reads br bf [br, bf, bt] (l.drop (textN 1200 l)) (textE 1200 l) 0 (fun w' => w'.heap[bt]? = some (.cells (RowIn cs (off + 29) [.string ⟨(textS 1200 l).toArray⟩]).toArray T (0, 0))) w) := by
 unfold BoxIs at h0 h1
 have HF := Lib.hid h
 have H0 := Lib.hid h0
 have H1 := Lib.hid h1
 have HT := Lib.hid ht
 have HB := Lib.hid hb
 have HO := Lib.hid hoff
 have KB : Hid (∀ W, FAt W br bf l 0 0 → Calls Tryz.prog 48 #[.pointer (some ⟨br, 0, none⟩), .int .i64 1200] W (ReadP (br + 1) br l (textN 1200 l) (textE 1200 l) (.string ⟨(textS 1200 l).toArray⟩) W)) := fun W hW => rtext_any (br + 1) br l 1200 (by omega) W hW.rd
 clear h h0 h1 ht hb hoff
 generalize textS 1200 l = v at *
 go_enter Tryz.func75, Tryz.ntmps75
 go_upto_region 1 with fail
 have hS0 : ∀ W : World, W.heap = w.heap → (W.heap[b0]? = w.heap[b0]? ∧ W.heap[b1]? = w.heap[b1]? ∧ W.heap[bf]? = w.heap[bf]?) := fun W e => by rw [e]; exact ⟨rfl, rfl, rfl⟩
 refine wp_region_held_drew (S := fun W => W.heap[b0]? = w.heap[b0]? ∧ W.heap[b1]? = w.heap[b1]? ∧ W.heap[bf]? = w.heap[bf]?) (by kernel_rfl) (hS0 _ rfl) (fun hH => ?_)
 show wpAnyH Tryz.prog Region.Mode.any _ _ _ 9 #[false, false, false, false, false, false, false, false, false] _ _
 refine takeR (i := 0) (v := .pointer (some ⟨bt, off, none⟩)) 3 rfl rfl (by kernel_rfl) (by kernel_rfl) (by kernel_rfl) (fun _ _ _ h => h) (Or.inl ⟨rfl, fun w' hS => exec_ld1G 93 ag93 _ rfl b1 0 _ rfl (cell1 (hS.2.1.trans H1.out)).1⟩) hH ?_
 simp only [Act.put, wrT]
 refine takeR (i := 1) (v := .pointer (some ⟨bf, 0, none⟩)) 4 rfl rfl (by kernel_rfl) (by kernel_rfl) (by kernel_rfl) (fun _ _ _ h => h) (Or.inl ⟨rfl, fun w' hS => exec_ld1G 84 ag84 _ rfl b0 0 _ rfl (cell1 (hS.1.trans H0.out)).1⟩) hH ?_
 simp only [Act.put, wrT]
 refine takeR (i := 2) (v := .pointer (some ⟨bf, 0, none⟩)) 5 rfl rfl (by kernel_rfl) (by kernel_rfl) (by kernel_rfl) (fun _ _ _ h => h) (Or.inl ⟨rfl, fun w' hS => exec_nc (.tmp 4) rfl _ rfl⟩) hH ?_
 simp only [Act.put, wrT]
 refine takeR (i := 3) (v := .pointer (some ⟨bf, 0, none⟩)) 6 rfl rfl (by kernel_rfl) (by kernel_rfl) (by kernel_rfl) (fun _ _ _ h => h) (Or.inl ⟨rfl, fun w' hS => exec_f0 (.tmp 5) rfl bf rfl⟩) hH ?_
 simp only [Act.put, wrT]
 refine takeR (i := 4) (v := .pointer (some ⟨br, 0, none⟩)) 7 rfl rfl (by kernel_rfl) (by kernel_rfl) (by kernel_rfl) (fun _ _ _ h => h) (Or.inl ⟨rfl, fun w' hS => exec_ld1G 85 ag85 _ rfl bf 0 _ rfl (cell2 (hS.2.2.trans HF.out.at_)).1⟩) hH ?_
 simp only [Act.put, wrT]
 have HFd : Hid (FAt w.drew br bf l 0 0) := HF.out.below ⟨rfl, rfl, rfl, Nat.le_refl _, fun _ _ => rfl⟩
 refine oneH 5 (by kernel_rfl) (wpOp_call rfl rfl (exec_calls rfl (enters_of Tryz.func48 (by kernel_rfl) rfl) (vs := #[.pointer (some ⟨br, 0, none⟩), .int .i64 1200]) (by simp [Act.eval]) w.drew) (KB.out w.drew HFd.out) (fun e w1 hR => ?_))
 obtain ⟨rfl, hr1, ht1⟩ := hR
 have hk1 : ∀ k, k < w.heap.size → k ≠ br → w1.heap[k]? = w.heap[k]? := fun k hk hne => ht1.block k hk (by simpa using hne)
 have hbf := HF.out.lt
 have hS1 : w1.heap[b0]? = w.heap[b0]? ∧ w1.heap[b1]? = w.heap[b1]? ∧ w1.heap[bf]? = w.heap[bf]? := ⟨hk1 _ (lt_heap H0.out) (HB.out b0 (by simp)).1, hk1 _ (lt_heap H1.out) (HB.out b1 (by simp)).1, hk1 _ (lt_heap HF.out.at_) (by omega)⟩
 refine ⟨_, rfl, hS1, ?_⟩
 simp only [Act.put, rdT, wrT]
 refine takeR (i := 6) (v := .pointer (some ⟨bt, off, none⟩)) 9 rfl rfl (by kernel_rfl) (by kernel_rfl) (by kernel_rfl) (fun _ _ _ h => h) (Or.inl ⟨rfl, fun w' hS => exec_nc (.tmp 3) rfl _ rfl⟩) hS1 ?_
 simp only [Act.put, wrT]
 refine takeR (i := 7) (v := .pointer (some ⟨bt, off + 29, none⟩)) 10 rfl rfl (by kernel_rfl) (by kernel_rfl) (by kernel_rfl) (fun _ _ _ h => h) (Or.inl ⟨rfl, fun w' hS => exec_fO (.tmp 9) 9 29 (by simp) rfl bt off rfl⟩) hS1 ?_
 simp only [Act.put, wrT]
 have HT1 : Hid (w1.heap[bt]? = some (.cells cs.toArray T (0, 0))) := (hk1 _ (lt_heap HT.out) (by omega)).trans HT.out
 refine oneH 8 (by kernel_rfl) (wpOp_skip rfl rfl (exec_st1G 9 siz9n (.tmp 10) (.tmp 8) rfl bt (off + 29) (.string ⟨v.toArray⟩) rfl rfl rfl cs T HT1.out (by have := HO.out; omega)) ?_)
 have hbo : ∀ b ∈ [b0, b1], b ≠ bt := fun b hb => (HB.out b hb).2.2
 have hk2 : ∀ k, k < w.heap.size → k ≠ br → k ≠ bt → (w1.setRow bt (cs.take (off + 29) ++ [Value.string ⟨v.toArray⟩] ++ cs.drop (off + 29 + 1)).toArray).heap[k]? = w.heap[k]? := fun k hk hne hnt => by
   rw [setRow_other _ _ _ _ hnt]; exact hk1 k hk hne
 have hS2 : (w1.setRow bt (cs.take (off + 29) ++ [Value.string ⟨v.toArray⟩] ++ cs.drop (off + 29 + 1)).toArray).heap[b0]? = w.heap[b0]? ∧ (w1.setRow bt (cs.take (off + 29) ++ [Value.string ⟨v.toArray⟩] ++ cs.drop (off + 29 + 1)).toArray).heap[b1]? = w.heap[b1]? ∧ (w1.setRow bt (cs.take (off + 29) ++ [Value.string ⟨v.toArray⟩] ++ cs.drop (off + 29 + 1)).toArray).heap[bf]? = w.heap[bf]? :=
   ⟨hk2 _ (lt_heap H0.out) (HB.out b0 (by simp)).1 (hbo b0 (by simp)), hk2 _ (lt_heap H1.out) (HB.out b1 (by simp)).1 (hbo b1 (by simp)), hk2 _ (lt_heap HF.out.at_) (by omega) (Ne.symm hbt.2)⟩
 refine ⟨hS2, ?_⟩
 refine wpAnyH_done (by kernel_rfl) ?_ _
 simp only [Act.put, rdT, wrT]
 have HN2 : Hid ((w1.setRow bt (cs.take (off + 29) ++ [Value.string ⟨v.toArray⟩] ++ cs.drop (off + 29 + 1)).toArray).heap[bt]? = some (.cells (RowIn cs (off + 29) [.string ⟨v.toArray⟩]).toArray T (0, 0))) := setRow_at HT1.out
 have HTw : Hid (Turn [br, bf, bt] w (w1.setRow bt (cs.take (off + 29) ++ [Value.string ⟨v.toArray⟩] ++ cs.drop (off + 29 + 1)).toArray)) := ⟨ht1.os, ht1.tape, ht1.output, by show w.heap.size ≤ _; have := ht1.size; simp; exact this, fun k hk hn => by
   simp only [List.mem_cons, List.not_mem_nil, or_false, not_or] at hn
   exact hk2 k hk hn.1 hn.2.2⟩
 have HF2 : Hid (FAt (w1.setRow bt (cs.take (off + 29) ++ [Value.string ⟨v.toArray⟩] ++ cs.drop (off + 29 + 1)).toArray) br bf (l.drop (textN 1200 l)) (textE 1200 l) 0) :=
   ⟨hr1.below (setRow_below (Below.refl _ _) (by omega) _), HF.out.lt, hS2.2.2.trans HF.out.at_⟩
 clear hk2 hS2 hS1 hk1 hS0 hr1 ht1 HT1 KB HFd hH H0 H1 HT HB hbo
 generalize (w1.setRow bt (cs.take (off + 29) ++ [Value.string ⟨v.toArray⟩] ++ cs.drop (off + 29 + 1)).toArray) = W2 at *
 go_wp2_with fail
 go_ret
 exact ⟨rfl, HF2.out, HTw.out, HN2.out⟩
end Go.Proofs.YtbfefdedjcppaaaGreatDoor

/- request's fields: a state, and what each field makes of it; numbers, Uses. -/
namespace Go.Proofs.YtbfefdedjcppaaaGreatDoor
open Go.RowKit
structure FS where
 cs : List Value
 l : List UInt8
 er : Nat
 ef : Nat
structure StF (w : World) (br bf bt : Nat) (T : TypeId) (x : FS) : Prop where
 fa : FAt w br bf x.l x.er x.ef
 at_ : w.heap[bt]? = some (.cells x.cs.toArray T (0, 0))
 ok : x.ef = 0 → x.er = 0
theorem StF.below {w w' : World} {br bf bt : Nat} {T : TypeId} {x : FS} (h : StF w br bf bt T x) (hb : Below w.heap.size w w') : StF w' br bf bt T x :=
 ⟨h.fa.below hb, (hb.block _ (lt_heap h.at_)).trans h.at_, h.ok⟩
theorem StF.turn {w w' : World} {br bf bt : Nat} {T : TypeId} {x : FS} {S : List Nat} (h : StF w br bf bt T x) (ht : Turn S w w') (hS : ∀ k ∈ S, br < k ∧ k ≠ bf ∧ k ≠ bt) : StF w' br bf bt T x :=
 ⟨h.fa.turn ht (fun k hk => ⟨(hS k hk).1, (hS k hk).2.1⟩), (ht.block _ (lt_heap h.at_) fun hm => (hS _ hm).2.2 rfl).trans h.at_, h.ok⟩
def sNum (off lo hi ee : Nat) (x : FS) : FS := if x.ef = 0 then ⟨RowIn x.cs off [.int .i64 (byteV x.l : Nat)], x.l.drop (byteK x.l), byteE x.l, if byteE x.l = 0 then (if byteV x.l < lo ∨ hi < byteV x.l then ee else 0) else byteE x.l⟩ else x
def sTag (off : Nat) (x : FS) : FS := if x.ef = 0 then ⟨if tagOk (textS 12 x.l) = true then RowIn x.cs off (bC (tagR (textS 12 x.l))).toList else x.cs, x.l.drop (textN 12 x.l), textE 12 x.l, if textE 12 x.l = 0 then (if tagOk (textS 12 x.l) = true then 0 else 14) else textE 12 x.l⟩ else x
def sName (off : Nat) (x : FS) : FS := if x.ef = 0 then ⟨RowIn x.cs off (bC (parseN (textS 12 x.l))).toList, x.l.drop (textN 12 x.l), textE 12 x.l, if textE 12 x.l = 0 then errN (textS 12 x.l) else textE 12 x.l⟩ else x
def sText (off : Nat) (x : FS) : FS := if x.ef = 0 then ⟨RowIn x.cs off [.string ⟨(textS 1200 x.l).toArray⟩], x.l.drop (textN 1200 x.l), textE 1200 x.l, textE 1200 x.l⟩ else x
def Stepped (br bf bt : Nat) (T : TypeId) (y : FS) (w : World) (e : Ending) (w' : World) : Prop := e = .returned (.tuple #[]) ∧ StF w' br bf bt T y ∧ Turn [br, bf, bt] w w'
theorem snum_any (br bf bt off lo hi ee : Nat) (T : TypeId) (x : FS) (w : World) (h : StF w br bf bt T x) (hoff : off + 1 ≤ x.cs.length) (hbt : br < bt ∧ bt ≠ bf) :
   Calls Tryz.prog 23 #[.pointer (some ⟨bf, 0, none⟩), .pointer (some ⟨bt, off, none⟩), .int .i64 (lo : Int), .int .i64 (hi : Int), .int .i64 (ee : Int)] w (Stepped br bf bt T (sNum off lo hi ee x) w) := by
 unfold sNum
 by_cases he : x.ef = 0
 · rw [if_pos he]
   have hf := h.fa
   rw [he, h.ok he] at hf
   refine (fnumber_any br bf bt off lo hi ee x.cs T x.l w hf h.at_ hoff hbt).mono fun e w' ⟨h1, h2, h3, h4⟩ => ⟨h1, ⟨h2, h4, fun h0 => ?_⟩, h3⟩
   simp only at h0
   split at h0 <;> assumption
 · rw [if_neg he]
   exact (fnumber_bad br bf (some ⟨bt, off, none⟩) lo hi ee x.l x.er x.ef w h.fa he).mono fun e w' ⟨h1, h2⟩ => ⟨h1, h.below h2, Turn.of_below h2⟩
theorem stag_any (br bf bt off : Nat) (T : TypeId) (x : FS) (w : World) (h : StF w br bf bt T x) (hoff : off + 10 ≤ x.cs.length) (hbt : br < bt ∧ bt ≠ bf) (hmx : MX w) (hg : 0 < br) :
   Calls Tryz.prog 49 #[.pointer (some ⟨bf, 0, none⟩), .pointer (some ⟨bt, off, none⟩)] w (Stepped br bf bt T (sTag off x) w) := by
 unfold sTag
 by_cases he : x.ef = 0
 · rw [if_pos he]
   have hf := h.fa
   rw [he, h.ok he] at hf
   refine (ftag_any br bf bt off x.cs T x.l w hf h.at_ hoff hbt hmx hg).mono fun e w' ⟨h1, h2, h3, h4⟩ => ⟨h1, ⟨h2, h4, fun h0 => ?_⟩, h3⟩
   simp only at h0
   split at h0 <;> assumption
 · rw [if_neg he]
   exact (ftag_bad br bf (some ⟨bt, off, none⟩) x.l x.er x.ef w h.fa he).mono fun e w' ⟨h1, h2⟩ => ⟨h1, h.below h2, Turn.of_below h2⟩
theorem sname_any (br bf bt off b0 b1 : Nat) (T : TypeId) (x : FS) (w : World) (h : StF w br bf bt T x) (h0 : BoxIs w b0 (.pointer (some ⟨bf, 0, none⟩)) 84) (h1 : BoxIs w b1 (.pointer (some ⟨bt, off, none⟩)) 93) (hoff : off + 30 ≤ x.cs.length) (hbt : br < bt ∧ bt ≠ bf) (hb : ∀ b ∈ [b0, b1], b ≠ br ∧ b ≠ bf ∧ b ≠ bt) :
   Calls Tryz.prog 26 #[.pointer (some ⟨bf, 0, none⟩), .func (.func 73) #[] #[.pointer (some ⟨b0, 0, none⟩), .pointer (some ⟨b1, 0, none⟩)]] w (Stepped br bf bt T (sName (off + 7) x) w) := by
 unfold sName
 by_cases he : x.ef = 0
 · rw [if_pos he]
   have hf := h.fa
   rw [he, h.ok he] at hf
   refine (ftake_any 73 #[.pointer (some ⟨b0, 0, none⟩), .pointer (some ⟨b1, 0, none⟩)] (enters_of Tryz.func73 (by kernel_rfl) rfl) br bf x.l _ _ _ [br, bf, bt] _ w hf (by simp)
     (fun W v hW => by rw [heap_setCell_other _ hbt.2]; exact hW) (oname1_any br bf bt off b0 b1 x.cs T x.l w hf h0 h1 h.at_ hoff hbt hb)).mono fun e w' ⟨h1, h2, h3, h4⟩ => ⟨h1, ⟨h2, h4, fun h0 => ?_⟩, h3⟩
   simp only at h0
   split at h0 <;> assumption
 · rw [if_neg he]
   exact (ftake_bad _ br bf x.l x.er x.ef w h.fa he).mono fun e w' ⟨h1, h2⟩ => by subst h2; exact ⟨h1, h, Turn.refl _ _⟩
theorem stext_any (br bf bt off b0 b1 : Nat) (T : TypeId) (x : FS) (w : World) (h : StF w br bf bt T x) (h0 : BoxIs w b0 (.pointer (some ⟨bf, 0, none⟩)) 84) (h1 : BoxIs w b1 (.pointer (some ⟨bt, off, none⟩)) 93) (hoff : off + 30 ≤ x.cs.length) (hbt : br < bt ∧ bt ≠ bf) (hb : ∀ b ∈ [b0, b1], b ≠ br ∧ b ≠ bf ∧ b ≠ bt) :
   Calls Tryz.prog 26 #[.pointer (some ⟨bf, 0, none⟩), .func (.func 75) #[] #[.pointer (some ⟨b0, 0, none⟩), .pointer (some ⟨b1, 0, none⟩)]] w (Stepped br bf bt T (sText (off + 29) x) w) := by
 unfold sText
 by_cases he : x.ef = 0
 · rw [if_pos he]
   have hf := h.fa
   rw [he, h.ok he] at hf
   refine (ftake_any 75 #[.pointer (some ⟨b0, 0, none⟩), .pointer (some ⟨b1, 0, none⟩)] (enters_of Tryz.func75 (by kernel_rfl) rfl) br bf x.l _ _ _ [br, bf, bt] _ w hf (by simp)
     (fun W v hW => by rw [heap_setCell_other _ hbt.2]; exact hW) (otext1_any br bf bt off b0 b1 x.cs T x.l w hf h0 h1 h.at_ hoff hbt hb)).mono fun e w' ⟨h1, h2, h3, h4⟩ => ⟨h1, ⟨?_, h4, fun h0 => h0⟩, h3⟩
   rwa [show (if textE 1200 x.l = 0 then 0 else textE 1200 x.l) = textE 1200 x.l by split <;> omega] at h2
 · rw [if_neg he]
   exact (ftake_bad _ br bf x.l x.er x.ef w h.fa he).mono fun e w' ⟨h1, h2⟩ => by subst h2; exact ⟨h1, h, Turn.refl _ _⟩
end Go.Proofs.YtbfefdedjcppaaaGreatDoor

/- request: numbers; ops.Uses. -/
namespace Go.Proofs.YtbfefdedjcppaaaGreatDoor
set_option maxRecDepth 100000
set_option maxHeartbeats 4000000
open Go.RowKit
theorem numbers_any (p : Option Addr) (w : World) : Calls Tryz.prog 71 #[.pointer p] w fun e w' => e = .returned (.func (.func 116) #[] #[.pointer (some ⟨w.heap.size, 0, none⟩)]) ∧ w' = w.alloc (.cells #[.pointer p] 93) := by
 go_enter Tryz.func71, Tryz.ntmps71
 go_wp2_with fail
 go_ret
 exact ⟨rfl, rfl⟩
def numP (c : Nat) (bt off : Nat) : Option Addr := if c = 98 then some ⟨bt, off + 3, none⟩ else if c = 116 then some ⟨bt, off + 4, none⟩ else if c = 110 then some ⟨bt, off + 5, none⟩ else if c = 109 then some ⟨bt, off + 6, none⟩ else none
def numM (c : Nat) : Nat := if c = 98 then 3 else if c = 116 then 15 else if c = 110 then 63 else if c = 109 then 2 else 0
theorem numbers1_any (c bt off bx : Nat) (w : World) (h : BoxIs w bx (.pointer (some ⟨bt, off, none⟩)) 93) : Calls Tryz.prog 116 #[.int .i32 (c : Int), .pointer (some ⟨bx, 0, none⟩)] w fun e w' => e = .returned (.tuple #[.pointer (numP c bt off), .int .i64 (numM c : Nat)]) ∧ w' = w := by
 have hc0 := (cell1 h).1
 clear h
 by_cases h1 : c = 98
 · subst h1
   go_enter Tryz.func116, Tryz.ntmps116
   go_wp2_with fail
   refine bodyPost_ret (results_tmp2 rfl _ _ _) rfl ?_
   exact ⟨rfl, rfl⟩
 by_cases h2 : c = 116
 · subst h2
   go_enter Tryz.func116, Tryz.ntmps116
   go_wp2_with fail
   refine bodyPost_ret (results_tmp2 rfl _ _ _) rfl ?_
   exact ⟨rfl, rfl⟩
 by_cases h3 : c = 110
 · subst h3
   go_enter Tryz.func116, Tryz.ntmps116
   go_wp2_with fail
   refine bodyPost_ret (results_tmp2 rfl _ _ _) rfl ?_
   exact ⟨rfl, rfl⟩
 by_cases h4 : c = 109
 · subst h4
   go_enter Tryz.func116, Tryz.ntmps116
   go_wp2_with fail
   refine bodyPost_ret (results_tmp2 rfl _ _ _) rfl ?_
   exact ⟨rfl, rfl⟩
 have hp : numP c bt off = none := by unfold numP; rw [if_neg h1, if_neg h2, if_neg h3, if_neg h4]
 have hm : numM c = 0 := by unfold numM; rw [if_neg h1, if_neg h2, if_neg h3, if_neg h4]
 rw [hp, hm]
 have e1 : ((c : Int) == 98) = false := by simp; omega
 have e2 : ((c : Int) == 116) = false := by simp; omega
 have e3 : ((c : Int) == 110) = false := by simp; omega
 have e4 : ((c : Int) == 109) = false := by simp; omega
 go_enter Tryz.func116, Tryz.ntmps116
 go_wp2_with fail
 refine bodyPost_ret (results_tmp2 rfl _ _ _) rfl ?_
 exact ⟨rfl, rfl⟩
def useT : List (List UInt8) := [[], [], [116, 110], [103], [98, 116], [98, 97, 120], [98, 97], [98, 97, 103, 120], [98, 97, 103], [98, 97, 103], [98, 97, 103], [98, 97, 103, 109], [98, 110], [98, 109], [98, 103], [98, 103, 120], [116]]
def usesL (k : Nat) : List UInt8 := if k < 1 ∨ 16 < k then [] else useT.getD k []
def useC : List Value := useT.map fun l => Value.string ⟨l.toArray⟩
theorem usesO_any (k : Nat) (w : World) : Calls Tryz.prog 72 #[.int .i64 (k : Int)] w fun e w' => e = .returned (.string ⟨(usesL k).toArray⟩) ∧ Below w.heap.size w w' := by
 have hl : ∀ i v, useC[i]? = some v → i < 17 := fun i v h => (List.getElem?_eq_some_iff.1 h).1
 have hu : 1 ≤ k → k ≤ 16 → useC[k]? = some (.string ⟨(usesL k).toArray⟩) := fun h1 h2 => by
   unfold useC usesL
   rw [if_neg (by omega), List.getElem?_map, List.getD_eq_getElem?_getD]
   have : k < useT.length := by show k < 17; omega
   rw [List.getElem?_eq_getElem this]
   rfl
 have hno : (k < 1 ∨ 16 < k) → usesL k = [] := fun h => by unfold usesL; rw [if_pos h]
 go_enter Tryz.func72, Tryz.ntmps72
 go_upto_region 2 with ((with_reducible refine gate_st 196 _ _ rfl ?_); refine wl_strn rfl _ _ _ rfl useC.toArray _ _ (by kernel_rfl) rfl (by kernel_rfl) rfl rfl ?_)
 have hw2 : (w.alloc (.cells useC.toArray 196)).heap[w.heap.size]? = some (.cells useC.toArray 196 (0, 0)) := heap_alloc_new _ _
 have HB2 : Hid (Below w.heap.size w (w.alloc (.cells useC.toArray 196))) := below_alloc1 _ _
 generalize w.alloc (.cells useC.toArray 196) = w2 at *
 generalize useC = C at *
 by_cases h1 : k < 1
 · have HE := Lib.hid (hno (.inl h1))
   have h1' : (k : Int) < 1 := by omega
   clear hno hu hl
   go_wp2_with fail
   go_ret
   exact ⟨by rw [HE.out]; rfl, HB2.out⟩
 have h1' : ¬ (k : Int) < 1 := by omega
 by_cases h2 : 16 < k
 · have HE := Lib.hid (hno (.inr h2))
   have h2' : (16 : Int) < k := by omega
   clear hno hu hl
   go_wp2_with fail
   go_ret
   exact ⟨by rw [HE.out]; rfl, HB2.out⟩
 have h2' : ¬ (16 : Int) < k := by omega
 have h3' : (k : Int) < 17 := by omega
 have hc : w2.cell? ⟨w.heap.size, k, none⟩ = some (.string ⟨(usesL k).toArray⟩) := by rw [cell_blk hw2, List.getElem?_toArray]; exact hu (by omega) (by omega)
 clear hno hu hl
 go_wp2_with fail
 go_ret
 exact ⟨rfl, HB2.out⟩
end Go.Proofs.YtbfefdedjcppaaaGreatDoor

/- request's order of fields. -/
namespace Go.Proofs.YtbfefdedjcppaaaGreatDoor
set_option maxRecDepth 100000
set_option maxHeartbeats 8000000
open Go.RowKit
theorem sNum_len {off lo hi ee : Nat} {x : FS} (h : off + 1 ≤ x.cs.length) : (sNum off lo hi ee x).cs.length = x.cs.length := by
 unfold sNum; split
 · exact rowIn_len (by simpa using h)
 · rfl
theorem sTag_len {off : Nat} {x : FS} (h : off + 10 ≤ x.cs.length) : (sTag off x).cs.length = x.cs.length := by
 unfold sTag; split
 · simp only; split
   · exact rowIn_len (by simpa [bC, tagR_len] using h)
   · rfl
 · rfl
theorem sName_len {off : Nat} {x : FS} (h : off + 12 ≤ x.cs.length) : (sName off x).cs.length = x.cs.length := by
 unfold sName; split
 · exact rowIn_len (by simpa [bC, parseN_length] using h)
 · rfl
theorem sText_len {off : Nat} {x : FS} (h : off + 1 ≤ x.cs.length) : (sText off x).cs.length = x.cs.length := by
 unfold sText; split
 · exact rowIn_len (by simpa using h)
 · rfl
def stepO (off : Nat) (x : FS) (c : UInt8) : FS :=
 if c = 98 then sNum (off + 3) 0 3 5 x else if c = 116 then sNum (off + 4) 0 15 5 x else if c = 110 then sNum (off + 5) 0 63 5 x else if c = 109 then sNum (off + 6) 0 2 5 x
 else if c = 97 then sName (off + 7) x else if c = 103 then sTag (off + 19) x else sText (off + 29) x
theorem stepO_len {off : Nat} {x : FS} (c : UInt8) (h : off + 30 ≤ x.cs.length) : (stepO off x c).cs.length = x.cs.length := by
 unfold stepO
 split; · exact sNum_len (by omega)
 split; · exact sNum_len (by omega)
 split; · exact sNum_len (by omega)
 split; · exact sNum_len (by omega)
 split; · exact sName_len (by omega)
 split; · exact sTag_len (by omega)
 exact sText_len (by omega)
def head3 (off : Nat) (x : FS) : FS := sNum (off + 2) 0 3 5 (sNum (off + 1) 0 15 5 (sNum off 1 16 16 x))
def intN : Option Value → Nat | some (.int _ n) => n.toNat | _ => 0
def sOrder (off : Nat) (x : FS) : FS := (usesL (intN (head3 off x).cs[off]?)).foldl (stepO off) (head3 off x)
theorem head3_len {off : Nat} {x : FS} (h : off + 30 ≤ x.cs.length) : (head3 off x).cs.length = x.cs.length := by
 unfold head3
 have h1 : (sNum off 1 16 16 x).cs.length = x.cs.length := sNum_len (by omega)
 have h2 : (sNum (off + 1) 0 15 5 (sNum off 1 16 16 x)).cs.length = x.cs.length := by rw [sNum_len (by omega), h1]
 rw [sNum_len (by omega), h2]
theorem rowIn_before {cs r : List Value} {off i : Nat} (h : off + r.length ≤ cs.length) (hi : i < off) : (RowIn cs off r)[i]? = cs[i]? := by
 unfold RowIn
 rw [List.append_assoc, List.getElem?_append_left (by rw [List.length_take]; omega), List.getElem?_take_of_lt hi]
theorem sNum_before {off lo hi ee i : Nat} {x : FS} (h : off + 1 ≤ x.cs.length) (hlt : i < off) : (sNum off lo hi ee x).cs[i]? = x.cs[i]? := by
 unfold sNum; split
 · exact rowIn_before (by simpa using h) hlt
 · rfl
theorem head3_kind {off k0 : Nat} {x : FS} (h : off + 30 ≤ x.cs.length) (hk : x.cs[off]? = some (.int .i64 (k0 : Int))) : (head3 off x).cs[off]? = some (.int .i64 ((intN (head3 off x).cs[off]? : Nat) : Int)) := by
 have h1 : (sNum off 1 16 16 x).cs.length = x.cs.length := sNum_len (by omega)
 have h2 : (sNum (off + 1) 0 15 5 (sNum off 1 16 16 x)).cs.length = x.cs.length := by rw [sNum_len (by omega), h1]
 unfold head3
 rw [sNum_before (by omega) (by omega), sNum_before (by omega) (by omega)]
 unfold sNum
 split
 · simp only
   have := rowIn_cell (cs := x.cs) (r := [Value.int .i64 (byteV x.l : Nat)]) (off := off) (i := 0) (by simp; omega) (by simp)
   rw [Nat.add_zero] at this
   rw [this]; rfl
 · rw [hk]; rfl
structure OrdSt (w W : World) (b2 b3 br bf bt off : Nat) (T : TypeId) (n : Nat) (x : FS) : Prop where
 st : StF W br bf bt T x
 bx2 : BoxIs W b2 (.pointer (some ⟨bf, 0, none⟩)) 84
 bx3 : BoxIs W b3 (.pointer (some ⟨bt, off, none⟩)) 93
 len : x.cs.length = n
 tn : Turn [br, bf, bt] w W
 mx : MX W
 ne : ∀ b ∈ [b2, b3], b ≠ br ∧ b ≠ bf ∧ b ≠ bt
 hbt : br < bt ∧ bt ≠ bf
 hg : 0 < br
theorem OrdSt.step {w W w' : World} {b2 b3 br bf bt off n : Nat} {T : TypeId} {x y : FS} {e : Ending} (h : OrdSt w W b2 b3 br bf bt off T n x) (hs : Stepped br bf bt T y W e w') (hl : y.cs.length = n) : OrdSt w w' b2 b3 br bf bt off T n y := by
 obtain ⟨_, h1, h2⟩ := hs
 have hk : ∀ k, k < W.heap.size → k ≠ br → k ≠ bf → k ≠ bt → w'.heap[k]? = W.heap[k]? := fun k hk a b c => h2.block k hk (by simp [a, b, c])
 have n2 := h.ne b2 (by simp)
 have n3 := h.ne b3 (by simp)
 refine ⟨h1, (hk _ (lt_heap h.bx2) n2.1 n2.2.1 n2.2.2).trans h.bx2, (hk _ (lt_heap h.bx3) n3.1 n3.2.1 n3.2.2).trans h.bx3, hl, h.tn.trans h2, h.mx.turn h2 (fun k hk => ?_), h.ne, h.hbt, h.hg⟩
 have := h.hg
 have := h.hbt
 have := h.st.fa.lt
 simp only [List.mem_cons, List.not_mem_nil, or_false] at hk
 rcases hk with rfl | rfl | rfl <;> omega
theorem OrdSt.below {w W w' : World} {b2 b3 br bf bt off n : Nat} {T : TypeId} {x : FS} (h : OrdSt w W b2 b3 br bf bt off T n x) (hb : Below W.heap.size W w') : OrdSt w w' b2 b3 br bf bt off T n x :=
 ⟨h.st.below hb, (hb.block _ (lt_heap h.bx2)).trans h.bx2, (hb.block _ (lt_heap h.bx3)).trans h.bx3, h.len, h.tn.trans (Turn.of_below hb), h.mx.below hb, h.ne, h.hbt, h.hg⟩
theorem boxes_eq {W W' : World} {b : Nat} {v : Value} {T : TypeId} (h : BoxIs W b v T) (h' : BoxIs W' b v T) : W'.heap[b]? = W.heap[b]? := Eq.trans h' (Eq.symm h)
theorem boxIs_same {W W' : World} {b : Nat} {v : Value} {T : TypeId} (h : BoxIs W b v T) (e : W'.heap[b]? = W.heap[b]?) : BoxIs W' b v T := e.trans h
theorem OrdSt.own {w W w' : World} {b2 b3 br bf bt off n i : Nat} {T : TypeId} {x : FS} (h : OrdSt w W b2 b3 br bf bt off T n x) (ht : Turn [i] W w') (h1 : w.heap.size ≤ i) (h2 : i ≠ b2) (h3 : i ≠ b3) (hb : br < w.heap.size ∧ bf < w.heap.size ∧ bt < w.heap.size) : OrdSt w w' b2 b3 br bf bt off T n x := by
 have hk : ∀ k, k < W.heap.size → k ≠ i → w'.heap[k]? = W.heap[k]? := fun k hk a => ht.block k hk (by simpa using a)
 refine ⟨h.st.turn ht (fun k hk => ?_), (hk _ (lt_heap h.bx2) (Ne.symm h2)).trans h.bx2, (hk _ (lt_heap h.bx3) (Ne.symm h3)).trans h.bx3, h.len, ⟨ht.os.trans h.tn.os, ht.tape.trans h.tn.tape, ht.output.trans h.tn.output, Nat.le_trans h.tn.size ht.size, fun k hlt hn => (hk k (Nat.lt_of_lt_of_le hlt h.tn.size) (by omega)).trans (h.tn.block k hlt hn)⟩, h.mx.turn ht (fun k hk => ?_), h.ne, h.hbt, h.hg⟩
 · rw [List.mem_singleton] at hk; subst hk
   refine ⟨?_, ?_, ?_⟩ <;> omega
 · rw [List.mem_singleton] at hk; subst hk
   have := h.hg; omega
structure LpSt (w W : World) (b2 b3 b4 it br bf bt off : Nat) (T : TypeId) (n : Nat) (s : ByteArray) (pos : Nat) (x : FS) : Prop where
 o : OrdSt w W b2 b3 br bf bt off T n x
 bx4 : BoxIs W b4 (.pointer (some ⟨bt, off, none⟩)) 93
 it_ : W.heap[it]? = some (.stringIter s pos)
 up : w.heap.size ≤ b4 ∧ w.heap.size ≤ it
 ne : it ≠ b2 ∧ it ≠ b3 ∧ it ≠ b4
 dn : br < w.heap.size ∧ bf < w.heap.size ∧ bt < w.heap.size
theorem LpSt.step {w W w' : World} {b2 b3 b4 it br bf bt off n pos : Nat} {T : TypeId} {s : ByteArray} {x y : FS} {e : Ending} (h : LpSt w W b2 b3 b4 it br bf bt off T n s pos x) (hs : Stepped br bf bt T y W e w') (hl : y.cs.length = n) : LpSt w w' b2 b3 b4 it br bf bt off T n s pos y := by
 have hk : ∀ k, k < W.heap.size → w.heap.size ≤ k → w'.heap[k]? = W.heap[k]? := fun k hk a => hs.2.2.block k hk (by have := h.dn; simp; omega)
 exact ⟨h.o.step hs hl, (hk _ (lt_heap h.bx4) h.up.1).trans h.bx4, (hk _ (lt_heap h.it_) h.up.2).trans h.it_, h.up, h.ne, h.dn⟩
theorem LpSt.next {w W : World} {b2 b3 b4 it br bf bt off n pos : Nat} {T : TypeId} {s : ByteArray} {x : FS} (h : LpSt w W b2 b3 b4 it br bf bt off T n s pos x) (p : Nat) : LpSt w (putB W it (.stringIter s p)) b2 b3 b4 it br bf bt off T n s p x := by
 have ht : Turn [it] W (putB W it (.stringIter s p)) := ⟨rfl, rfl, rfl, by rw [putB_size]; exact Nat.le_refl _, fun k _ hk => putB_other _ _ _ _ (by simpa using hk)⟩
 exact ⟨h.o.own ht h.up.2 h.ne.1 h.ne.2.1 h.dn, (putB_other _ _ _ _ (Ne.symm h.ne.2.2)).trans h.bx4, putB_same _ _ _ _ h.it_, h.up, h.ne, h.dn⟩
theorem LpSt.below {w W w' : World} {b2 b3 b4 it br bf bt off n pos : Nat} {T : TypeId} {s : ByteArray} {x : FS} (h : LpSt w W b2 b3 b4 it br bf bt off T n s pos x) (hb : Below W.heap.size W w') : LpSt w w' b2 b3 b4 it br bf bt off T n s pos x :=
 ⟨h.o.below hb, (hb.block _ (lt_heap h.bx4)).trans h.bx4, (hb.block _ (lt_heap h.it_)).trans h.it_, h.up, h.ne, h.dn⟩
theorem useT_in : ∀ l ∈ useT, ∀ c ∈ l, c = 98 ∨ c = 116 ∨ c = 110 ∨ c = 109 ∨ c = 97 ∨ c = 103 ∨ c = 120 := by decide
theorem uses_in (k : Nat) : ∀ c ∈ usesL k, c = 98 ∨ c = 116 ∨ c = 110 ∨ c = 109 ∨ c = 97 ∨ c = 103 ∨ c = 120 := by
 intro c hc
 unfold usesL at hc
 split at hc
 · cases hc
 · have hk : k < useT.length := by show k < 17; omega
   rw [List.getD_eq_getElem?_getD, List.getElem?_eq_getElem hk] at hc
   exact useT_in _ (List.getElem_mem hk) c hc
theorem fold_take {x : FS} {off : Nat} {u : List UInt8} {pos : Nat} {c : UInt8} (hc : u[pos]? = some c) : (u.take (pos + 1)).foldl (stepO off) x = stepO off ((u.take pos).foldl (stepO off) x) c := by
 have h := (List.getElem?_eq_some_iff.1 hc).1
 rw [List.take_succ_eq_append_getElem h, List.foldl_append, (List.getElem?_eq_some_iff.1 hc).2]; rfl
theorem sorder_any (br bf bt off n k0 : Nat) (T : TypeId) (x : FS) (w : World) (h : StF w br bf bt T x) (hn : x.cs.length = n) (hoff : off + 30 ≤ n) (hk0 : x.cs[off]? = some (.int .i64 (k0 : Int))) (hbt : br < bt ∧ bt ≠ bf) (hmx : MX w) (hg : 0 < br) :
   Calls Tryz.prog 25 #[.pointer (some ⟨bf, 0, none⟩), .pointer (some ⟨bt, off, none⟩)] w (Stepped br bf bt T (sOrder off x) w) := by
 obtain ⟨g2, g3, hb, hz⟩ := two_boxes w (.pointer (some ⟨bf, 0, none⟩)) (.pointer (some ⟨bt, off, none⟩)) 84 93
 have hkd := head3_kind (by omega : off + 30 ≤ x.cs.length) hk0
 have HS0 : Hid (OrdSt w ((w.alloc (.cells #[.pointer (some ⟨bf, 0, none⟩)] 84)).alloc (.cells #[.pointer (some ⟨bt, off, none⟩)] 93)) w.heap.size (w.heap.size + 1) br bf bt off T n x) := by
   have h1 := lt_heap h.at_
   have h2 := lt_heap h.fa.at_
   have h3 := h.fa.lt
   refine ⟨h.below hb, g2, g3, hn, Turn.of_below hb, hmx.below hb, fun b hm => ?_, hbt, hg⟩
   simp only [List.mem_cons, List.not_mem_nil, or_false] at hm
   rcases hm with rfl | rfl <;> refine ⟨?_, ?_, ?_⟩ <;> omega
 have hp2 : w.heap.size ≤ w.heap.size := Nat.le_refl _
 have hp3 : w.heap.size ≤ w.heap.size + 1 := Nat.le_succ _
 have HO : Hid (sOrder off x = (usesL (intN (head3 off x).cs[off]?)).foldl (stepO off) (head3 off x)) := rfl
 have HH : Hid (head3 off x = sNum (off + 2) 0 3 5 (sNum (off + 1) 0 15 5 (sNum (off + 0) 1 16 16 x))) := rfl
 have HD : Hid (br < w.heap.size ∧ bf < w.heap.size ∧ bt < w.heap.size) := ⟨by have h2 := lt_heap h.fa.at_; have h3 := h.fa.lt; omega, lt_heap h.fa.at_, lt_heap h.at_⟩
 clear h hk0 hmx hg hb hz g2 g3
 go_enter Tryz.func25, Tryz.ntmps25
 go_upto_region 1 with fail
 generalize (w.alloc (.cells #[.pointer (some ⟨bf, 0, none⟩)] 84)).alloc (.cells #[.pointer (some ⟨bt, off, none⟩)] 93) = W1 at *
 generalize w.heap.size + 1 = b3 at *
 obtain ⟨b2, hb2⟩ : ∃ b, w.heap.size = b := ⟨_, rfl⟩
 rw [hb2] at HS0 ⊢
 have hH : W1.heap[b2]? = W1.heap[b2]? ∧ W1.heap[b3]? = W1.heap[b3]? := ⟨rfl, rfl⟩
 refine wp_region_held_drew (S := fun W => W.heap[b2]? = W1.heap[b2]? ∧ W.heap[b3]? = W1.heap[b3]?) (by kernel_rfl) ⟨rfl, rfl⟩ (fun hH => ?_)
 show wpAnyH Tryz.prog Region.Mode.any _ _ _ 5 #[false, false, false, false, false] _ _
 refine takeR (i := 0) (v := .pointer (some ⟨bf, 0, none⟩)) 9 rfl rfl (by kernel_rfl) (by kernel_rfl) (by kernel_rfl) (fun _ _ _ h => h) (Or.inl ⟨rfl, fun w' hS => exec_ld1G 84 ag84 _ rfl b2 0 _ rfl (cell1 (boxIs_same HS0.out.bx2 hS.1)).1⟩) hH ?_
 simp only [Act.put, wrT]
 refine takeR (i := 1) (v := .pointer (some ⟨bt, off, none⟩)) 10 rfl rfl (by kernel_rfl) (by kernel_rfl) (by kernel_rfl) (fun _ _ _ h => h) (Or.inl ⟨rfl, fun w' hS => exec_ld1G 93 ag93 _ rfl b3 0 _ rfl (cell1 (boxIs_same HS0.out.bx3 hS.2)).1⟩) hH ?_
 simp only [Act.put, wrT]
 refine takeR (i := 2) (v := .pointer (some ⟨bt, off, none⟩)) 11 rfl rfl (by kernel_rfl) (by kernel_rfl) (by kernel_rfl) (fun _ _ _ h => h) (Or.inl ⟨rfl, fun w' hS => exec_nc (.tmp 10) rfl _ rfl⟩) hH ?_
 simp only [Act.put, wrT]
 refine takeR (i := 3) (v := .pointer (some ⟨bt, off + 0, none⟩)) 12 rfl rfl (by kernel_rfl) (by kernel_rfl) (by kernel_rfl) (fun _ _ _ h => h) (Or.inl ⟨rfl, fun w' hS => exec_fO (.tmp 11) 0 0 (by simp) rfl bt off rfl⟩) hH ?_
 simp only [Act.put, wrT]
 have HK : Hid (OrdSt w W1.drew b2 b3 br bf bt off T n x) := HS0.out.below ⟨rfl, rfl, rfl, Nat.le_refl _, fun _ _ => rfl⟩
 refine oneH 4 (by kernel_rfl) (wpOp_call rfl rfl (exec_calls rfl (enters_of Tryz.func23 (by kernel_rfl) rfl) (vs := #[.pointer (some ⟨bf, 0, none⟩), .pointer (some ⟨bt, off + 0, none⟩), .int .i64 1, .int .i64 16, .int .i64 16]) (by simp [Act.eval]) W1.drew) (snum_any br bf bt (off + 0) 1 16 16 T x W1.drew HK.out.st (by rw [HK.out.len]; omega) HK.out.hbt) (fun e w1 hR => ?_))
 have HS1 : Hid (OrdSt w w1 b2 b3 br bf bt off T n (sNum (off + 0) 1 16 16 x)) := HK.out.step hR (by rw [sNum_len (by rw [HK.out.len]; omega)]; exact HK.out.len)
 obtain ⟨rfl, hr1, ht1⟩ := hR
 refine ⟨_, rfl, ⟨boxes_eq HS0.out.bx2 HS1.out.bx2, boxes_eq HS0.out.bx3 HS1.out.bx3⟩, ?_⟩
 simp only [Act.put, rdT, wrT]
 refine wpAnyH_done (by kernel_rfl) ?_ _
 try simp only [Act.put, rdT, wrT]
 clear hr1 ht1 hH HK HS0
 generalize hx1 : sNum (off + 0) 1 16 16 x = x1 at *
 go_upto_region 2 with fail
 have hH : w1.heap[b2]? = w1.heap[b2]? ∧ w1.heap[b3]? = w1.heap[b3]? := ⟨rfl, rfl⟩
 refine wp_region_held_drew (S := fun W => W.heap[b2]? = w1.heap[b2]? ∧ W.heap[b3]? = w1.heap[b3]?) (by kernel_rfl) ⟨rfl, rfl⟩ (fun hH => ?_)
 show wpAnyH Tryz.prog Region.Mode.any _ _ _ 5 #[false, false, false, false, false] _ _
 refine takeR (i := 0) (v := .pointer (some ⟨bf, 0, none⟩)) 14 rfl rfl (by kernel_rfl) (by kernel_rfl) (by kernel_rfl) (fun _ _ _ h => h) (Or.inl ⟨rfl, fun w' hS => exec_ld1G 84 ag84 _ rfl b2 0 _ rfl (cell1 (boxIs_same HS1.out.bx2 hS.1)).1⟩) hH ?_
 simp only [Act.put, wrT]
 refine takeR (i := 1) (v := .pointer (some ⟨bt, off, none⟩)) 15 rfl rfl (by kernel_rfl) (by kernel_rfl) (by kernel_rfl) (fun _ _ _ h => h) (Or.inl ⟨rfl, fun w' hS => exec_ld1G 93 ag93 _ rfl b3 0 _ rfl (cell1 (boxIs_same HS1.out.bx3 hS.2)).1⟩) hH ?_
 simp only [Act.put, wrT]
 refine takeR (i := 2) (v := .pointer (some ⟨bt, off, none⟩)) 16 rfl rfl (by kernel_rfl) (by kernel_rfl) (by kernel_rfl) (fun _ _ _ h => h) (Or.inl ⟨rfl, fun w' hS => exec_nc (.tmp 15) rfl _ rfl⟩) hH ?_
 simp only [Act.put, wrT]
 refine takeR (i := 3) (v := .pointer (some ⟨bt, off + 1, none⟩)) 17 rfl rfl (by kernel_rfl) (by kernel_rfl) (by kernel_rfl) (fun _ _ _ h => h) (Or.inl ⟨rfl, fun w' hS => exec_fO (.tmp 16) 1 1 (by simp) rfl bt off rfl⟩) hH ?_
 simp only [Act.put, wrT]
 have HK : Hid (OrdSt w w1.drew b2 b3 br bf bt off T n x1) := HS1.out.below ⟨rfl, rfl, rfl, Nat.le_refl _, fun _ _ => rfl⟩
 refine oneH 4 (by kernel_rfl) (wpOp_call rfl rfl (exec_calls rfl (enters_of Tryz.func23 (by kernel_rfl) rfl) (vs := #[.pointer (some ⟨bf, 0, none⟩), .pointer (some ⟨bt, off + 1, none⟩), .int .i64 0, .int .i64 15, .int .i64 5]) (by simp [Act.eval]) w1.drew) (snum_any br bf bt (off + 1) 0 15 5 T x1 w1.drew HK.out.st (by rw [HK.out.len]; omega) HK.out.hbt) (fun e w2 hR => ?_))
 have HS2 : Hid (OrdSt w w2 b2 b3 br bf bt off T n (sNum (off + 1) 0 15 5 x1)) := HK.out.step hR (by rw [sNum_len (by rw [HK.out.len]; omega)]; exact HK.out.len)
 obtain ⟨rfl, hr1, ht1⟩ := hR
 refine ⟨_, rfl, ⟨boxes_eq HS1.out.bx2 HS2.out.bx2, boxes_eq HS1.out.bx3 HS2.out.bx3⟩, ?_⟩
 simp only [Act.put, rdT, wrT]
 refine wpAnyH_done (by kernel_rfl) ?_ _
 try simp only [Act.put, rdT, wrT]
 clear hr1 ht1 hH HK HS1
 generalize hx2 : sNum (off + 1) 0 15 5 x1 = x2 at *
 go_upto_region 3 with fail
 have hH : w2.heap[b2]? = w2.heap[b2]? ∧ w2.heap[b3]? = w2.heap[b3]? := ⟨rfl, rfl⟩
 refine wp_region_held_drew (S := fun W => W.heap[b2]? = w2.heap[b2]? ∧ W.heap[b3]? = w2.heap[b3]?) (by kernel_rfl) ⟨rfl, rfl⟩ (fun hH => ?_)
 show wpAnyH Tryz.prog Region.Mode.any _ _ _ 5 #[false, false, false, false, false] _ _
 refine takeR (i := 0) (v := .pointer (some ⟨bf, 0, none⟩)) 19 rfl rfl (by kernel_rfl) (by kernel_rfl) (by kernel_rfl) (fun _ _ _ h => h) (Or.inl ⟨rfl, fun w' hS => exec_ld1G 84 ag84 _ rfl b2 0 _ rfl (cell1 (boxIs_same HS2.out.bx2 hS.1)).1⟩) hH ?_
 simp only [Act.put, wrT]
 refine takeR (i := 1) (v := .pointer (some ⟨bt, off, none⟩)) 20 rfl rfl (by kernel_rfl) (by kernel_rfl) (by kernel_rfl) (fun _ _ _ h => h) (Or.inl ⟨rfl, fun w' hS => exec_ld1G 93 ag93 _ rfl b3 0 _ rfl (cell1 (boxIs_same HS2.out.bx3 hS.2)).1⟩) hH ?_
 simp only [Act.put, wrT]
 refine takeR (i := 2) (v := .pointer (some ⟨bt, off, none⟩)) 21 rfl rfl (by kernel_rfl) (by kernel_rfl) (by kernel_rfl) (fun _ _ _ h => h) (Or.inl ⟨rfl, fun w' hS => exec_nc (.tmp 20) rfl _ rfl⟩) hH ?_
 simp only [Act.put, wrT]
 refine takeR (i := 3) (v := .pointer (some ⟨bt, off + 2, none⟩)) 22 rfl rfl (by kernel_rfl) (by kernel_rfl) (by kernel_rfl) (fun _ _ _ h => h) (Or.inl ⟨rfl, fun w' hS => exec_fO (.tmp 21) 2 2 (by simp) rfl bt off rfl⟩) hH ?_
 simp only [Act.put, wrT]
 have HK : Hid (OrdSt w w2.drew b2 b3 br bf bt off T n x2) := HS2.out.below ⟨rfl, rfl, rfl, Nat.le_refl _, fun _ _ => rfl⟩
 refine oneH 4 (by kernel_rfl) (wpOp_call rfl rfl (exec_calls rfl (enters_of Tryz.func23 (by kernel_rfl) rfl) (vs := #[.pointer (some ⟨bf, 0, none⟩), .pointer (some ⟨bt, off + 2, none⟩), .int .i64 0, .int .i64 3, .int .i64 5]) (by simp [Act.eval]) w2.drew) (snum_any br bf bt (off + 2) 0 3 5 T x2 w2.drew HK.out.st (by rw [HK.out.len]; omega) HK.out.hbt) (fun e w3 hR => ?_))
 have HS3 : Hid (OrdSt w w3 b2 b3 br bf bt off T n (sNum (off + 2) 0 3 5 x2)) := HK.out.step hR (by rw [sNum_len (by rw [HK.out.len]; omega)]; exact HK.out.len)
 obtain ⟨rfl, hr1, ht1⟩ := hR
 refine ⟨_, rfl, ⟨boxes_eq HS2.out.bx2 HS3.out.bx2, boxes_eq HS2.out.bx3 HS3.out.bx3⟩, ?_⟩
 simp only [Act.put, rdT, wrT]
 refine wpAnyH_done (by kernel_rfl) ?_ _
 try simp only [Act.put, rdT, wrT]
 clear hr1 ht1 hH HK HS2
 rw [← HH.out] at HS3
 generalize head3 off x = x3 at *
 have hb2l := lt_heap HS3.out.bx2
 have hb3l := lt_heap HS3.out.bx3
 have KN : Hid (∀ W : World, Calls Tryz.prog 71 #[.pointer (some ⟨bt, off, none⟩)] W fun e w' => e = .returned (.func (.func 116) #[] #[.pointer (some ⟨W.heap.size, 0, none⟩)]) ∧ w' = W.alloc (.cells #[.pointer (some ⟨bt, off, none⟩)] 93)) := fun W => numbers_any _ W
 have HS4 : Hid (OrdSt w (w3.alloc (.cells #[.pointer (some ⟨bt, off, none⟩)] 93)) b2 b3 br bf bt off T n x3) := HS3.out.below (below_alloc1 _ _)
 have HB4 : Hid (BoxIs (w3.alloc (.cells #[.pointer (some ⟨bt, off, none⟩)] 93)) w3.heap.size (.pointer (some ⟨bt, off, none⟩)) 93) := heap_alloc_new _ _
 have hge : w.heap.size ≤ w3.heap.size := HS3.out.tn.size
 have hc33 := (cell1 HS3.out.bx3).1
 generalize hkk : intN x3.cs[off]? = k at *
 go_upto_region 5 with (go_at_call 71; (refine (KN.out _).mono ?_); rintro e w4 ⟨rfl, rfl⟩)
 generalize w3.alloc (.cells #[.pointer (some ⟨bt, off, none⟩)] 93) = W4 at *
 generalize hb4e : w3.heap.size = b4 at *
 have hc43 := (cell1 HS4.out.bx3).1
 have hck : W4.cell? ⟨bt, off, none⟩ = some (.int .i64 (k : Int)) := by rw [cell_blk HS4.out.st.at_, List.getElem?_toArray]; exact hkd
 have KU : Hid (∀ W, Calls Tryz.prog 72 #[.int .i64 (k : Int)] W fun e w' => e = .returned (.string ⟨(usesL k).toArray⟩) ∧ Below W.heap.size W w') := fun W => usesO_any k W
 clear hc33 KN HS3
 go_wp2_with (go_at_call 72; (refine (KU.out _).mono ?_); rintro e w5 ⟨rfl, hb5⟩; have HB5 := Lib.hid hb5; clear hb5)
 have HL0 : Hid (LpSt w (w5.iter ⟨(usesL k).toArray⟩ 0) b2 b3 b4 w5.heap.size br bf bt off T n ⟨(usesL k).toArray⟩ 0 x3) := by
   have hb3 : Below W4.heap.size W4 (w5.iter ⟨(usesL k).toArray⟩ 0) := HB5.out.alloc HB5.out.size _
   have h4 := lt_heap HB4.out
   have h2 := lt_heap HS4.out.bx2
   have h3 := lt_heap HS4.out.bx3
   have h5 := HB5.out.size
   have h6 := HS4.out.tn.size
   exact ⟨HS4.out.below hb3, (hb3.block _ h4).trans HB4.out, World.iter_heap _ _ _, ⟨hge, by omega⟩, ⟨by omega, by omega, by omega⟩, HD.out⟩
 have HUI := Lib.hid (uses_in k)
 clear HB4 HB5 HS4 KU hck hc43 hb2l hb3l hkd hkk hb4e hge
 generalize usesL k = u at *
 generalize w5.iter ⟨u.toArray⟩ 0 = W5 at *
 generalize w5.heap.size = it at *
 have hus : (⟨u.toArray⟩ : ByteArray).size = u.length := by show u.toArray.size = _; simp
 go_loopw [6] (fun _ wr => ∃ (pos : Nat) (y : FS), pos ≤ u.length ∧ Hid (LpSt w wr b2 b3 b4 it br bf bt off T n ⟨u.toArray⟩ pos y) ∧ Hid (y = (u.take pos).foldl (stepO off) x3)) (fun _ wr => u.length - wr.iterPos it)
 case atStart => exact ⟨0, _, Nat.zero_le _, HL0.out, rfl⟩
 case round =>
   obtain ⟨pos, y, hpos, HL1, HF1⟩ := hrel
   clear HL0
   by_cases hlt : pos < u.length
   · have hc : u[pos]? = some u[pos] := List.getElem?_eq_getElem hlt
     have hci := HUI.out _ (List.getElem_mem hlt)
     have HF2 : Hid (stepO off y u[pos] = (u.take (pos + 1)).foldl (stepO off) x3) := by show _ = _; rw [HF1.out]; exact (fold_take hc).symm
     generalize u[pos] = c at *
     have hnx := fun ty => runS_next (P := Tryz.prog) wr it ⟨u.toArray⟩ pos ty c HL1.out.it_ (by simpa using hc) (by rcases hci with h | h | h | h | h | h | h <;> (rw [h]; decide))
     have HL2 := Lib.hid (HL1.out.next (pos + 1))
     have HM : Hid (u.length - (pos + 1) < u.length - wr.iterPos it) := by show _ < _; rw [iterPos_at HL1.out.it_]; omega
     have HLy : Hid (y.cs.length = n) := HL1.out.o.len
     have hsl : ∀ c, (stepO off y c).cs.length = n := fun c => by rw [stepO_len c (by rw [HLy.out]; omega)]; exact HLy.out
     clear hc HF1 HL1
     generalize putB wr it (.stringIter ⟨u.toArray⟩ (pos + 1)) = W3 at *
     have hbx2 := (cell1 HL2.out.o.bx2).1
     rcases hci with rfl | rfl | rfl | rfl | rfl | rfl | rfl
     · have KC := Lib.hid (numbers1_any 98 bt off b4 W3 HL2.out.bx4)
       have KS := Lib.hid (snum_any br bf bt (off + 3) 0 3 5 T y W3 HL2.out.o.st (by rw [HLy.out]; omega) HL2.out.o.hbt)
       go_wp2_with (first
         | (go_at_call 116; (refine KC.out.mono ?_); rintro e w7 ⟨rfl, rfl⟩)
         | (go_at_call 23; (refine KS.out.mono ?_); rintro e w8 hR; have HL3 := Lib.hid (HL2.out.step hR (hsl 98)); obtain ⟨rfl, _, _⟩ := hR))
       go_roundw
       case rel => exact ⟨pos + 1, _, by omega, HL3.out, HF2.out⟩
       case measure => rw [iterPos_at HL3.out.it_]; exact HM.out
     · have KC := Lib.hid (numbers1_any 116 bt off b4 W3 HL2.out.bx4)
       have KS := Lib.hid (snum_any br bf bt (off + 4) 0 15 5 T y W3 HL2.out.o.st (by rw [HLy.out]; omega) HL2.out.o.hbt)
       go_wp2_with (first
         | (go_at_call 116; (refine KC.out.mono ?_); rintro e w7 ⟨rfl, rfl⟩)
         | (go_at_call 23; (refine KS.out.mono ?_); rintro e w8 hR; have HL3 := Lib.hid (HL2.out.step hR (hsl 116)); obtain ⟨rfl, _, _⟩ := hR))
       go_roundw
       case rel => exact ⟨pos + 1, _, by omega, HL3.out, HF2.out⟩
       case measure => rw [iterPos_at HL3.out.it_]; exact HM.out
     · have KC := Lib.hid (numbers1_any 110 bt off b4 W3 HL2.out.bx4)
       have KS := Lib.hid (snum_any br bf bt (off + 5) 0 63 5 T y W3 HL2.out.o.st (by rw [HLy.out]; omega) HL2.out.o.hbt)
       go_wp2_with (first
         | (go_at_call 116; (refine KC.out.mono ?_); rintro e w7 ⟨rfl, rfl⟩)
         | (go_at_call 23; (refine KS.out.mono ?_); rintro e w8 hR; have HL3 := Lib.hid (HL2.out.step hR (hsl 110)); obtain ⟨rfl, _, _⟩ := hR))
       go_roundw
       case rel => exact ⟨pos + 1, _, by omega, HL3.out, HF2.out⟩
       case measure => rw [iterPos_at HL3.out.it_]; exact HM.out
     · have KC := Lib.hid (numbers1_any 109 bt off b4 W3 HL2.out.bx4)
       have KS := Lib.hid (snum_any br bf bt (off + 6) 0 2 5 T y W3 HL2.out.o.st (by rw [HLy.out]; omega) HL2.out.o.hbt)
       go_wp2_with (first
         | (go_at_call 116; (refine KC.out.mono ?_); rintro e w7 ⟨rfl, rfl⟩)
         | (go_at_call 23; (refine KS.out.mono ?_); rintro e w8 hR; have HL3 := Lib.hid (HL2.out.step hR (hsl 109)); obtain ⟨rfl, _, _⟩ := hR))
       go_roundw
       case rel => exact ⟨pos + 1, _, by omega, HL3.out, HF2.out⟩
       case measure => rw [iterPos_at HL3.out.it_]; exact HM.out
     · have KC := Lib.hid (numbers1_any 97 bt off b4 W3 HL2.out.bx4)
       have KS := Lib.hid (sname_any br bf bt off b2 b3 T y W3 HL2.out.o.st HL2.out.o.bx2 HL2.out.o.bx3 (by rw [HLy.out]; exact hoff) HL2.out.o.hbt HL2.out.o.ne)
       go_wp2_with (first
         | (go_at_call 116; (refine KC.out.mono ?_); rintro e w7 ⟨rfl, rfl⟩)
         | (go_at_call 26; (refine KS.out.mono ?_); rintro e w8 hR; have HL3 := Lib.hid (HL2.out.step hR (hsl 97)); obtain ⟨rfl, _, _⟩ := hR))
       go_roundw
       case rel => exact ⟨pos + 1, _, by omega, HL3.out, HF2.out⟩
       case measure => rw [iterPos_at HL3.out.it_]; exact HM.out
     · have KC := Lib.hid (numbers1_any 103 bt off b4 W3 HL2.out.bx4)
       go_upto_region 15 with (go_at_call 116; (refine KC.out.mono ?_); rintro e w7 ⟨rfl, rfl⟩)
       have hH : w7.heap[b2]? = w7.heap[b2]? ∧ w7.heap[b3]? = w7.heap[b3]? := ⟨rfl, rfl⟩
       refine wp_region_held_drew (S := fun W => W.heap[b2]? = w7.heap[b2]? ∧ W.heap[b3]? = w7.heap[b3]?) (by kernel_rfl) ⟨rfl, rfl⟩ (fun hH => ?_)
       show wpAnyH Tryz.prog Region.Mode.any _ _ _ 5 #[false, false, false, false, false] _ _
       refine takeR (i := 0) (v := .pointer (some ⟨bf, 0, none⟩)) 60 rfl rfl (by kernel_rfl) (by kernel_rfl) (by kernel_rfl) (fun _ _ _ h => h) (Or.inl ⟨rfl, fun w' hS => exec_ld1G 84 ag84 _ rfl b2 0 _ rfl (cell1 (boxIs_same HL2.out.o.bx2 hS.1)).1⟩) hH ?_
       simp only [Act.put, wrT]
       refine takeR (i := 1) (v := .pointer (some ⟨bt, off, none⟩)) 61 rfl rfl (by kernel_rfl) (by kernel_rfl) (by kernel_rfl) (fun _ _ _ h => h) (Or.inl ⟨rfl, fun w' hS => exec_ld1G 93 ag93 _ rfl b3 0 _ rfl (cell1 (boxIs_same HL2.out.o.bx3 hS.2)).1⟩) hH ?_
       simp only [Act.put, wrT]
       refine takeR (i := 2) (v := .pointer (some ⟨bt, off, none⟩)) 62 rfl rfl (by kernel_rfl) (by kernel_rfl) (by kernel_rfl) (fun _ _ _ h => h) (Or.inl ⟨rfl, fun w' hS => exec_nc (.tmp 61) rfl _ rfl⟩) hH ?_
       simp only [Act.put, wrT]
       refine takeR (i := 3) (v := .pointer (some ⟨bt, off + 19, none⟩)) 63 rfl rfl (by kernel_rfl) (by kernel_rfl) (by kernel_rfl) (fun _ _ _ h => h) (Or.inl ⟨rfl, fun w' hS => exec_fO (.tmp 62) 8 19 (by simp) rfl bt off rfl⟩) hH ?_
       simp only [Act.put, wrT]
       have HK : Hid (LpSt w w7.drew b2 b3 b4 it br bf bt off T n ⟨u.toArray⟩ (pos + 1) y) := HL2.out.below ⟨rfl, rfl, rfl, Nat.le_refl _, fun _ _ => rfl⟩
       refine oneH 4 (by kernel_rfl) (wpOp_call rfl rfl (exec_calls rfl (enters_of Tryz.func49 (by kernel_rfl) rfl) (vs := #[.pointer (some ⟨bf, 0, none⟩), .pointer (some ⟨bt, off + 19, none⟩)]) (by simp [Act.eval]) w7.drew) (stag_any br bf bt (off + 19) T y w7.drew HK.out.o.st (by rw [HK.out.o.len]; omega) HK.out.o.hbt HK.out.o.mx HK.out.o.hg) (fun e w1 hR => ?_))
       have HL3 := Lib.hid (HK.out.step hR (hsl 103))
       obtain ⟨rfl, hr1, ht1⟩ := hR
       refine ⟨_, rfl, ⟨boxes_eq HL2.out.o.bx2 HL3.out.o.bx2, boxes_eq HL2.out.o.bx3 HL3.out.o.bx3⟩, ?_⟩
       simp only [Act.put, rdT, wrT]
       refine wpAnyH_done (by kernel_rfl) ?_ _
       try simp only [Act.put, rdT, wrT]
       clear hr1 ht1 hH HK HL2
       go_wp2_with fail
       go_roundw
       case rel => exact ⟨pos + 1, _, by omega, HL3.out, HF2.out⟩
       case measure => rw [iterPos_at HL3.out.it_]; exact HM.out
     · have KC := Lib.hid (numbers1_any 120 bt off b4 W3 HL2.out.bx4)
       have KS := Lib.hid (stext_any br bf bt off b2 b3 T y W3 HL2.out.o.st HL2.out.o.bx2 HL2.out.o.bx3 (by rw [HLy.out]; exact hoff) HL2.out.o.hbt HL2.out.o.ne)
       go_wp2_with (first
         | (go_at_call 116; (refine KC.out.mono ?_); rintro e w7 ⟨rfl, rfl⟩)
         | (go_at_call 26; (refine KS.out.mono ?_); rintro e w8 hR; have HL3 := Lib.hid (HL2.out.step hR (hsl 120)); obtain ⟨rfl, _, _⟩ := hR))
       go_roundw
       case rel => exact ⟨pos + 1, _, by omega, HL3.out, HF2.out⟩
       case measure => rw [iterPos_at HL3.out.it_]; exact HM.out
   · obtain rfl : pos = u.length := by omega
     have hnx := fun ty => runS_end (P := Tryz.prog) wr it ⟨u.toArray⟩ u.length ty HL1.out.it_ (by rw [hus]; omega)
     have HY : Hid (y = sOrder off x) := by show _ = _; rw [HF1.out, List.take_of_length_le (Nat.le_refl _), HO.out]
     go_wp2_with fail
     refine bodyPost_end (results_none rfl _ _ _) rfl ?_
     exact ⟨rfl, by rw [← HY.out]; exact HL1.out.o.st, HL1.out.o.tn⟩
end Go.Proofs.YtbfefdedjcppaaaGreatDoor

/- request.prefix: the key whose bytes begin so. -/
namespace Go.Proofs.YtbfefdedjcppaaaGreatDoor
set_option maxRecDepth 100000
set_option maxHeartbeats 4000000
open Go.RowKit
def z25 : List UInt8 := List.replicate 25 0
def prefK (l : List UInt8) : List UInt8 := ovl z25 0 (l.take 25)
theorem prefK_len (l : List UInt8) : (prefK l).length = 25 := by
 unfold prefK ovl z25
 simp only [List.length_append, List.length_take, List.length_drop, List.length_replicate]
 omega
theorem sizKey : (Tryz.prog.info? 32).map (·.size) = some 25 := by kernel_rfl
theorem siz25A : (Tryz.prog.info? 108).map (·.size) = some 25 := by kernel_rfl
theorem ovl_next {a z : List UInt8} {i j : Nat} (hij : i ≤ j) (hj : j ≤ a.length) (hz : z.length = a.length) : ovl (a.take i ++ z.drop i) i ((a.drop i).take (j - i)) = a.take j ++ z.drop j := by
 unfold ovl
 have h1 : (a.take i).length = i := by rw [List.length_take]; omega
 have h2 : ((a.drop i).take (j - i)).length = j - i := by rw [List.length_take, List.length_drop]; omega
 rw [h2, List.take_append_of_le_length (by omega), List.take_take, Nat.min_self]
 have h3 : (a.take i ++ z.drop i).drop (i + (j - i)) = z.drop j := by
   rw [List.drop_append, List.drop_of_length_le (by omega), List.nil_append, List.drop_drop]
   congr 1; omega
 rw [h3]
 congr 1
 have := List.take_add (l := a) (i := i) (j := j - i)
 rw [show i + (j - i) = j by omega] at this
 rw [this]
def k3 (a b c : UInt8) : List UInt8 := a :: b :: c :: List.replicate 22 0
theorem k3_len (a b c : UInt8) : (k3 a b c).length = 25 := rfl
theorem k3_take (a b c : UInt8) (r : List UInt8) : k3 a b c = (a :: b :: c :: r).take 3 ++ z25.drop 3 := rfl
structure PfSt (w : World) (kb : Nat) (a k : List UInt8) (wx : World) : Prop where
 bel : Below w.heap.size w wx
 res : wx.heap[w.heap.size]? = some (.cells (bC z25) 32 (0, 0))
 all : wx.heap[w.heap.size + 1]? = some (.cells (bC a) 108 (0, 0))
 key : wx.heap[kb]? = some (.cells (bC k) 32 (0, 0))
 kbl : w.heap.size + 1 < kb
theorem PfSt.step {w wx : World} {kb : Nat} {a k : List UInt8} (h : PfSt w kb a k wx) (k' : List UInt8) : PfSt w kb a k' (wx.setRow kb (bC k')) :=
 have h5 := h.kbl
 ⟨setRow_below h.bel (by omega) _, by rw [setRow_other _ _ _ _ (by omega)]; exact h.res, by rw [setRow_other _ _ _ _ (by omega)]; exact h.all, setRow_at h.key, h5⟩
theorem PfSt.drew {w wx : World} {kb : Nat} {a k : List UInt8} (h : PfSt w kb a k wx) : PfSt w kb a k wx.drew := ⟨h.bel.drew, h.res, h.all, h.key, h.kbl⟩
theorem byte_src {w : World} {q : Option Addr} {l : List UInt8} {k : Nat} (h : SlAt byteC 1 w q l) (hp : 0 < (bC (l.take k)).toList.length) : ∃ ad, q = some ad ∧ ∀ (j : Nat) v, (bC (l.take k)).toList[j]? = some v → w.cell? (ad.add j) = some v := by
 have hl : 0 < l.length := by simp [bC] at hp; omega
 obtain ⟨b, o, rfl, _, _⟩ := h 0 hl
 refine ⟨_, rfl, fun j v hv => ?_⟩
 obtain ⟨hj, e⟩ := List.getElem?_eq_some_iff.1 hv
 have hj2 : j < l.length := by simp [bC] at hj; omega
 obtain ⟨b', o', e', _, hr⟩ := h j hj2
 simp only [Option.some.injEq, Addr.mk.injEq, and_true] at e'
 obtain ⟨rfl, rfl⟩ := e'
 have := hr 0 (.int .u8 ((l[j]).toNat : Int)) rfl
 rw [← e, Addr.add_mid]
 simpa [bC, Nat.mul_one] using this
theorem splice_bC (z l : List UInt8) (off : Nat) : splice (bC z).toList off (bC l).toList = (bC (ovl z off l)).toList := by
 unfold splice ovl bC
 simp [List.map_take, List.map_drop]
theorem prefix_any (q : Option Addr) (l : List UInt8) (n cap : Nat) (w : World) (hn : l.length = n) (hc : n ≤ cap) (hm : cap ≤ maxLen) (hq : SlAt byteC 1 w q l) :
   Calls Tryz.prog 30 #[.slice q n cap] w fun e w' => e = .returned (.tuple #[.agg (bC (prefK l)), .int .i64 (Nat.min n 25 : Nat)]) ∧ Below w.heap.size w w' := by
 have hz0 : ((w.alloc (.cells (bC z25) 32)).alloc (.cells (bC z25) 108)).heap[w.heap.size + 1]? = some (.cells (bC z25).toList.toArray 108 (0, 0)) := by rw [Array.toArray_toList]; exact heap_alloc2_new _ _ _
 have hz1 : ((w.alloc (.cells (bC z25) 32)).alloc (.cells (bC z25) 108)).heap[w.heap.size]? = some (.cells (bC z25) 32 (0, 0)) := heap_alloc2_old _ _ _
 have hb0 := below_alloc2 w (.cells (bC z25) 32) (.cells (bC z25) 108)
 have HQ := Lib.hid (hq.below hb0)
 go_enter Tryz.func30, Tryz.ntmps30
 go_upto_region 2 with fail
 rw [show (Obj.cells #[Value.int .u8 0, .int .u8 0, .int .u8 0, .int .u8 0, .int .u8 0, .int .u8 0, .int .u8 0, .int .u8 0, .int .u8 0, .int .u8 0, .int .u8 0, .int .u8 0, .int .u8 0, .int .u8 0, .int .u8 0, .int .u8 0, .int .u8 0, .int .u8 0, .int .u8 0, .int .u8 0, .int .u8 0, .int .u8 0, .int .u8 0, .int .u8 0, .int .u8 0] 32 (0, 0)) = .cells (bC z25) 32 (0, 0) from rfl, show (Obj.cells #[Value.int .u8 0, .int .u8 0, .int .u8 0, .int .u8 0, .int .u8 0, .int .u8 0, .int .u8 0, .int .u8 0, .int .u8 0, .int .u8 0, .int .u8 0, .int .u8 0, .int .u8 0, .int .u8 0, .int .u8 0, .int .u8 0, .int .u8 0, .int .u8 0, .int .u8 0, .int .u8 0, .int .u8 0, .int .u8 0, .int .u8 0, .int .u8 0, .int .u8 0] 108 (0, 0)) = .cells (bC z25) 108 (0, 0) from rfl]
 generalize (w.alloc (.cells (bC z25) 32)).alloc (.cells (bC z25) 108) = W1 at *
 have hmin : (bC (l.take 25)).toList.length = Nat.min n 25 := by simp [bC, hn]; rw [Nat.min_comm]
 go_upto_region 3 with ((refine wpList_copy_splice rfl (.tmp 7) (.tmp 8) 22 22 rfl 5 Tryz.underlying22 (by kernel_rfl) (some ⟨w.heap.size + 1, 0, none⟩) q 25 25 n cap rfl rfl (w.heap.size + 1) 0 (bC z25).toList 108 hz0 (bC (l.take 25)).toList hmin (fun hp => ⟨rfl, byte_src HQ.out hp⟩) (by simp [bC, z25]; omega) (fun v hv => (Array.all_eq_true_iff_forall_mem.1 (bC_one _)) v (by simpa using hv)) (w.heap.size + 1) W1 (Below.refl _ _) (Nat.le_refl _) ?_); intro W2 hx2 hb2)
 rw [splice_bC] at hx2
 have HA2 : Hid (W2.heap[w.heap.size + 1]? = some (.cells (bC (prefK l)) 108 (0, 0))) := by have := hx2.out; rwa [Array.toArray_toList] at this
 have HR2 : Hid (W2.heap[w.heap.size]? = some (.cells (bC z25) 32 (0, 0))) := (hb2.block _ (Nat.lt_succ_self _)).trans hz1
 have HB2 : Hid (Below w.heap.size w W2) := hb0.trans (hb2.mono (Nat.le_succ _))
 have H25 := Lib.hid (prefK_len l)
 clear hx2 hb2 hz0 hz1 hb0
 generalize hpk : prefK l = pk at *
 obtain ⟨x0, x1, x2, rest, HE⟩ : ∃ x0 x1 x2 rest, Hid (pk = x0 :: x1 :: x2 :: rest) := by
   have := H25.out
   match pk, this with
   | x0 :: x1 :: x2 :: rest, _ => exact ⟨x0, x1, x2, rest, rfl⟩
 have hc0 : W2.cell? ⟨w.heap.size + 1, 0, none⟩ = some (.int .u8 (x0.toNat : Int)) := by rw [cell_blk HA2.out, HE.out]; rfl
 have hc1 : W2.cell? ⟨w.heap.size + 1, 1, none⟩ = some (.int .u8 (x1.toNat : Int)) := by rw [cell_blk HA2.out, HE.out]; rfl
 have hc2 : W2.cell? ⟨w.heap.size + 1, 2, none⟩ = some (.int .u8 (x2.toNat : Int)) := by rw [cell_blk HA2.out, HE.out]; rfl
 have hbt : Tryz.prog.built 32 [(0, .int .u8 (x0.toNat : Int)), (1, .int .u8 (x1.toNat : Int)), (2, .int .u8 (x2.toNat : Int))] = some (bC (k3 x0 x1 x2)) := rfl
 have HZ : Hid ((bC (k3 x0 x1 x2)).size = 25) := by show _ = _; rw [bC_size, k3_len]
 have HK3 : Hid (k3 x0 x1 x2 = pk.take 3 ++ z25.drop 3) := by show _ = _; rw [HE.out]; exact k3_take _ _ _ _
 generalize k3 x0 x1 x2 = kk at *
 go_upto_region 4 with (first | ((with_reducible refine gate_bd 32 _ rfl ?_); refine wl_bd rfl _ [(0, .tmp 11), (1, .tmp 13), (2, .tmp 15)] rfl [(0, .int .u8 (x0.toNat : Int)), (1, .int .u8 (x1.toNat : Int)), (2, .int .u8 (x2.toNat : Int))] rfl (bC kk) hbt ?_) | ((with_reducible refine gate_st 32 _ _ rfl ?_); refine wl_strn rfl _ _ _ rfl (bC kk) #[Value.int IntKind.u8 0, Value.int IntKind.u8 0, Value.int IntKind.u8 0, Value.int IntKind.u8 0, Value.int IntKind.u8 0, Value.int IntKind.u8 0, Value.int IntKind.u8 0, Value.int IntKind.u8 0, Value.int IntKind.u8 0, Value.int IntKind.u8 0, Value.int IntKind.u8 0, Value.int IntKind.u8 0, Value.int IntKind.u8 0, Value.int IntKind.u8 0, Value.int IntKind.u8 0, Value.int IntKind.u8 0, Value.int IntKind.u8 0, Value.int IntKind.u8 0, Value.int IntKind.u8 0, Value.int IntKind.u8 0, Value.int IntKind.u8 0, Value.int IntKind.u8 0, Value.int IntKind.u8 0, Value.int IntKind.u8 0, Value.int IntKind.u8 0] _ (by rw [sizKey, HZ.out]) (by rw [HZ.out]; rfl) (bC_one _) (by simp [Act.eval]) rfl ?_))
 have HS0 : Hid (PfSt w W2.heap.size pk kk (W2.alloc (.cells (bC kk) 32))) := by
   have h1 := lt_heap HA2.out
   exact ⟨HB2.out.alloc HB2.out.size _, (heap_alloc_old _ _ (lt_heap HR2.out)).trans HR2.out, (heap_alloc_old _ _ h1).trans HA2.out, heap_alloc_new _ _, h1⟩
 rw [HK3.out] at HS0 ⊢
 clear hc0 hc1 hc2 hbt HZ HK3 HA2 HR2 HB2
 generalize (W2.alloc (.cells (bC (pk.take 3 ++ z25.drop 3)) 32)) = W3 at *
 generalize W2.heap.size = kb at *
 go_still_tail 3, (by kernel_rfl)
 refine cp_bytes (w := W3.drew) rfl (.tmp 18) (.tmp 19) rfl kb 3 12 12 (w.heap.size + 1) 3 12 22 rfl rfl (pk.take 3 ++ z25.drop 3) _ HS0.out.drew.key ((pk.drop 3).take 12) (by rw [List.length_take, List.length_drop, H25.out]; first | done | rfl) (by have := range_sub (range_whole (w := W3.drew) (g := w.heap.size + 1) (vs := (bC pk).toList) (by simpa using HS0.out.drew.all)) 3 12; rw [Nat.zero_add] at this; simpa [bC, List.map_take, List.map_drop] using this) (by rw [List.length_take, List.length_drop, H25.out, List.length_append, List.length_take, H25.out, List.length_drop]; first | done | simp [z25]) ?_
 have HS1 := Lib.hid (HS0.out.drew.step (ovl (pk.take 3 ++ z25.drop 3) 3 ((pk.drop 3).take 12)))
 have HO0 : Hid (ovl (pk.take 3 ++ z25.drop 3) 3 ((pk.drop 3).take 12) = pk.take 15 ++ z25.drop 15) := ovl_next (i := 3) (j := 15) (by omega) (by rw [H25.out]; omega) (by rw [H25.out]; rfl)
 rw [HO0.out] at HS1 ⊢
 generalize W3.drew.setRow kb (bC (pk.take 15 ++ z25.drop 15)) = W4 at *
 clear HS0 HO0
 go_wp2_with fail
 go_still_tail 4, (by kernel_rfl)
 refine cp_bytes (w := W4.drew) rfl (.tmp 23) (.tmp 24) rfl kb 15 3 3 (w.heap.size + 1) 15 3 10 rfl rfl (pk.take 15 ++ z25.drop 15) _ HS1.out.drew.key ((pk.drop 15).take 3) (by rw [List.length_take, List.length_drop, H25.out]; first | done | rfl) (by have := range_sub (range_whole (w := W4.drew) (g := w.heap.size + 1) (vs := (bC pk).toList) (by simpa using HS1.out.drew.all)) 15 3; rw [Nat.zero_add] at this; simpa [bC, List.map_take, List.map_drop] using this) (by rw [List.length_take, List.length_drop, H25.out, List.length_append, List.length_take, H25.out, List.length_drop]; first | done | simp [z25]) ?_
 have HS2 := Lib.hid (HS1.out.drew.step (ovl (pk.take 15 ++ z25.drop 15) 15 ((pk.drop 15).take 3)))
 have HO1 : Hid (ovl (pk.take 15 ++ z25.drop 15) 15 ((pk.drop 15).take 3) = pk.take 18 ++ z25.drop 18) := ovl_next (i := 15) (j := 18) (by omega) (by rw [H25.out]; omega) (by rw [H25.out]; rfl)
 rw [HO1.out] at HS2 ⊢
 generalize W4.drew.setRow kb (bC (pk.take 18 ++ z25.drop 18)) = W5 at *
 clear HS1 HO1
 go_wp2_with fail
 go_still_tail 4, (by kernel_rfl)
 refine cp_bytes (w := W5.drew) rfl (.tmp 28) (.tmp 29) rfl kb 18 4 4 (w.heap.size + 1) 18 4 7 rfl rfl (pk.take 18 ++ z25.drop 18) _ HS2.out.drew.key ((pk.drop 18).take 4) (by rw [List.length_take, List.length_drop, H25.out]; first | done | rfl) (by have := range_sub (range_whole (w := W5.drew) (g := w.heap.size + 1) (vs := (bC pk).toList) (by simpa using HS2.out.drew.all)) 18 4; rw [Nat.zero_add] at this; simpa [bC, List.map_take, List.map_drop] using this) (by rw [List.length_take, List.length_drop, H25.out, List.length_append, List.length_take, H25.out, List.length_drop]; first | done | simp [z25]) ?_
 have HS3 := Lib.hid (HS2.out.drew.step (ovl (pk.take 18 ++ z25.drop 18) 18 ((pk.drop 18).take 4)))
 have HO2 : Hid (ovl (pk.take 18 ++ z25.drop 18) 18 ((pk.drop 18).take 4) = pk.take 22 ++ z25.drop 22) := ovl_next (i := 18) (j := 22) (by omega) (by rw [H25.out]; omega) (by rw [H25.out]; rfl)
 rw [HO2.out] at HS3 ⊢
 generalize W5.drew.setRow kb (bC (pk.take 22 ++ z25.drop 22)) = W6 at *
 clear HS2 HO2
 go_wp2_with fail
 go_still_tail 4, (by kernel_rfl)
 refine cp_bytes (w := W6.drew) rfl (.tmp 33) (.tmp 34) rfl kb 22 3 3 (w.heap.size + 1) 22 3 3 rfl rfl (pk.take 22 ++ z25.drop 22) _ HS3.out.drew.key ((pk.drop 22).take 3) (by rw [List.length_take, List.length_drop, H25.out]; first | done | rfl) (by have := range_sub (range_whole (w := W6.drew) (g := w.heap.size + 1) (vs := (bC pk).toList) (by simpa using HS3.out.drew.all)) 22 3; rw [Nat.zero_add] at this; simpa [bC, List.map_take, List.map_drop] using this) (by rw [List.length_take, List.length_drop, H25.out, List.length_append, List.length_take, H25.out, List.length_drop]; first | done | simp [z25]) ?_
 have HS4 := Lib.hid (HS3.out.drew.step (ovl (pk.take 22 ++ z25.drop 22) 22 ((pk.drop 22).take 3)))
 have HO3 : Hid (ovl (pk.take 22 ++ z25.drop 22) 22 ((pk.drop 22).take 3) = pk.take 25 ++ z25.drop 25) := ovl_next (i := 22) (j := 25) (by omega) (by rw [H25.out]; omega) (by rw [H25.out]; rfl)
 rw [HO3.out] at HS4 ⊢
 generalize W6.drew.setRow kb (bC (pk.take 25 ++ z25.drop 25)) = W7 at *
 clear HS3 HO3
 have HE4 : Hid (pk.take 25 ++ z25.drop 25 = pk) := by show _ = _; rw [List.take_of_length_le (by rw [H25.out]; omega), List.drop_of_length_le (by simp [z25]), List.append_nil]
 rw [HE4.out] at HS4
 clear HE4
 go_wp2_with (first
   | ((with_reducible refine gate_ld 32 _ rfl ?_); refine wl_ldr rfl _ _ rfl kb 0 (bC pk).toList _ Tryz.underlying32 rfl (by rw [sizKey]; simp [bC, H25.out]) rfl (range_whole (by simpa using HS4.out.key)) ?_)
   | ((with_reducible refine gate_st 32 _ _ rfl ?_); refine wl_str rfl 32 _ _ rfl w.heap.size (bC pk) (bC z25) _ (by rw [sizKey, bC_size, H25.out]) (by rw [bC_size, bC_size, H25.out]; rfl) (bC_one _) rfl rfl HS4.out.res ?_))
 refine bodyPost_ret (res_rowc_tmp (P := Tryz.prog) (T := 32) (T' := 32) (t := 3) rfl _ _ w.heap.size (bC pk) (0, 0) rfl (setRow_at HS4.out.res) Tryz.underlying32 rfl (by rw [sizKey, bC_size, H25.out])) rfl ?_
 exact ⟨by rw [hpk]; rfl, setRow_below HS4.out.bel (Nat.le_refl _) _⟩
end Go.Proofs.YtbfefdedjcppaaaGreatDoor

/- request: size, uses, done; slices.Clone of bytes, wire.NewReader. -/
namespace Go.Proofs.YtbfefdedjcppaaaGreatDoor
set_option maxRecDepth 100000
set_option maxHeartbeats 4000000
open Go.RowKit
def sizeL : List Nat := [0, 1, 2, 3, 15, 25]
def sizeD (k : Nat) : Nat := sizeL.getD k 0
theorem sizeD_le (k : Nat) : sizeD k ≤ 25 := by
 unfold sizeD
 match k with
 | 0 | 1 | 2 | 3 | 4 | 5 => decide
 | k + 6 => exact Nat.zero_le _
theorem size_any (k : Nat) (hk : k ≤ 5) (w : World) : Calls Tryz.prog 28 #[.int .i64 (k : Int)] w fun e w' => e = .returned (.int .i64 (sizeD k : Nat)) ∧ w = w' := by
 have hx0 : ∀ W, (Instr.index 159 (.agg #[.int .i64 0, .int .i64 1, .int .i64 2, .int .i64 3, .int .i64 15, .int .i64 25]) (.int .i64 0)).run Tryz.prog W = .ok (.int .i64 0) W := fun _ => by kernel_rfl
 have hx1 : ∀ W, (Instr.index 159 (.agg #[.int .i64 0, .int .i64 1, .int .i64 2, .int .i64 3, .int .i64 15, .int .i64 25]) (.int .i64 1)).run Tryz.prog W = .ok (.int .i64 1) W := fun _ => by kernel_rfl
 have hx2 : ∀ W, (Instr.index 159 (.agg #[.int .i64 0, .int .i64 1, .int .i64 2, .int .i64 3, .int .i64 15, .int .i64 25]) (.int .i64 2)).run Tryz.prog W = .ok (.int .i64 2) W := fun _ => by kernel_rfl
 have hx3 : ∀ W, (Instr.index 159 (.agg #[.int .i64 0, .int .i64 1, .int .i64 2, .int .i64 3, .int .i64 15, .int .i64 25]) (.int .i64 3)).run Tryz.prog W = .ok (.int .i64 3) W := fun _ => by kernel_rfl
 have hx4 : ∀ W, (Instr.index 159 (.agg #[.int .i64 0, .int .i64 1, .int .i64 2, .int .i64 3, .int .i64 15, .int .i64 25]) (.int .i64 4)).run Tryz.prog W = .ok (.int .i64 15) W := fun _ => by kernel_rfl
 have hx5 : ∀ W, (Instr.index 159 (.agg #[.int .i64 0, .int .i64 1, .int .i64 2, .int .i64 3, .int .i64 15, .int .i64 25]) (.int .i64 5)).run Tryz.prog W = .ok (.int .i64 25) W := fun _ => by kernel_rfl
 obtain rfl | rfl | rfl | rfl | rfl | rfl : k = 0 ∨ k = 1 ∨ k = 2 ∨ k = 3 ∨ k = 4 ∨ k = 5 := by omega
 all_goals
   go_enter Tryz.func28, Tryz.ntmps28
   go_wp2_with fail
   go_ret
   exact ⟨rfl, rfl⟩
def usesV (k : Nat) : List UInt8 := if k = 1 then [111] else if k = 5 then [112] else if k = 6 then [110] else if k = 8 then [115] else if k = 9 then [115] else if k = 10 then [115, 111] else []
theorem usesV_any (k : Nat) (w : World) : Calls Tryz.prog 24 #[.int .i64 (k : Int)] w fun e w' => e = .returned (.string ⟨(usesV k).toArray⟩) ∧ w = w' := by
 by_cases h1 : k = 1
 · subst h1
   go_enter Tryz.func24, Tryz.ntmps24
   go_wp2_with fail
   go_ret
   exact ⟨rfl, rfl⟩
 by_cases h2 : k = 5
 · subst h2
   go_enter Tryz.func24, Tryz.ntmps24
   go_wp2_with fail
   go_ret
   exact ⟨rfl, rfl⟩
 by_cases h3 : k = 6
 · subst h3
   go_enter Tryz.func24, Tryz.ntmps24
   go_wp2_with fail
   go_ret
   exact ⟨rfl, rfl⟩
 by_cases h4 : k = 8
 · subst h4
   go_enter Tryz.func24, Tryz.ntmps24
   go_wp2_with fail
   go_ret
   exact ⟨rfl, rfl⟩
 by_cases h5 : k = 9
 · subst h5
   go_enter Tryz.func24, Tryz.ntmps24
   go_wp2_with fail
   go_ret
   exact ⟨rfl, rfl⟩
 by_cases h6 : k = 10
 · subst h6
   go_enter Tryz.func24, Tryz.ntmps24
   go_wp2_with fail
   go_ret
   exact ⟨rfl, rfl⟩
 have HE : Hid (usesV k = []) := by show _ = _; unfold usesV; rw [if_neg h1, if_neg h2, if_neg h3, if_neg h4, if_neg h5, if_neg h6]
 have e1 : ((k : Int) == 1) = false := by simp; omega
 have e2 : ((k : Int) == 5) = false := by simp; omega
 have e3 : ((k : Int) == 6) = false := by simp; omega
 have e4 : ((k : Int) == 8) = false := by simp; omega
 have e5 : ((k : Int) == 9) = false := by simp; omega
 have e6 : ((k : Int) == 10) = false := by simp; omega
 clear h1 h2 h3 h4 h5 h6
 go_enter Tryz.func24, Tryz.ntmps24
 go_wp2_with fail
 go_ret
 exact ⟨by rw [HE.out]; rfl, rfl⟩
theorem fdone_any (br bf : Nat) (l : List UInt8) (er ef : Nat) (w : World) (h : FAt w br bf l er ef) (hok : ef = 0 → er = 0) :
   Calls Tryz.prog 31 #[.pointer (some ⟨bf, 0, none⟩)] w fun e w' => e = .returned (.int .i64 ((if ef = 0 ∧ l ≠ [] then 3 else ef : Nat) : Int)) ∧ w = w' := by
 obtain ⟨hc0, hc1, hf0, hf1⟩ := cell2 h.at_
 have KD := Lib.hid (done_any (br + 1) br l er w h.rd)
 clear h
 by_cases he : ef = 0
 · subst he
   obtain rfl := hok rfl
   obtain ⟨v, hv⟩ : ∃ v, Hid ((if 0 = 0 ∧ l ≠ [] then 3 else 0 : Nat) = v) := ⟨_, Lib.hid rfl⟩
   rw [hv.out] at KD ⊢
   clear hok
   go_enter Tryz.func31, Tryz.ntmps31
   go_wp2_with (go_at_call 78; (refine KD.out.mono ?_); rintro e w2 ⟨rfl, rfl⟩)
   go_ret
   exact ⟨rfl, rfl⟩
 · have he' : ((ef : Int) == 0) = false := by simpa using he
   rw [if_neg (fun h => he h.1)]
   clear hok he KD
   go_enter Tryz.func31, Tryz.ntmps31
   go_wp2_with fail
   go_ret
   exact ⟨rfl, rfl⟩
theorem slat_nilB {w : World} {l : List UInt8} (h : SlAt byteC 1 w none l) : l = [] := by
 cases l with
 | nil => rfl
 | cons a r => obtain ⟨_, _, h1, _⟩ := h 0 (by simp); cases h1
theorem cloneB_any (q : Option Addr) (n c : Nat) (xs : List UInt8) (w : World) (hn : xs.length = n) (hq : SlAt byteC 1 w q xs) (hq0 : q = none → n = 0 ∧ c = 0) (hsz : n ≤ 1000000) :
   Calls Tryz.prog 69 #[.slice q n c] w fun e w' => ∃ v', e = .returned v' ∧ OwnE byteC 5 1 w' w.heap.size v' xs ∧ Below w.heap.size w w' := by
 have hql : ∀ (w : World) (a : Option Addr) (n c n' c' : Nat), (binOp .eql 22 (.slice a n c) (.slice none n' c')).run Tryz.prog w = .ok (.bool a.isNone) w := fun w a n c n' c' => Lib.run_eql_slice_nil w _ _ a n c n' c' Tryz.underlying22
 cases q with
 | none =>
   obtain rfl := slat_nilB hq
   obtain ⟨rfl, rfl⟩ := hq0 rfl
   go_enter Tryz.func69, Tryz.ntmps69
   go_wp2_with fail
   go_ret
   exact ⟨_, rfl, OwnE.nil _ _, Below.refl _ _⟩
 | some ad =>
   have HN := Lib.hid hn
   have HQ : Hid (SlAt byteC 1 w (some ad) xs) := hq
   have HZ := Lib.hid hsz
   clear hn hq hq0 hsz
   go_enter Tryz.func69, Tryz.ntmps69
   go_wp2_with (at_builtin; refine wl_appO rfl 22 5 1 (.int .u8 0) Tryz.underlying22 infoU8 rfl (by omega) byteC_len byteC_one (.tmp 5) (.tmp 6) rfl w.heap.size (.slice (some ⟨w.heap.size, 0, none⟩) 0 0) [] rfl (World.ownsRow_made w #[] 0 (Nat.le_refl _) (by unfold maxLen; omega) (by simp)) (some ad) n c xs rfl HN.out (HQ.out.below (below_alloc1 _ _)) (fun e => by cases e) (by have := HZ.out; simp; omega) (by have := HZ.out; unfold maxLen; simp; omega) (by simp) (fun v' w' hv hg _ => ?_); have HV := Lib.hid hv; have HG := Lib.hid hg; clear hv hg)
   go_ret
   exact ⟨_, rfl, HV.out, (below_alloc1 w _).trans (grown_below HG.out (fun g hg => by cases hg; exact Nat.le_refl _) (by simp))⟩
theorem newReader_any (q : Option Addr) (n c : Nat) (xs : List UInt8) (w : World) (hn : xs.length = n) (hq : SlAt byteC 1 w q xs) (hq0 : q = none → n = 0 ∧ c = 0) (hsz : n ≤ 1000000) :
   Calls Tryz.prog 22 #[.slice q n c] w fun e w' => ∃ br, e = .returned (.pointer (some ⟨br, 0, none⟩)) ∧ RdAt w' (br + 1) br xs 0 ∧ Below w.heap.size w w' ∧ w.heap.size ≤ br := by
 have KC := Lib.hid (cloneB_any q n c xs w hn hq hq0 hsz)
 clear hn hq hq0 hsz
 go_enter Tryz.func22, Tryz.ntmps22
 go_wp2_with (go_at_call 69; (refine KC.out.mono ?_); rintro e w2 ⟨v', rfl, hv, hb⟩; obtain ⟨q', c', rfl, hl, hm, hs, ha⟩ := hv.at byteC_len; have HB := Lib.hid hb; have HS := Lib.hid hs; have HA := Lib.hid ha; clear hv hb hs ha)
 go_ret
 refine ⟨w2.heap.size, rfl, ⟨Nat.lt_succ_self _, by simp, q', xs.length, c', heap_alloc_new _ _, rfl, hl, hm, HS.out.below (below_alloc1 _ _), fun a e => ?_⟩, HB.out.alloc HB.out.size _, HB.out.size⟩
 have := (HA.out a e).2
 omega
end Go.Proofs.YtbfefdedjcppaaaGreatDoor

/- request.Read's closure: a prefix's bytes. -/
namespace Go.Proofs.YtbfefdedjcppaaaGreatDoor
set_option maxRecDepth 100000
set_option maxHeartbeats 8000000
open Go.RowKit
def endE (l : List UInt8) (k : Nat) : Nat := if k ≤ l.length then 0 else 4
def gotB (l : List UInt8) (k : Nat) : List UInt8 := l.take k ++ List.replicate (k - l.length) 0
theorem gotB_zero (l : List UInt8) : gotB l 0 = [] := by unfold gotB; simp
theorem gotB_len (l : List UInt8) (k : Nat) : (gotB l k).length = k := by unfold gotB; simp; omega
theorem gotB_step (l : List UInt8) (k : Nat) : gotB l (k + 1) = gotB l k ++ [l.getD k 0] := by
 unfold gotB
 by_cases h : k < l.length
 · rw [show k + 1 - l.length = 0 by omega, show k - l.length = 0 by omega, List.take_succ_eq_append_getElem h, List.getD_eq_getElem?_getD, List.getElem?_eq_getElem h]
   simp
 · rw [List.take_of_length_le (by omega), List.take_of_length_le (by omega), show k + 1 - l.length = (k - l.length) + 1 by omega, List.replicate_succ', List.getD_eq_getElem?_getD, List.getElem?_eq_none (by omega)]
   simp
theorem byteAt_any (B br : Nat) (l : List UInt8) (k : Nat) (w : World) (h : RdAt w B br (l.drop k) (endE l k)) :
   Calls Tryz.prog 29 #[.pointer (some ⟨br, 0, none⟩)] w fun e w' => e = .returned (.int .u8 ((l.getD k 0).toNat : Int)) ∧ RdAt w' B br (l.drop (k + 1)) (endE l (k + 1)) ∧ Turn [br] w w' := by
 by_cases hk : k ≤ l.length
 · have he : endE l k = 0 := if_pos hk
   rw [he] at h
   refine (byte_any B br (l.drop k) w h).mono fun e w' ⟨h1, h2, h3⟩ => ?_
   by_cases hl : k < l.length
   · have hd : l.drop k = l[k] :: l.drop (k + 1) := List.drop_eq_getElem_cons hl
     rw [hd] at h1 h2
     refine ⟨?_, ?_, h3⟩
     · rw [h1, List.getD_eq_getElem?_getD, List.getElem?_eq_getElem hl]; rfl
     · rw [show endE l (k + 1) = 0 from if_pos (by omega)]; exact h2
   · have hd : l.drop k = [] := List.drop_of_length_le (by omega)
     rw [hd] at h1 h2
     refine ⟨?_, ?_, h3⟩
     · rw [h1, List.getD_eq_getElem?_getD, List.getElem?_eq_none (by omega)]; rfl
     · rw [show endE l (k + 1) = 4 from if_neg (by omega), List.drop_of_length_le (by omega)]; exact h2
 · have he : endE l k = 4 := if_neg hk
   rw [he] at h
   refine (byte_bad B br (l.drop k) 4 w h (by decide)).mono fun e w' ⟨h1, h2⟩ => ⟨?_, ?_, Turn.of_below h2⟩
   · rw [h1, List.getD_eq_getElem?_getD, List.getElem?_eq_none (by omega)]; rfl
   · rw [show endE l (k + 1) = 4 from if_neg (by omega), show l.drop (k + 1) = l.drop k by rw [List.drop_of_length_le (by omega), List.drop_of_length_le (by omega)]]
     exact h.below (h2.mono h.le)
structure RpSt (w W : World) (br bf bt b4 : Nat) (cs : List Value) (T : TypeId) (l : List UInt8) (k : Nat) (v : Value) : Prop where
 rd : RdAt W (br + 1) br (l.drop k) (endE l k)
 f_ : W.heap[bf]? = some (.cells #[.pointer (some ⟨br, 0, none⟩), .int .i64 ((0 : Nat) : Int)] 88 (0, 0))
 q_ : W.heap[bt]? = some (.cells cs.toArray T (0, 0))
 b_ : BoxIs W b4 (.pointer (some ⟨bf, 0, none⟩)) 84
 tn : Turn [br] w W
 own : OwnE byteC 5 1 W w.heap.size v (gotB l k)
 ne : br < bf ∧ br < bt ∧ br < b4 ∧ bf < w.heap.size ∧ bt < w.heap.size ∧ b4 < w.heap.size
theorem RpSt.byte {w W w' : World} {br bf bt b4 k : Nat} {cs : List Value} {T : TypeId} {l : List UInt8} {v : Value} (h : RpSt w W br bf bt b4 cs T l k v) (hr : RdAt w' (br + 1) br (l.drop (k + 1)) (endE l (k + 1))) (ht : Turn [br] W w') : OwnE byteC 5 1 w' w.heap.size v (gotB l k) ∧ w'.heap[bf]? = some (.cells #[.pointer (some ⟨br, 0, none⟩), .int .i64 ((0 : Nat) : Int)] 88 (0, 0)) ∧ w'.heap[bt]? = some (.cells cs.toArray T (0, 0)) ∧ BoxIs w' b4 (.pointer (some ⟨bf, 0, none⟩)) 84 ∧ Turn [br] w w' := by
 have hk : ∀ x, x < W.heap.size → x ≠ br → w'.heap[x]? = W.heap[x]? := fun x hx a => ht.block x hx (by simpa using a)
 have hn := h.ne
 refine ⟨h.own.block fun g hg => ?_, (hk _ (lt_heap h.f_) (by omega)).trans h.f_, (hk _ (lt_heap h.q_) (by omega)).trans h.q_, (hk _ (lt_heap h.b_) (by omega)).trans h.b_, h.tn.trans ht⟩
 have := h.own.lt g hg
 exact hk g this.2 (by omega)
theorem Turn.then_below {S : List Nat} {w W w' : World} (h : Turn S w W) (hb : Below w.heap.size W w') : Turn S w w' :=
 ⟨hb.os.trans h.os, hb.tape.trans h.tape, hb.output.trans h.output, Nat.le_trans h.size hb.size, fun k hk hn => (hb.block k hk).trans (h.block k hk hn)⟩
theorem rprefix1_any (br bf bt b4 d : Nat) (cs : List Value) (T : TypeId) (l : List UInt8) (w : World) (h : FAt w br bf l 0 0)
   (hb : BoxIs w b4 (.pointer (some ⟨bf, 0, none⟩)) 84) (ht : w.heap[bt]? = some (.cells cs.toArray T (0, 0))) (hlen : cs.length = 59) (hd : cs[58]? = some (.int .i64 (d : Int))) (hd5 : d ≤ 5) (hbt : br < bt ∧ bt ≠ bf) (hb4 : br < b4) :
   Calls Tryz.prog 27 #[.pointer (some ⟨bt, 0, none⟩), .pointer (some ⟨b4, 0, none⟩)] w
     (Reads br bf [br, bf, bt] (l.drop (sizeD d)) (endE l (sizeD d)) 0 (fun w' => w'.heap[bt]? = some (.cells (RowIn cs 33 (bC (prefK (gotB l (sizeD d)))).toList).toArray T (0, 0))) w) := by
 have HN : Hid (br < bf ∧ br < bt ∧ br < b4 ∧ bf < w.heap.size ∧ bt < w.heap.size ∧ b4 < w.heap.size) := ⟨h.lt, hbt.1, hb4, lt_heap h.at_, lt_heap ht, lt_heap hb⟩
 have HS0 : Hid (RpSt w w br bf bt b4 cs T l 0 (.slice none 0 0)) := ⟨by rw [List.drop_zero]; exact h.rd, h.at_, ht, hb, Turn.refl _ _, by rw [gotB_zero]; exact OwnE.nil _ _, HN.out⟩
 have KS := Lib.hid (size_any d hd5 w)
 have hc58 : w.cell? ⟨bt, 58, none⟩ = some (.int .i64 (d : Int)) := by rw [cell_blk ht, List.getElem?_toArray]; exact hd
 have hle := sizeD_le d
 have HL := Lib.hid hlen
 have HBT := Lib.hid hbt
 clear h hb ht hd hd5 hb4 hbt hlen
 generalize sizeD d = n at *
 go_enter Tryz.func27, Tryz.ntmps27
 go_wp2_with (go_at_call 28; (refine KS.out.mono ?_); rintro e w1 ⟨rfl, rfl⟩)
 clear hc58 KS
 go_loopw [3, 8] (fun v i wr => ∃ k : Nat, k ≤ n ∧ i = .int .i64 (k : Int) ∧ Hid (RpSt w wr br bf bt b4 cs T l k v)) (fun _ i _ => n - (intOf i).toNat)
 case atStart => exact ⟨0, Nat.zero_le _, rfl, HS0.out⟩
 case round =>
   obtain ⟨k, hk, rfl, HS1⟩ := hrel
   clear HS0
   by_cases hlt : k < n
   · have hlt' : (k : Int) < (n : Int) := by omega
     have hbx := (cell1 HS1.out.b_).1
     have hbf := (cell2 HS1.out.f_).1
     have KB := Lib.hid (byteAt_any (br + 1) br l k wr HS1.out.rd)
     generalize hx : l.getD k 0 = x at *
     go_upto_region 5 with (first
       | (go_at_call 29; (refine KB.out.mono ?_); rintro e w2 ⟨rfl, hr2, ht2⟩; have HB2 := Lib.hid (HS1.out.byte hr2 ht2); have HR2 := Lib.hid hr2; clear hr2 ht2)
       | (at_builtin; (refine wl_app1 22 5 1 (.int .u8 0) Tryz.underlying22 infoU8 rfl (by omega) byteC_len byteC_one rfl (.tmp 10) (.tmp 16) rfl w.heap.size _ (gotB l k) rfl (HB2.out.1.below (below_alloc1 _ _)) w2.heap.size 1 x rfl (range_whole (heap_alloc_new _ _)) (by rw [gotB_len]; omega) (by rw [gotB_len]; unfold maxLen; omega) (by have := HB2.out.2.2.2.2.size; simp; omega) ?_); intro v' w3 hv3 hg3; have HV3 := Lib.hid hv3; have HG3 := Lib.hid hg3; clear hv3 hg3))
     go_wp2_with fail
     have HB3 : Hid (Below w.heap.size w2 w3) := by
       have h1 := HB2.out.2.2.2.2.size
       refine ((below_alloc1 w2 _).mono h1).trans (grown_below HG3.out (fun g hg => (HB2.out.1.lt g hg).1) (by simp; omega))
     have HS3 : Hid (RpSt w w3 br bf bt b4 cs T l (k + 1) v') := by
       obtain ⟨g1, g2, g3, g4, g5⟩ := HB2.out
       have hn := HN.out
       exact ⟨HR2.out.below (HB3.out.mono (by omega)), (HB3.out.block _ hn.2.2.2.1).trans g2, (HB3.out.block _ hn.2.2.2.2.1).trans g3, (HB3.out.block _ hn.2.2.2.2.2).trans g4, g5.then_below HB3.out, by rw [gotB_step, hx]; exact HV3.out, hn⟩
     go_roundw
     case rel => exact ⟨k + 1, by omega, by simp, HS3.out⟩
     case measure => simp [intOf]; omega
   · obtain rfl : n = k := by omega
     have hlt' : ¬ (n : Int) < (n : Int) := by omega
     obtain ⟨q, cap, rfl, hl, hm, hs, _⟩ := HS1.out.own.at byteC_len
     have KP := Lib.hid (prefix_any q (gotB l n) _ cap wr rfl hl hm hs)
     have hkl := prefK_len (gotB l n)
     clear hl hm hs
     generalize hpk : prefK (gotB l n) = pk at *
     go_wp2_with (first
       | (go_at_call 30; (refine KP.out.mono ?_); rintro e w2 ⟨rfl, hb2⟩; have HB2 := Lib.hid hb2; have hq2 := (hb2.block _ (lt_heap HS1.out.q_)).trans HS1.out.q_; clear hb2)
       | ((with_reducible refine gate_st 32 _ _ rfl ?_); refine wl_stR rfl _ _ _ rfl bt 33 (bC pk).toList (by rw [sizKey]; simp [bC, hkl]) rfl (by rw [Array.toArray_toList]; rfl) (fun v hv => (Array.all_eq_true_iff_forall_mem.1 (bC_one pk)) v (by simpa using hv)) cs T hq2 (by simp [bC, hkl]; have := HL.out; omega) ?_; intro w5 hw5 ht5; have HW5 := Lib.hid hw5; have HT5 := Lib.hid ht5; clear hw5 ht5))
     go_ret
     have hB := HB2.out
     refine ⟨rfl, ⟨(HS1.out.rd.below (hB.mono HS1.out.rd.le)).below (HT5.out.below (fun k hk => by rw [List.mem_singleton] at hk; rw [hk]; have := HBT.out.1; omega) (Nat.le_trans HS1.out.rd.le hB.size)), HN.out.1, (HT5.out.block _ (Nat.lt_of_lt_of_le (lt_heap HS1.out.f_) hB.size) (by have := HBT.out.2; simpa using Ne.symm this)).trans ((hB.block _ (lt_heap HS1.out.f_)).trans HS1.out.f_)⟩, ?_, by show w5.heap[bt]? = _; rw [hpk]; exact HW5.out⟩
     exact ((HS1.out.tn.mono (fun k _ hk => by rw [List.mem_singleton] at hk; rw [hk]; simp)).trans (Turn.of_below hB)).trans (HT5.out.mono (fun k _ hk => by rw [List.mem_singleton] at hk; rw [hk]; simp))
end Go.Proofs.YtbfefdedjcppaaaGreatDoor

/- request.Read: what each letter of a verb makes of the fields. -/
namespace Go.Proofs.YtbfefdedjcppaaaGreatDoor
open Go.RowKit
theorem rowIn_other {cs r : List Value} {off i : Nat} (h : off + r.length ≤ cs.length) (hi : i < off ∨ off + r.length ≤ i) : (RowIn cs off r)[i]? = cs[i]? := by
 rcases hi with hi | hi
 · exact rowIn_before h hi
 · unfold RowIn
   have hl : (cs.take off).length = off := by rw [List.length_take]; omega
   rw [List.getElem?_append_right (by rw [List.length_append, hl]; exact hi), List.length_append, hl, List.getElem?_drop]
   congr 1; omega
theorem sNum_other {off lo hi ee i : Nat} {x : FS} (h : off + 1 ≤ x.cs.length) (hne : i ≠ off) : (sNum off lo hi ee x).cs[i]? = x.cs[i]? := by
 unfold sNum; split
 · exact rowIn_other (by simpa using h) (by simp; omega)
 · rfl
theorem sTag_other {off i : Nat} {x : FS} (h : off + 10 ≤ x.cs.length) (hne : i < off ∨ off + 10 ≤ i) : (sTag off x).cs[i]? = x.cs[i]? := by
 unfold sTag; split
 · simp only; split
   · exact rowIn_other (by simpa [bC, tagR_len] using h) (by simpa [bC, tagR_len] using hne)
   · rfl
 · rfl
theorem sName_other {off i : Nat} {x : FS} (h : off + 12 ≤ x.cs.length) (hne : i < off ∨ off + 12 ≤ i) : (sName off x).cs[i]? = x.cs[i]? := by
 unfold sName; split
 · exact rowIn_other (by simpa [bC, parseN_length] using h) (by simpa [bC, parseN_length] using hne)
 · rfl
theorem sText_other {off i : Nat} {x : FS} (h : off + 1 ≤ x.cs.length) (hne : i ≠ off) : (sText off x).cs[i]? = x.cs[i]? := by
 unfold sText; split
 · exact rowIn_other (by simpa using h) (by simp; omega)
 · rfl
theorem stepO_other {off i : Nat} {x : FS} (c : UInt8) (h : off + 30 ≤ x.cs.length) (hne : i < off + 3 ∨ off + 30 ≤ i) : (stepO off x c).cs[i]? = x.cs[i]? := by
 unfold stepO
 split; · exact sNum_other (by omega) (by omega)
 split; · exact sNum_other (by omega) (by omega)
 split; · exact sNum_other (by omega) (by omega)
 split; · exact sNum_other (by omega) (by omega)
 split; · exact sName_other (by omega) (by omega)
 split; · exact sTag_other (by omega) (by omega)
 exact sText_other (by omega) (by omega)
theorem foldO_len {off : Nat} (u : List UInt8) : ∀ {x : FS}, off + 30 ≤ x.cs.length → (u.foldl (stepO off) x).cs.length = x.cs.length := by
 induction u with
 | nil => intro x _; rfl
 | cons c u ih => intro x h; rw [List.foldl_cons, ih (by rw [stepO_len c h]; exact h), stepO_len c h]
theorem foldO_other {off i : Nat} (u : List UInt8) (hne : i < off + 3 ∨ off + 30 ≤ i) : ∀ {x : FS}, off + 30 ≤ x.cs.length → (u.foldl (stepO off) x).cs[i]? = x.cs[i]? := by
 induction u with
 | nil => intro x _; rfl
 | cons c u ih => intro x h; rw [List.foldl_cons, ih (by rw [stepO_len c h]; exact h), stepO_other c h hne]
theorem head3_other {off i : Nat} {x : FS} (h : off + 30 ≤ x.cs.length) (hne : i < off ∨ off + 3 ≤ i) : (head3 off x).cs[i]? = x.cs[i]? := by
 have h1 : (sNum off 1 16 16 x).cs.length = x.cs.length := sNum_len (by omega)
 have h2 : (sNum (off + 1) 0 15 5 (sNum off 1 16 16 x)).cs.length = x.cs.length := by rw [sNum_len (by omega), h1]
 unfold head3
 rw [sNum_other (by omega) (by omega), sNum_other (by omega) (by omega), sNum_other (by omega) (by omega)]
theorem sOrder_len {off : Nat} {x : FS} (h : off + 30 ≤ x.cs.length) : (sOrder off x).cs.length = x.cs.length := by
 unfold sOrder; rw [foldO_len _ (by rw [head3_len h]; exact h), head3_len h]
theorem sOrder_other {off i : Nat} {x : FS} (h : off + 30 ≤ x.cs.length) (hne : i < off ∨ off + 30 ≤ i) : (sOrder off x).cs[i]? = x.cs[i]? := by
 unfold sOrder; rw [foldO_other _ (by omega) (by rw [head3_len h]; exact h), head3_other h (by omega)]
theorem sOrder_kind {off k0 : Nat} {x : FS} (h : off + 30 ≤ x.cs.length) (hk : x.cs[off]? = some (.int .i64 (k0 : Int))) : ∃ k : Nat, (sOrder off x).cs[off]? = some (.int .i64 (k : Int)) := by
 refine ⟨_, (?_ : _ = _).trans (head3_kind h hk)⟩
 unfold sOrder; rw [foldO_other _ (by omega) (by rw [head3_len h]; exact h)]
theorem sNum_cell {off lo hi ee d : Nat} {x : FS} (h : off + 1 ≤ x.cs.length) (hd : x.cs[off]? = some (.int .i64 (d : Int))) : ∃ k : Nat, (sNum off lo hi ee x).cs[off]? = some (.int .i64 (k : Int)) ∧ ((sNum off lo hi ee x).ef = 0 → ee ≠ 0 → k ≤ hi) := by
 unfold sNum; split
 · refine ⟨byteV x.l, ?_, fun h0 he => ?_⟩
   · have := rowIn_cell (cs := x.cs) (r := [Value.int .i64 (byteV x.l : Nat)]) (off := off) (i := 0) (by simpa using h) (by simp)
     rw [Nat.add_zero] at this
     exact this
   · simp only at h0
     split at h0
     · split at h0
       · exact absurd h0 he
       · omega
     · omega
 · exact ⟨d, hd, fun h0 => by contradiction⟩
def sPre (x : FS) : FS := if x.ef = 0 then ⟨RowIn x.cs 33 (bC (prefK (gotB x.l (sizeD (intN x.cs[58]?))))).toList, x.l.drop (sizeD (intN x.cs[58]?)), endE x.l (sizeD (intN x.cs[58]?)), endE x.l (sizeD (intN x.cs[58]?))⟩ else x
theorem sPre_len {x : FS} (h : x.cs.length = 59) : (sPre x).cs.length = 59 := by
 unfold sPre; split
 · rw [rowIn_len (by simp [bC, prefK_len, h]), h]
 · exact h
theorem sPre_other {x : FS} {i : Nat} (h : x.cs.length = 59) (hi : i < 33 ∨ 58 ≤ i) : (sPre x).cs[i]? = x.cs[i]? := by
 unfold sPre; split
 · exact rowIn_other (by simp [bC, prefK_len, h]) (by simpa [bC, prefK_len] using hi)
 · rfl
def stepR (x : FS) (c : UInt8) : FS := if c = 111 then sOrder 3 x else if c = 110 then sNum 2 0 63 5 x else if c = 115 then sNum 1 0 1 5 x else sPre (sNum 58 0 5 5 x)
structure OkR (x : FS) : Prop where
 len : x.cs.length = 59
 kind : ∃ k : Nat, x.cs[3]? = some (.int .i64 (k : Int))
 depth : ∃ k : Nat, x.cs[58]? = some (.int .i64 (k : Int))
theorem OkR.num {x : FS} (h : OkR x) {off lo hi ee : Nat} (h1 : off < 59) : OkR (sNum off lo hi ee x) := by
 obtain ⟨h0, ⟨k, hk⟩, d, hd⟩ := h
 refine ⟨(sNum_len (by omega)).trans h0, ?_, ?_⟩
 · by_cases e : off = 3
   · subst e; exact (sNum_cell (by omega) hk).imp fun _ h => h.1
   · exact ⟨k, (sNum_other (by omega) (by omega)).trans hk⟩
 · by_cases e : off = 58
   · subst e; exact (sNum_cell (by omega) hd).imp fun _ h => h.1
   · exact ⟨d, (sNum_other (by omega) (by omega)).trans hd⟩
theorem OkR.order {x : FS} (h : OkR x) : OkR (sOrder 3 x) := by
 obtain ⟨h0, ⟨k, hk⟩, d, hd⟩ := h
 exact ⟨(sOrder_len (by omega)).trans h0, sOrder_kind (by omega) hk, d, (sOrder_other (by omega) (by omega)).trans hd⟩
theorem OkR.pre {x : FS} (h : OkR x) : OkR (sPre x) :=
 ⟨sPre_len h.len, h.kind.imp fun _ e => (sPre_other h.len (by omega)).trans e, h.depth.imp fun _ e => (sPre_other h.len (by omega)).trans e⟩
theorem OkR.step {x : FS} (h : OkR x) (c : UInt8) : OkR (stepR x c) := by
 unfold stepR
 split; · exact h.order
 split; · exact h.num (by omega)
 split; · exact h.num (by omega)
 exact (h.num (by omega)).pre
theorem spre_any (br bf bt b4 : Nat) (T : TypeId) (x : FS) (w : World) (h : StF w br bf bt T x) (hb : BoxIs w b4 (.pointer (some ⟨bf, 0, none⟩)) 84) (hok : OkR x) (hd : ∀ d : Nat, x.cs[58]? = some (.int .i64 (d : Int)) → x.ef = 0 → d ≤ 5) (hbt : br < bt ∧ bt ≠ bf) (hb4 : br < b4) :
   Calls Tryz.prog 26 #[.pointer (some ⟨bf, 0, none⟩), .func (.func 27) #[] #[.pointer (some ⟨bt, 0, none⟩), .pointer (some ⟨b4, 0, none⟩)]] w (Stepped br bf bt T (sPre x) w) := by
 obtain ⟨d, hd1⟩ := hok.depth
 have hd2 := hd d hd1
 unfold sPre
 have hi : intN x.cs[58]? = d := by rw [hd1]; rfl
 rw [hi]
 by_cases he : x.ef = 0
 · rw [if_pos he]
   have hf := h.fa
   rw [he, h.ok he] at hf
   refine (ftake_any 27 #[.pointer (some ⟨bt, 0, none⟩), .pointer (some ⟨b4, 0, none⟩)] (enters_of Tryz.func27 (by kernel_rfl) rfl) br bf x.l _ _ _ [br, bf, bt] _ w hf (by simp)
     (fun W v hW => by rw [heap_setCell_other _ hbt.2]; exact hW) (rprefix1_any br bf bt b4 d x.cs T x.l w hf hb h.at_ hok.len hd1 (hd2 he) hbt hb4)).mono fun e w' ⟨h1, h2, h3, h4⟩ => ⟨h1, ⟨?_, h4, fun h0 => h0⟩, h3⟩
   rwa [show (if endE x.l (sizeD d) = 0 then 0 else endE x.l (sizeD d)) = endE x.l (sizeD d) by split <;> omega] at h2
 · rw [if_neg he]
   exact (ftake_bad _ br bf x.l x.er x.ef w h.fa he).mono fun e w' ⟨h1, h2⟩ => by subst h2; exact ⟨h1, h, Turn.refl _ _⟩
def OneC (x : FS) : Prop := ∀ v ∈ x.cs, v.oneCell' = true
theorem rowIn_one {cs r : List Value} {off : Nat} (h : ∀ v ∈ cs, v.oneCell' = true) (hr : ∀ v ∈ r, v.oneCell' = true) : ∀ v ∈ RowIn cs off r, v.oneCell' = true := by
 intro v hv
 unfold RowIn at hv
 rw [List.mem_append, List.mem_append] at hv
 rcases hv with (h1 | h1) | h1
 · exact h v (List.mem_of_mem_take h1)
 · exact hr v h1
 · exact h v (List.mem_of_mem_drop h1)
theorem bC_oneL (l : List UInt8) : ∀ v ∈ (bC l).toList, v.oneCell' = true := fun v hv => (Array.all_eq_true_iff_forall_mem.1 (bC_one l)) v (by simpa using hv)
theorem sNum_one {off lo hi ee : Nat} {x : FS} (h : OneC x) : OneC (sNum off lo hi ee x) := by
 unfold sNum; split
 · exact rowIn_one h (fun v hv => by rw [List.mem_singleton] at hv; subst hv; rfl)
 · exact h
theorem sTag_one {off : Nat} {x : FS} (h : OneC x) : OneC (sTag off x) := by
 unfold sTag; split
 · unfold OneC; simp only; split
   · exact rowIn_one h (bC_oneL _)
   · exact h
 · exact h
theorem sName_one {off : Nat} {x : FS} (h : OneC x) : OneC (sName off x) := by
 unfold sName; split
 · exact rowIn_one h (bC_oneL _)
 · exact h
theorem sText_one {off : Nat} {x : FS} (h : OneC x) : OneC (sText off x) := by
 unfold sText; split
 · exact rowIn_one h (fun v hv => by rw [List.mem_singleton] at hv; subst hv; rfl)
 · exact h
theorem sPre_one {x : FS} (h : OneC x) : OneC (sPre x) := by
 unfold sPre; split
 · exact rowIn_one h (bC_oneL _)
 · exact h
theorem stepO_one {off : Nat} {x : FS} (c : UInt8) (h : OneC x) : OneC (stepO off x c) := by
 unfold stepO
 split; · exact sNum_one h
 split; · exact sNum_one h
 split; · exact sNum_one h
 split; · exact sNum_one h
 split; · exact sName_one h
 split; · exact sTag_one h
 exact sText_one h
theorem foldO_one {off : Nat} (u : List UInt8) : ∀ {x : FS}, OneC x → OneC (u.foldl (stepO off) x) := by
 induction u with
 | nil => intro x h; exact h
 | cons c u ih => intro x h; exact ih (stepO_one c h)
theorem stepR_one {x : FS} (c : UInt8) (h : OneC x) : OneC (stepR x c) := by
 unfold stepR
 split; · exact foldO_one _ (sNum_one (sNum_one (sNum_one h)))
 split; · exact sNum_one h
 split; · exact sNum_one h
 exact sPre_one (sNum_one h)
theorem foldR_one (u : List UInt8) : ∀ {x : FS}, OneC x → OneC (u.foldl stepR x) := by
 induction u with
 | nil => intro x h; exact h
 | cons c u ih => intro x h; exact ih (stepR_one c h)
end Go.Proofs.YtbfefdedjcppaaaGreatDoor

/- request.Read. -/
namespace Go.Proofs.YtbfefdedjcppaaaGreatDoor
set_option maxRecDepth 100000
set_option maxHeartbeats 8000000
open Go.RowKit
def z59 : List Value := List.replicate 10 (.int .i64 0) ++ List.replicate 22 (.int .u8 0) ++ [.string ⟨#[]⟩] ++ List.replicate 25 (.int .u8 0) ++ [.int .i64 0]
def startR (l : List UInt8) : FS := sNum 0 1 10 16 ⟨z59, l, 0, 0⟩
def endR (l : List UInt8) : FS := (usesV (intN (startR l).cs[0]?)).foldl stepR (startR l)
def readE (l : List UInt8) : Nat := if (endR l).ef = 0 ∧ (endR l).l ≠ [] then 3 else (endR l).ef
def readC (l : List UInt8) : List Value := if readE l = 0 then (endR l).cs else z59
theorem okR_start (l : List UInt8) : OkR (startR l) := OkR.num (x := ⟨z59, l, 0, 0⟩) ⟨rfl, ⟨0, rfl⟩, ⟨0, rfl⟩⟩ (by omega)
theorem z59_one : ∀ v ∈ z59, v.oneCell' = true := fun v hv => List.all_eq_true.1 (by kernel_rfl : z59.all (·.oneCell') = true) v hv
theorem one_start (l : List UInt8) : OneC (startR l) := sNum_one (x := ⟨z59, l, 0, 0⟩) z59_one
theorem okR_fold (u : List UInt8) : ∀ {x : FS}, OkR x → OkR (u.foldl stepR x) := by
 induction u with
 | nil => intro x h; exact h
 | cons c u ih => intro x h; exact ih (h.step c)
theorem start_verb (l : List UInt8) : (startR l).cs[0]? = some (.int .i64 ((intN (startR l).cs[0]? : Nat) : Int)) := by
 obtain ⟨k, hk, _⟩ := sNum_cell (x := ⟨z59, l, 0, 0⟩) (off := 0) (lo := 1) (hi := 10) (ee := 16) (d := 0) (by show 1 ≤ 59; omega) rfl
 unfold startR
 rw [hk]; rfl
theorem usesV_in (k : Nat) : ∀ c ∈ usesV k, c = 111 ∨ c = 110 ∨ c = 115 ∨ c = 112 := by
 intro c hc
 unfold usesV at hc
 repeat' split at hc
 all_goals simp only [List.mem_cons, List.not_mem_nil, or_false] at hc
 all_goals first | (rcases hc with rfl | rfl <;> simp) | (subst hc; simp)
theorem foldR_take {x : FS} {u : List UInt8} {pos : Nat} {c : UInt8} (hc : u[pos]? = some c) : (u.take (pos + 1)).foldl stepR x = stepR ((u.take pos).foldl stepR x) c := by
 have h := (List.getElem?_eq_some_iff.1 hc).1
 rw [List.take_succ_eq_append_getElem h, List.foldl_append, (List.getElem?_eq_some_iff.1 hc).2]; rfl
theorem siz59 : (Tryz.prog.info? 36).map (·.size) = some 59 := by kernel_rfl
structure RdSt (w W : World) (br bf b4 bt : Nat) (x : FS) : Prop where
 st : StF W br bf bt 36 x
 bx : BoxIs W b4 (.pointer (some ⟨bf, 0, none⟩)) 84
 res : W.heap[w.heap.size]? = some (.cells z59.toArray 36 (0, 0))
 bel : Below w.heap.size w W
 mx : MX W
 ne : w.heap.size < br ∧ br < bf ∧ bf < b4 ∧ b4 < bt
 hg : 0 < br
theorem RdSt.step {w W w' : World} {br bf b4 bt : Nat} {x y : FS} {e : Ending} (h : RdSt w W br bf b4 bt x) (hs : Stepped br bf bt 36 y W e w') : RdSt w w' br bf b4 bt y := by
 obtain ⟨_, h1, h2⟩ := hs
 have hn := h.ne
 have hg := h.hg
 have hk : ∀ k, k < W.heap.size → k ≠ br → k ≠ bf → k ≠ bt → w'.heap[k]? = W.heap[k]? := fun k hk a b c => h2.block k hk (by simp [a, b, c])
 refine ⟨h1, (hk _ (lt_heap h.bx) (by omega) (by omega) (by omega)).trans h.bx, (hk _ (lt_heap h.res) (by omega) (by omega) (by omega)).trans h.res, ?_, h.mx.turn h2 (fun k hk => ?_), hn, hg⟩
 · exact h.bel.trans (h2.below (fun k hk => by simp only [List.mem_cons, List.not_mem_nil, or_false] at hk; rcases hk with rfl | rfl | rfl <;> omega) h.bel.size)
 · simp only [List.mem_cons, List.not_mem_nil, or_false] at hk
   rcases hk with rfl | rfl | rfl <;> omega
theorem RdSt.below {w W w' : World} {br bf b4 bt : Nat} {x : FS} (h : RdSt w W br bf b4 bt x) (hb : Below W.heap.size W w') : RdSt w w' br bf b4 bt x :=
 ⟨h.st.below hb, (hb.block _ (lt_heap h.bx)).trans h.bx, (hb.block _ (lt_heap h.res)).trans h.res, h.bel.trans (hb.mono h.bel.size), h.mx.below hb, h.ne, h.hg⟩
theorem RdSt.other {w W : World} {br bf b4 bt it : Nat} {x : FS} (h : RdSt w W br bf b4 bt x) (o : Obj) (hi : bt < it) : RdSt w (putB W it o) br bf b4 bt x := by
 have hn := h.ne
 have hg := h.hg
 have ht : Turn [it] W (putB W it o) := ⟨rfl, rfl, rfl, by rw [putB_size]; exact Nat.le_refl _, fun k _ hk => putB_other _ _ _ _ (by simpa using hk)⟩
 exact ⟨h.st.turn ht (fun k hk => by rw [List.mem_singleton] at hk; subst hk; refine ⟨?_, ?_, ?_⟩ <;> omega), (putB_other _ _ _ _ (by omega)).trans h.bx, (putB_other _ _ _ _ (by omega)).trans h.res, putB_below h.bel it o (by omega), h.mx.turn ht (fun k hk => by rw [List.mem_singleton] at hk; subst hk; omega), hn, hg⟩
theorem read_any (q : Option Addr) (n c : Nat) (l : List UInt8) (w : World) (hn : l.length = n) (hq : SlAt byteC 1 w q l) (hq0 : q = none → n = 0 ∧ c = 0) (hsz : n ≤ 1000000) (hmx : MX w) :
   Calls Tryz.prog 7 #[.slice q n c] w fun e w' => e = .returned (.tuple #[.agg (readC l).toArray, .int .i64 (readE l : Nat)]) ∧ Below w.heap.size w w' := by
 have HZ0 : Hid ((w.alloc (.cells z59.toArray 36)).heap[w.heap.size]? = some (.cells z59.toArray 36 (0, 0))) := heap_alloc_new _ _
 have hB0 : Below w.heap.size w (w.alloc (.cells z59.toArray 36)) := below_alloc1 _ _
 have KN := Lib.hid (newReader_any q n c l (w.alloc (.cells z59.toArray 36)) hn (hq.below hB0) hq0 hsz)
 have HM0 : Hid (0 < w.heap.size) := by
   obtain ⟨m, hm⟩ := hmx
   exact World.block_lt_of_cell? _ _ hm
 have HM := Lib.hid hmx
 clear hn hq hq0 hsz hmx
 go_enter Tryz.func7, Tryz.ntmps7
 go_upto_region 1 with fail
 rw [show (Obj.cells #[Value.int .i64 0, .int .i64 0, .int .i64 0, .int .i64 0, .int .i64 0, .int .i64 0, .int .i64 0, .int .i64 0, .int .i64 0, .int .i64 0, .int .u8 0, .int .u8 0, .int .u8 0, .int .u8 0, .int .u8 0, .int .u8 0, .int .u8 0, .int .u8 0, .int .u8 0, .int .u8 0, .int .u8 0, .int .u8 0, .int .u8 0, .int .u8 0, .int .u8 0, .int .u8 0, .int .u8 0, .int .u8 0, .int .u8 0, .int .u8 0, .int .u8 0, .int .u8 0, Value.string { data := #[] }, .int .u8 0, .int .u8 0, .int .u8 0, .int .u8 0, .int .u8 0, .int .u8 0, .int .u8 0, .int .u8 0, .int .u8 0, .int .u8 0, .int .u8 0, .int .u8 0, .int .u8 0, .int .u8 0, .int .u8 0, .int .u8 0, .int .u8 0, .int .u8 0, .int .u8 0, .int .u8 0, .int .u8 0, .int .u8 0, .int .u8 0, .int .u8 0, .int .u8 0, .int .i64 0] 36 (0, 0)) = .cells z59.toArray 36 (0, 0) from rfl]
 generalize w.alloc (.cells z59.toArray 36) = W0 at *
 go_upto_region 3 with (go_at_call 22; (refine KN.out.mono ?_); rintro e w1 ⟨br, rfl, hrd, hb1, hge⟩; have HB1 := Lib.hid hb1; have HRD := Lib.hid hrd; clear hb1 hrd)
 rw [show (Obj.cells #[Value.int .i64 0, .int .i64 0, .int .i64 0, .int .i64 0, .int .i64 0, .int .i64 0, .int .i64 0, .int .i64 0, .int .i64 0, .int .i64 0, .int .u8 0, .int .u8 0, .int .u8 0, .int .u8 0, .int .u8 0, .int .u8 0, .int .u8 0, .int .u8 0, .int .u8 0, .int .u8 0, .int .u8 0, .int .u8 0, .int .u8 0, .int .u8 0, .int .u8 0, .int .u8 0, .int .u8 0, .int .u8 0, .int .u8 0, .int .u8 0, .int .u8 0, .int .u8 0, Value.string { data := #[] }, .int .u8 0, .int .u8 0, .int .u8 0, .int .u8 0, .int .u8 0, .int .u8 0, .int .u8 0, .int .u8 0, .int .u8 0, .int .u8 0, .int .u8 0, .int .u8 0, .int .u8 0, .int .u8 0, .int .u8 0, .int .u8 0, .int .u8 0, .int .u8 0, .int .u8 0, .int .u8 0, .int .u8 0, .int .u8 0, .int .u8 0, .int .u8 0, .int .u8 0, .int .i64 0] 36 (0, 0)) = .cells z59.toArray 36 (0, 0) from rfl]
 have HR0 : Hid (RdSt w (((w1.alloc (.cells #[.pointer (some ⟨br, 0, none⟩), .int .i64 0] 88)).alloc (.cells #[.pointer (some ⟨w1.heap.size, 0, none⟩)] 84)).alloc (.cells z59.toArray 36)) br w1.heap.size (w1.heap.size + 1) (w1.heap.size + 1 + 1) ⟨z59, l, 0, 0⟩) := by
   have hb3 : Below w1.heap.size w1 (((w1.alloc (.cells #[.pointer (some ⟨br, 0, none⟩), .int .i64 0] 88)).alloc (.cells #[.pointer (some ⟨w1.heap.size, 0, none⟩)] 84)).alloc (.cells z59.toArray 36)) := (below_alloc2 _ _ _).alloc (by simp; omega) _
   have hw := hB0.trans (HB1.out.mono hB0.size)
   have h0 := lt_heap HZ0.out
   have h1 := HRD.out.le
   refine ⟨⟨⟨HRD.out.below (hb3.mono h1), h1, ?_⟩, ?_, fun _ => rfl⟩, ?_, (hb3.block _ (by have := HB1.out.size; omega)).trans ((HB1.out.block _ h0).trans HZ0.out), hw.trans (hb3.mono hw.size), HM.out.below (hw.trans (hb3.mono hw.size)), ⟨by omega, h1, by omega, by omega⟩, by have := HM0.out; omega⟩
   · rw [heap_alloc_old _ _ (by simp; omega)]; exact heap_alloc2_old _ _ _
   · have := heap_alloc_new (((w1.alloc (.cells #[.pointer (some ⟨br, 0, none⟩), .int .i64 0] 88)).alloc (.cells #[.pointer (some ⟨w1.heap.size, 0, none⟩)] 84))) (.cells z59.toArray 36)
     simpa using this
   · show _ = _
     rw [heap_alloc_old _ _ (by simp)]; exact heap_alloc2_new _ _ _
 generalize (((w1.alloc (.cells #[.pointer (some ⟨br, 0, none⟩), .int .i64 0] 88)).alloc (.cells #[.pointer (some ⟨w1.heap.size, 0, none⟩)] 84)).alloc (.cells z59.toArray 36)) = W1 at *
 generalize w1.heap.size + 1 + 1 = bt at *
 generalize w1.heap.size + 1 = b4 at *
 generalize w1.heap.size = bf at *
 clear KN HZ0 hB0 HM0 HM HB1 HRD hge
 have hn := HR0.out.ne
 have HBT : Hid (br < bt ∧ bt ≠ bf) := ⟨by omega, by omega⟩
 have KV := Lib.hid (snum_any br bf bt 0 1 10 16 36 ⟨z59, l, 0, 0⟩ W1 HR0.out.st (by show 0 + 1 ≤ 59; omega) HBT.out)
 have hbx := (cell1 HR0.out.bx).1
 clear hn
 go_upto_region 4 with (go_at_call 23; (refine KV.out.mono ?_); rintro e w2 hR; have HR1 := Lib.hid (HR0.out.step hR); obtain ⟨rfl, _, _⟩ := hR)
 have HR1' : Hid (RdSt w w2 br bf b4 bt (startR l)) := HR1.out
 have hv := start_verb l
 have hc0 : w2.cell? ⟨bt, 0, none⟩ = some (.int .i64 ((intN (startR l).cs[0]? : Nat) : Int)) := by rw [cell_blk HR1'.out.st.at_, List.getElem?_toArray]; exact hv
 have HE : Hid (endR l = (usesV (intN (startR l).cs[0]?)).foldl stepR (startR l)) := rfl
 have HOK := Lib.hid (okR_start l)
 have HO1 := Lib.hid (one_start l)
 have HRE : Hid (readE l = if (endR l).ef = 0 ∧ (endR l).l ≠ [] then 3 else (endR l).ef) := rfl
 have HRC : Hid (readC l = if readE l = 0 then (endR l).cs else z59) := rfl
 clear HR0 HR1 KV hbx hv
 generalize startR l = x1 at *
 generalize endR l = xe at *
 generalize intN x1.cs[0]? = vb at *
 have KU := Lib.hid (usesV_any vb w2)
 have HUI := Lib.hid (usesV_in vb)
 go_wp2_with (go_at_call 24; (refine KU.out.mono ?_); rintro e w3 ⟨rfl, rfl⟩)
 generalize usesV vb = u at *
 have HRL : Hid (RdSt w (w2.iter ⟨u.toArray⟩ 0) br bf b4 bt x1) := HR1'.out.below (show Below w2.heap.size w2 (w2.iter ⟨u.toArray⟩ 0) from (Below.refl _ _).alloc (Nat.le_refl _) _)
 have HIL : Hid ((w2.iter ⟨u.toArray⟩ 0).heap[w2.heap.size]? = some (.stringIter ⟨u.toArray⟩ 0)) := World.iter_heap _ _ _
 have HIT : Hid (bt < w2.heap.size) := lt_heap HR1'.out.st.at_
 clear HR1' hc0 KU
 generalize w2.iter ⟨u.toArray⟩ 0 = W5 at *
 generalize w2.heap.size = it at *
 have hus : (⟨u.toArray⟩ : ByteArray).size = u.length := by show u.toArray.size = _; simp
 go_loopw [7] (fun _ wr => ∃ (pos : Nat) (y : FS), pos ≤ u.length ∧ Hid (RdSt w wr br bf b4 bt y) ∧ Hid (wr.heap[it]? = some (.stringIter ⟨u.toArray⟩ pos)) ∧ Hid (y = (u.take pos).foldl stepR x1)) (fun _ wr => u.length - wr.iterPos it)
 case atStart => exact ⟨0, _, Nat.zero_le _, HRL.out, HIL.out, rfl⟩
 case round =>
   obtain ⟨pos, y, hpos, HR1, HI1, HF1⟩ := hrel
   clear HRL HIL
   have HOy : Hid (OkR y) := by show OkR y; rw [HF1.out]; exact okR_fold _ HOK.out
   have HO1y : Hid (OneC y) := by show OneC y; rw [HF1.out]; exact foldR_one _ HO1.out
   by_cases hlt : pos < u.length
   · have hc : u[pos]? = some u[pos] := List.getElem?_eq_getElem hlt
     have hci := HUI.out _ (List.getElem_mem hlt)
     have HF2 : Hid (stepR y u[pos] = (u.take (pos + 1)).foldl stepR x1) := by show _ = _; rw [HF1.out]; exact (foldR_take hc).symm
     generalize u[pos] = c at *
     have hnx := fun ty => runS_next (P := Tryz.prog) wr it ⟨u.toArray⟩ pos ty c HI1.out (by simpa using hc) (by rcases hci with h | h | h | h <;> (rw [h]; decide))
     have HR2 := Lib.hid (HR1.out.other (.stringIter ⟨u.toArray⟩ (pos + 1)) HIT.out)
     have HI2 : Hid ((putB wr it (.stringIter ⟨u.toArray⟩ (pos + 1))).heap[it]? = some (.stringIter ⟨u.toArray⟩ (pos + 1))) := putB_same _ _ _ _ HI1.out
     have HM2 : Hid (u.length - (pos + 1) < u.length - wr.iterPos it) := by show _ < _; rw [iterPos_at HI1.out]; omega
     clear hc HF1 HR1 HI1
     generalize putB wr it (.stringIter ⟨u.toArray⟩ (pos + 1)) = W3 at *
     have hbx2 := (cell1 HR2.out.bx).1
     rcases hci with rfl | rfl | rfl | rfl
     · obtain ⟨k0, hk0⟩ := HOy.out.kind
       have KS := Lib.hid (sorder_any br bf bt 3 59 k0 36 y W3 HR2.out.st HOy.out.len (by omega) hk0 HBT.out HR2.out.mx HR2.out.hg)
       clear hk0
       go_wp2_with (go_at_call 25; (refine KS.out.mono ?_); rintro e w8 hR; have HR3 := Lib.hid (HR2.out.step hR); have hk3 := Lib.hid (hR.2.2.block _ (lt_heap HI2.out) (by have := HR2.out.ne; have := HIT.out; simp; omega)); obtain ⟨rfl, _, _⟩ := hR)
       have HI3 := Lib.hid (hk3.out.trans HI2.out)
       go_roundw
       case rel => exact ⟨pos + 1, _, by omega, HR3.out, HI3.out, HF2.out⟩
       case measure => rw [iterPos_at HI3.out]; exact HM2.out
     · have KS := Lib.hid (snum_any br bf bt 2 0 63 5 36 y W3 HR2.out.st (by rw [HOy.out.len]; omega) HBT.out)
       go_wp2_with (go_at_call 23; (refine KS.out.mono ?_); rintro e w8 hR; have HR3 := Lib.hid (HR2.out.step hR); have hk3 := Lib.hid (hR.2.2.block _ (lt_heap HI2.out) (by have := HR2.out.ne; have := HIT.out; simp; omega)); obtain ⟨rfl, _, _⟩ := hR)
       have HI3 := Lib.hid (hk3.out.trans HI2.out)
       go_roundw
       case rel => exact ⟨pos + 1, _, by omega, HR3.out, HI3.out, HF2.out⟩
       case measure => rw [iterPos_at HI3.out]; exact HM2.out
     · have KS := Lib.hid (snum_any br bf bt 1 0 1 5 36 y W3 HR2.out.st (by rw [HOy.out.len]; omega) HBT.out)
       go_wp2_with (go_at_call 23; (refine KS.out.mono ?_); rintro e w8 hR; have HR3 := Lib.hid (HR2.out.step hR); have hk3 := Lib.hid (hR.2.2.block _ (lt_heap HI2.out) (by have := HR2.out.ne; have := HIT.out; simp; omega)); obtain ⟨rfl, _, _⟩ := hR)
       have HI3 := Lib.hid (hk3.out.trans HI2.out)
       go_roundw
       case rel => exact ⟨pos + 1, _, by omega, HR3.out, HI3.out, HF2.out⟩
       case measure => rw [iterPos_at HI3.out]; exact HM2.out
     · have KS := Lib.hid (snum_any br bf bt 58 0 5 5 36 y W3 HR2.out.st (by rw [HOy.out.len]; omega) HBT.out)
       have HO2 : Hid (OkR (sNum 58 0 5 5 y)) := HOy.out.num (by omega)
       have HD2 : Hid (∀ d : Nat, (sNum 58 0 5 5 y).cs[58]? = some (.int .i64 (d : Int)) → (sNum 58 0 5 5 y).ef = 0 → d ≤ 5) := by
         intro d hd h0
         obtain ⟨d0, hd0⟩ := HOy.out.depth
         obtain ⟨k, hk, hk2⟩ := sNum_cell (lo := 0) (hi := 5) (ee := 5) (by rw [HOy.out.len]; omega : 58 + 1 ≤ y.cs.length) hd0
         rw [hk] at hd
         have := hk2 h0 (by decide)
         have e : (k : Int) = d := by injection hd with e1; injection e1
         omega
       go_upto_region 16 with (go_at_call 23; (refine KS.out.mono ?_); rintro e w8 hR; have HR3 := Lib.hid (HR2.out.step hR); have hk3 := Lib.hid (hR.2.2.block _ (lt_heap HI2.out) (by have := HR2.out.ne; have := HIT.out; simp; omega)); obtain ⟨rfl, _, _⟩ := hR)
       have HI3 := Lib.hid (hk3.out.trans HI2.out)
       have hbx3 := (cell1 HR3.out.bx).1
       have KP := Lib.hid (spre_any br bf bt b4 36 _ w8 HR3.out.st HR3.out.bx HO2.out HD2.out HBT.out (by have := HR3.out.ne; omega))
       clear HR2 HI2 hk3 hbx2 KS HO2 HD2
       go_wp2_with (go_at_call 26; (refine KP.out.mono ?_); rintro e w9 hR; have HR4 := Lib.hid (HR3.out.step hR); have hk4 := Lib.hid (hR.2.2.block _ (lt_heap HI3.out) (by have := HR3.out.ne; have := HIT.out; simp; omega)); obtain ⟨rfl, _, _⟩ := hR)
       have HI4 := Lib.hid (hk4.out.trans HI3.out)
       go_roundw
       case rel => exact ⟨pos + 1, _, by omega, HR4.out, HI4.out, HF2.out⟩
       case measure => rw [iterPos_at HI4.out]; exact HM2.out
   · obtain rfl : pos = u.length := by omega
     have hnx := fun ty => runS_end (P := Tryz.prog) wr it ⟨u.toArray⟩ u.length ty HI1.out (by rw [hus]; omega)
     have HY : Hid (y = xe) := by show _ = _; rw [HF1.out, List.take_of_length_le (Nat.le_refl _), HE.out]
     obtain rfl := HY.out
     rw [HRE.out] at HRC
     have KD := Lib.hid (fdone_any br bf y.l y.er y.ef wr HR1.out.st.fa HR1.out.st.ok)
     rw [← HRE.out] at KD HRC
     have hbx := (cell1 HR1.out.bx).1
     have hl59 := HOy.out.len
     have hz59 : z59.length = 59 := rfl
     have HG2 := Lib.hid HR1.out.res
     have HQ := Lib.hid HR1.out.st.at_
     have HB := Lib.hid HR1.out.bel
     by_cases he : readE l = 0
     · rw [if_pos he] at HRC
       rw [he] at KD
       clear HUI HIT HOK HE HRE
       go_wp2_with (first
         | (go_at_call 31; (refine KD.out.mono ?_); rintro e w9 ⟨rfl, rfl⟩)
         | ((with_reducible refine gate_ld 36 _ rfl ?_); refine wl_ldr rfl _ _ rfl bt 0 y.cs _ Tryz.underlying36 rfl (by rw [siz59, hl59]) rfl (range_whole (by simpa using HQ.out)) ?_)
         | ((with_reducible refine gate_st 36 _ _ rfl ?_); refine wl_strG rfl _ _ _ rfl w.heap.size y.cs.toArray z59.toArray _ (by rw [siz59, List.size_toArray, hl59]) (by rw [List.size_toArray, List.size_toArray, hl59, hz59]) (Array.all_eq_true_iff_forall_mem.2 (fun v hv => HO1y.out v (by simpa using hv))) rfl rfl HG2.out ?_; intro w5 hw5 ht5; have HW5 := Lib.hid hw5; have HT5 := Lib.hid ht5; clear hw5 ht5))
       refine bodyPost_ret (res_rowc_tmp (P := Tryz.prog) (T := 36) (T' := 36) (t := 3) rfl _ _ w.heap.size y.cs.toArray (0, 0) rfl HW5.out Tryz.underlying36 rfl (by rw [siz59, List.size_toArray, hl59])) rfl ?_
       refine ⟨by rw [HRC.out, he]; rfl, HB.out.trans ⟨HT5.out.os, HT5.out.tape, HT5.out.output, HT5.out.size, fun k hk => ?_⟩⟩
       exact HT5.out.block k (Nat.lt_of_lt_of_le hk HB.out.size) (by simp; omega)
     · rw [if_neg he] at HRC
       have he' : ((readE l : Int) == 0) = false := by simpa using he
       have hbt : Tryz.prog.built 36 [] = some z59.toArray := by kernel_rfl
       clear HUI HIT HOK HE HRE
       go_wp2_with (first
         | (go_at_call 31; (refine KD.out.mono ?_); rintro e w9 ⟨rfl, rfl⟩)
         | ((with_reducible refine gate_bd 36 _ rfl ?_); refine wl_bd rfl _ [] rfl [] rfl z59.toArray hbt ?_)
         | ((with_reducible refine gate_st 36 _ _ rfl ?_); refine wl_strG rfl _ _ _ rfl w.heap.size z59.toArray z59.toArray _ (by rw [siz59, List.size_toArray, hz59]) rfl (by kernel_rfl) rfl rfl HG2.out ?_; intro w5 hw5 ht5; have HW5 := Lib.hid hw5; have HT5 := Lib.hid ht5; clear hw5 ht5))
       refine bodyPost_ret (res_rowc_tmp (P := Tryz.prog) (T := 36) (T' := 36) (t := 3) rfl _ _ w.heap.size z59.toArray (0, 0) rfl HW5.out Tryz.underlying36 rfl (by rw [siz59, List.size_toArray, hz59])) rfl ?_
       refine ⟨by rw [HRC.out]; rfl, HB.out.trans ⟨HT5.out.os, HT5.out.tape, HT5.out.output, HT5.out.size, fun k hk => ?_⟩⟩
       exact HT5.out.block k (Nat.lt_of_lt_of_le hk HB.out.size) (by simp; omega)
end Go.Proofs.YtbfefdedjcppaaaGreatDoor
