/- The document's Of. -/
import Derived.Test.YtnambaiafailaaaDoorV5
namespace Go.Proofs.YtnambaiafailaaaDoor
open Go.RowKit

theorem eqIn3 (w : World) (a b : T3) : (Op.equalIn 10000 23 (.agg (tC a)) (.agg (tC b))).run Tryd.prog w = .ok (decide (a = b)) w := by
  rw [show (10000 : Nat) = 9999 + 1 from rfl, run_equalIn_struct w 9999 23 _ _ (by kernel_rfl) (by kernel_rfl)]
  have p0 : ∀ (x y z : Value) (w : World), (part 9 #[x, y, z] 0).run Tryd.prog w = .ok x w := fun _ _ _ _ => by kernel_rfl
  have p1 : ∀ (x y z : Value) (w : World), (part 9 #[x, y, z] 1).run Tryd.prog w = .ok y w := fun _ _ _ _ => by kernel_rfl
  have p2 : ∀ (x y z : Value) (w : World), (part 9 #[x, y, z] 2).run Tryd.prog w = .ok z w := fun _ _ _ _ => by kernel_rfl
  have q : ∀ (d : Nat) (x y : List UInt8) (w : World), (Op.equalIn (d + 1) 9 (.string ⟨x.toArray⟩) (.string ⟨y.toArray⟩)).run Tryd.prog w = .ok (x == y) w := fun d x y w => by
    rw [run_equalIn_string w d 9 _ _ Tryd.underlying9, ByteArray.toList_eq, ByteArray.toList_eq]
  have q1 := q 9998
  obtain ⟨a1, a2, a3⟩ := a
  obtain ⟨b1, b2, b3⟩ := b
  have hb : decide (({ lang := a1, script := a2, region := a3 } : T3) = { lang := b1, script := b2, region := b3 }) = ((a1 == b1) && ((a2 == b2) && (a3 == b3))) := by
    rw [Bool.eq_iff_iff]; simp
  rw [hb]
  have r1 := q1 a1 b1
  have r2 := q1 a2 b2
  have r3 := q1 a3 b3
  generalize (a1 == b1) = c1 at *
  generalize (a2 == b2) = c2 at *
  generalize (a3 == b3) = c3 at *
  simp only [Program.fieldsOf, Tryd.underlying23, Op.eqFields, tC]
  simp [p0, p1, p2, r1, r2, r3]
  cases c1 <;> cases c2 <;> cases c3 <;> simp
theorem eql3 (w : World) (a b : T3) : (binOp .eql 23 (.agg (tC a)) (.agg (tC b))).run Tryd.prog w = .ok (.bool (decide (a = b))) w := by
  rw [run_eql_struct, eqIn3 w a b]; rfl
theorem neq3 (w : World) (a b : T3) : (binOp .neq 23 (.agg (tC a)) (.agg (tC b))).run Tryd.prog w = .ok (.bool (!decide (a = b))) w := by
  rw [run_neq_struct, eqIn3 w a b]; rfl
theorem build3A (t : T3) (w : World) : (Instr.build 23 #[(0, .string ⟨t.lang.toArray⟩), (1, .string ⟨t.script.toArray⟩), (2, .string ⟨t.region.toArray⟩)]).run Tryd.prog w = .ok (.agg (tC t)) w := run_build w _ _ _ (by kernel_rfl)
theorem takeD {P : Program} {md : Region.Mode} {ops : Array Oper} {Q : Exit → Act → World → Prop} {S : World → Prop} {i : Nat} {oi : Oper} {v : Value} {fuel : Nat} {listed : Array Bool} {a : Act} {w : World} (d : Nat) (hi : ops[i]? = some oi) (hd : oi.dst = some d)
    (hs : Region.noSelect ops = true) (hf : Region.free md ops listed i = true) (hr : (Region.ready md ops listed).contains i = true)
    (hQ : ∀ c a w, Q (.panic c) (a.put (some d) v) w → Q (.panic c) a w) (hy : YieldsIf P ops S oi v a) (hS : S w)
    (h : wpAnyH P md ops Q S fuel (listed.setIfInBounds i true) (a.put (some d) v) w) : wpAnyH P md ops Q S (fuel + 1) listed a w :=
  wpAnyH_take hi hs hf hr (by rw [hd]; exact hQ) hy hS (by rw [hd]; exact h)

theorem stI {P : Program} {ops : Array Oper} {o : Oper} {a : Act} {w : World} {K : Act → World → Prop} {Q : Exit → Act → World → Prop} {E : Prop} (hg : o.guard = none) (h : o.wp P a w K Q) : if Region.wanted o (yielded ops a.tmps) = true then o.wp P a w K Q else E := by
  rw [if_pos (by unfold Region.wanted; rw [hg])]; exact h
section
variable {o : Oper} {a : Act} {w : World}
theorem y_bd3 (ho : o.op = .build 23 #[]) : (execOp a.eval o).run Tryd.prog w = .ok (.value (.agg (tC t30))) w := by
  have := build30 w
  unfold execOp
  simp only [ho, Sem.run_bind, List.map_toArray, List.map_nil, this, Result.andThen_ok, Sem.run_pure]
theorem y_ld3 (x : Operand) (ho : o.op = .load 23 x) (g : Nat) (t : T3) (hx : a.eval x = .pointer (some ⟨g, 0, none⟩)) (hg : w.heap[g]? = some (.cells (tC t) 23 (0, 0))) : (execOp a.eval o).run Tryd.prog w = .ok (.value (.agg (tC t))) w := by
  have := run_loadAt_mid (P := Tryd.prog) _ g 0 23 (tC t).toList _ (range_whole (by simpa using hg)) Tryd.underlying23 rfl siz23
  unfold execOp
  simp only [ho, hx, Sem.run_bind, this, Result.andThen_ok, Sem.run_pure]
theorem y_eq3 (x y : Operand) (ho : o.op = .binOp .eql 23 x y 23) (t u : T3) (hx : a.eval x = .agg (tC t)) (hy : a.eval y = .agg (tC u)) : (execOp a.eval o).run Tryd.prog w = .ok (.value (.bool (decide (t = u)))) w := by
  have := eql3 w t u
  have hgd : (eqGuard .eql 23 x y (.agg (tC t)) (.agg (tC u))).run Tryd.prog w = .ok () w := run_eqGuard_agg w .eql 23 x y _ _ (by kernel_rfl)
  unfold execOp
  simp [ho, hx, hy, this, hgd]
end
def oR (b : List UInt8) : T3 := (ofT b).getD t30
def oB (b : List UInt8) : Bool := (ofT b).isSome
theorem fT_small {b : List UInt8} (h : b.length = 10) : (fT b).lang.length ≤ 3 ∧ (fT b).script.length ≤ 4 ∧ (fT b).region.length ≤ 3 := by
  have h1 := frontZ_le (b.take 3)
  have h2 := frontZ_le ((b.drop 3).take 4)
  have h3 := frontZ_le (b.drop 7)
  simp at h1 h2 h3
  exact ⟨by show (frontZ _).length ≤ _; omega, by show (frontZ _).length ≤ _; omega, by show (frontZ _).length ≤ _; omega⟩
set_option maxRecDepth 100000 in
set_option maxHeartbeats 8000000 in
theorem refOf5_any (b : List UInt8) (w : World) (hb : b.length = 10) :
    Calls Tryd.prog 18 #[.agg (bC b)] w fun e w' => e = .returned (.tuple #[.agg (tC (oR b)), .bool (oB b)]) ∧ Below w.heap.size w w' := by
  have HG0 : Hid (((w.alloc (.cells (bC b) 39)).alloc (.cells (tC t30) 23)).heap[w.heap.size]? = some (.cells (bC b) 39 (0, 0))) := heap_alloc2_old _ _ _
  have HG1 : Hid (((w.alloc (.cells (bC b) 39)).alloc (.cells (tC t30) 23)).heap[w.heap.size + 1]? = some (.cells (tC t30) 23 (0, 0))) := heap_alloc2_new _ _ _
  have HB1 : Hid (Below w.heap.size w ((w.alloc (.cells (bC b) 39)).alloc (.cells (tC t30) 23))) := below_alloc2 _ _ _
  have HSm := Lib.hid (fT_small hb)
  have H10 := Lib.hid hb
  have hb30 := build30
  have hbA := build3A (fT b)
  have HO : Hid (ofT b = if (fT b).lang = [] then (if (fT b) = ⟨[], [], []⟩ then some ⟨[], [], []⟩ else none) else match parseT (textT (fT b)) with | some x => if x = fT b then some (fT b) else none | none => none) := rfl
  clear hb
  go_enter Tryd.func18, Tryd.ntmps18
  go_upto_region 1 with fail
  rw [show (Obj.cells #[Value.string ⟨#[]⟩, Value.string ⟨#[]⟩, Value.string ⟨#[]⟩] 23) = Obj.cells (tC t30) 23 from rfl]
  generalize (w.alloc (.cells (bC b) 39)).alloc (.cells (tC t30) 23) = W1 at *
  have HR0 : Hid (W1.rangeAt w.heap.size 0 (bC b).toList) := range_whole (by simpa using HG0.out)
  have hlt : w.heap.size < W1.heap.size := lt_heap HG0.out
  have HFr : Hid (∀ (s n cap : Nat) (W : World), s + n ≤ 10 → n ≤ cap → Below W1.heap.size W1 W → Calls Tryd.prog 52 #[.slice (some ⟨w.heap.size, s, none⟩) n cap] W fun e w' => e = .returned (.string ⟨(frontZ ((b.drop s).take n)).toArray⟩) ∧ W = w') := fun s n cap W hs hc hW => by
    have hr := range_sub (range_of_block HR0.out (hW.block _ hlt)) s n
    rw [Nat.zero_add] at hr
    have := H10.out
    exact front_any w.heap.size s n cap _ W (by simp; omega) (by omega) hc hr
  clear HR0
  have e7 : (b.drop 7).take 3 = b.drop 7 := List.take_of_length_le (by rw [List.length_drop, H10.out]; omega)
  have Ha := Lib.hid (HFr.out 0 3 10)
  have Hb := Lib.hid (HFr.out 3 4 7)
  have Hc := Lib.hid (HFr.out 7 3 3)
  rw [e7] at Hc
  simp only [List.drop_zero] at Ha
  clear e7 HFr
  have hfl : frontZ (b.take 3) = (fT b).lang := rfl
  have hfs : frontZ ((b.drop 3).take 4) = (fT b).script := rfl
  have hfr : frontZ (b.drop 7) = (fT b).region := rfl
  rw [hfl] at Ha; rw [hfs] at Hb; rw [hfr] at Hc
  clear hfl hfs hfr
  generalize fT b = t at *
  go_cut [4] (fun s4 wx => ∃ g, s4 = .pointer (some ⟨g, 0, none⟩) ∧ Hid (Below W1.heap.size W1 wx ∧ W1.heap.size ≤ g ∧ wx.heap[g]? = some (.cells (tC t) 23 (0, 0))))
  case first =>
    go_region_held3 (fun w' => Below W1.heap.size W1 w') (first | exact (Below.refl _ _).drew | exact ((Below.refl _ _).alloc (Nat.le_refl _) _).drew) ((first
      | (go_at_call_of 52 (Value.slice (some ⟨w.heap.size, 0, none⟩) 3 10); (refine (Ha.out _ (by omega) (by omega) (by first | exact (Below.refl _ _).drew | exact ((Below.refl _ _).alloc (Nat.le_refl _) _).drew)).mono ?_); rintro e w' ⟨rfl, rfl⟩)
      | (go_at_call_of 52 (Value.slice (some ⟨w.heap.size, 3, none⟩) 4 7); (refine (Hb.out _ (by omega) (by omega) (by first | exact (Below.refl _ _).drew | exact ((Below.refl _ _).alloc (Nat.le_refl _) _).drew)).mono ?_); rintro e w' ⟨rfl, rfl⟩)
      | (go_at_call_of 52 (Value.slice (some ⟨w.heap.size, 7, none⟩) 3 3); (refine (Hc.out _ (by omega) (by omega) (by first | exact (Below.refl _ _).drew | exact ((Below.refl _ _).alloc (Nat.le_refl _) _).drew)).mono ?_); rintro e w' ⟨rfl, rfl⟩)))
    all_goals (go_wp2_with fail; go_meet; exact ⟨_, rfl, ((Below.refl _ _).alloc (Nat.le_refl _) _).drew, Nat.le_refl _, heap_alloc_new W1 _⟩)
  case rest =>
    obtain ⟨g, rfl, HC⟩ := hcut
    clear Ha Hb Hc
    have HG2 : Hid (wc.heap[w.heap.size + 1]? = some (.cells (tC t30) 23 (0, 0))) := by show _ = _; rw [HC.out.1.block _ (lt_heap HG1.out)]; exact HG1.out
    have HB2 := Lib.hid (HB1.out.trans (HC.out.1.mono HB1.out.size))
    have HGt := Lib.hid HC.out.2.2
    have hc0 : wc.cell? ⟨g, 0, none⟩ = some (.string ⟨t.lang.toArray⟩) := by rw [cell_blk HC.out.2.2]; rfl
    have hgt : g < wc.heap.size := lt_heap HC.out.2.2
    have hne : g ≠ w.heap.size + 1 := by have h1 := HC.out.2.1; have h2 := lt_heap HG1.out; omega
    clear HC HG1 HG0 HB1 hlt
    have e0 := fun W => eqE5 t.lang W
    have m0 := emp5 t.lang
    by_cases hl : t.lang = []
    case pos =>
      have HOo : Hid (oR b = t30 ∧ oB b = decide (t = t30)) := by
        show _ ∧ _
        rw [oR, oB, HO.out, if_pos hl, show (⟨[], [], []⟩ : T3) = t30 from rfl]
        by_cases ht : t = t30
        · rw [if_pos ht, decide_eq_true ht]; exact ⟨rfl, rfl⟩
        · rw [if_neg ht, decide_eq_false ht]; exact ⟨rfl, rfl⟩
      rw [hl] at e0 m0
      rw [hl] at hc0
      simp only [List.isEmpty_nil] at e0 m0
      have he3 := fun W => eql3 W t t30
      clear hl HO
      go_upto_region 3 with fail
      refine wp_region_held_drew (S := fun w' => w'.heap[g]? = some (.cells (tC t) 23 (0, 0)) ∧ w'.heap[w.heap.size + 1]? = some (.cells (tC t30) 23 (0, 0)) ∧ Below w.heap.size w w') (by kernel_rfl) ⟨HGt.out, HG2.out, HB2.out.drew⟩ (fun hH => ?_)
      show wpAnyH Tryd.prog Region.Mode.any _ _ _ 6 #[false, false, false, false, false, false] _ _
      refine takeD (i := 0) (v := .agg (tC t30)) 17 rfl rfl (by kernel_rfl) (by kernel_rfl) (by kernel_rfl) (fun _ _ _ h => h) (Or.inl ⟨rfl, fun w' hS => (by exact y_bd3 rfl)⟩) hH ?_
      simp only [Act.put, List.setIfInBounds_toArray, List.set_cons_zero, List.set_cons_succ]
      refine takeD (i := 1) (v := .agg (tC t)) 18 rfl rfl (by kernel_rfl) (by kernel_rfl) (by kernel_rfl) (fun _ _ _ h => h) (Or.inl ⟨rfl, fun w' hS => (by exact y_ld3 _ (by rfl) g t (by rfl) hS.1)⟩) hH ?_
      simp only [Act.put, List.setIfInBounds_toArray, List.set_cons_zero, List.set_cons_succ]
      refine takeD (i := 2) (v := .agg (tC t30)) 19 rfl rfl (by kernel_rfl) (by kernel_rfl) (by kernel_rfl) (fun _ _ _ h => h) (Or.inl ⟨rfl, fun w' hS => (by exact y_bd3 rfl)⟩) hH ?_
      simp only [Act.put, List.setIfInBounds_toArray, List.set_cons_zero, List.set_cons_succ]
      refine takeD (i := 3) (v := .bool (decide (t = t30))) 20 rfl rfl (by kernel_rfl) (by kernel_rfl) (by kernel_rfl) (fun _ _ _ h => h) (Or.inl ⟨rfl, fun w' hS => (by exact y_eq3 _ _ (by rfl) t t30 (by rfl) (by rfl))⟩) hH ?_
      simp only [Act.put, List.setIfInBounds_toArray, List.set_cons_zero, List.set_cons_succ]
      refine wpAnyH_ready (rs := [4]) (by kernel_rfl) (by simp) ?_
      refine AllReadyH.cons rfl (fun K hK => ?_) AllReadyH.nil
      refine stI rfl (wp_store_row 23 _ _ (by rfl) (w.heap.size + 1) (tC t30) (by rfl) (by rfl) 23 (tC t30) hH.2.1 siz23 rfl (tC_one _) ?_)
      refine hK.out (.put _ none undef) _ ⟨by rw [setRow_other _ _ _ _ hne]; exact hH.1, setRow_at hH.2.1, setRow_below hH.2.2 (by omega) _⟩ (fun hH => ?_)
      clear hK K
      simp only [Act.put, List.setIfInBounds_toArray, List.set_cons_zero, List.set_cons_succ]
      refine takeD (i := 5) (v := .bool (decide (t = t30))) 3 rfl rfl (by kernel_rfl) (by kernel_rfl) (by kernel_rfl) (fun _ _ _ h => h) (Or.inl ⟨rfl, fun w' hS => rfl⟩) hH ?_
      simp only [Act.put, List.setIfInBounds_toArray, List.set_cons_zero, List.set_cons_succ]
      refine ⟨by kernel_rfl, ?_⟩
      have HH := Lib.hid hH
      clear hH
      generalize wc.drew.setRow (w.heap.size + 1) (tC t30) = wz at *
      go_wp2_with fail
      refine bodyPost_ret (res_rowc_tmp (P := Tryd.prog) (T := 23) (T' := 23) (t := 3) rfl _ _ (w.heap.size + 1) (tC t30) (0, 0) rfl HH.out.2.1 Tryd.underlying23 rfl siz23) rfl ⟨?_, HH.out.2.2⟩
      rw [HOo.out.1, HOo.out.2]; rfl
    case neg =>
      have hle : t.lang.isEmpty = false := by cases h : t.lang with | nil => exact absurd h hl | cons c l => rfl
      rw [hle] at e0 m0
      have htx : text5 t = textT t := by rw [text5, if_neg hl]
      have hsl : (textT t).length ≤ 32 := by
        obtain ⟨h1, h2, h3⟩ := HSm.out
        unfold textT dash
        split <;> split <;> simp <;> omega
      have HTx : Hid (∀ W : World, Calls Tryd.prog 16 #[.agg (tC t)] W fun e w' => e = .returned (.string ⟨(textT t).toArray⟩) ∧ Below W.heap.size W w') := fun W => by
        obtain ⟨h1, h2, h3⟩ := HSm.out
        have := text_any5 t W (by omega) (by omega) (by omega)
        rwa [htx] at this
      have HPx : Hid (∀ W : World, Calls Tryd.prog 11 #[.string ⟨(textT t).toArray⟩] W fun e w' => e = .returned (.tuple #[.agg (tC (pR (textT t))), .bool (pB (textT t))]) ∧ Below W.heap.size W w') := fun W => refParse5_any ⟨(textT t).toArray⟩ W (by rw [ba_size]; omega)
      have HOo : Hid (oR b = (if pB (textT t) && decide (pR (textT t) = t) then t else t30) ∧ oB b = (pB (textT t) && decide (pR (textT t) = t))) := by
        show _ ∧ _
        rw [oR, oB, HO.out, if_neg hl, pB, pR]
        cases parseT (textT t) with
        | none => exact ⟨rfl, rfl⟩
        | some x =>
          by_cases hx : x = t
          · subst hx; simp
          · simp [hx]
      clear hl htx hsl HO HSm hbA
      have hn3 := fun W => neq3 W (pR (textT t)) t
      generalize pR (textT t) = px at *
      generalize pB (textT t) = pb at *
      generalize (⟨(textT t).toArray⟩ : ByteArray) = tx at *
      cases pb
      case false =>
        simp only [Bool.false_and, Bool.false_eq_true, if_false] at HOo
        go_wp2_with (first
          | (with_reducible refine ld_R3 rfl _ rfl g t rfl HGt.out ?_)
          | (go_at_call 16; (refine (HTx.out _).mono ?_); rintro e w5 ⟨rfl, hb5⟩; have HB5 := Lib.hid (HB2.out.trans (hb5.mono HB2.out.size)); have HG5 : Hid (w5.heap[w.heap.size + 1]? = some (.cells (tC t30) 23 (0, 0))) := (by (show _ = _; rw [hb5.block _ (lt_heap HG2.out)]; exact HG2.out)); have HT5 : Hid (w5.heap[g]? = some (.cells (tC t) 23 (0, 0))) := (by (show _ = _; rw [hb5.block _ hgt]; exact HGt.out)); clear hb5)
          | (go_at_call 11; (refine (HPx.out _).mono ?_); rintro e w6 ⟨rfl, hb6⟩; have HB6 := Lib.hid (HB5.out.trans (hb6.mono HB5.out.size)); have HG6 : Hid ((w6.alloc (.cells (tC px) 23)).heap[w.heap.size + 1]? = some (.cells (tC t30) 23 (0, 0))) := (by (show _ = _; rw [heap_alloc_old _ _ (Nat.lt_of_lt_of_le (lt_heap HG5.out) hb6.size), hb6.block _ (lt_heap HG5.out)]; exact HG5.out)); have HT6 : Hid ((w6.alloc (.cells (tC px) 23)).heap[g]? = some (.cells (tC t) 23 (0, 0))) := (by (show _ = _; rw [heap_alloc_old _ _ (Nat.lt_of_lt_of_le (lt_heap HT5.out) hb6.size), hb6.block _ (lt_heap HT5.out)]; exact HT5.out)); clear hb6)
          | (with_reducible refine ld_R3 rfl _ rfl w6.heap.size px rfl (heap_alloc_new _ _) ?_)
          | (with_reducible refine ld_R3 rfl _ rfl g t rfl HT6.out ?_)
          | ((with_reducible refine gate_st 23 _ _ rfl ?_); first
              | (refine wl_strn rfl 23 _ _ rfl (tC px) (tC t30) _ siz23 rfl (tC_one _) rfl rfl ?_)
              | (refine st_R3 rfl _ _ rfl (w.heap.size + 1) t30 t30 _ rfl rfl HG6.out ?_)))
        refine bodyPost_ret (res_rowc_tmp (P := Tryd.prog) (T := 23) (T' := 23) (t := 3) rfl _ _ (w.heap.size + 1) (tC t30) (0, 0) rfl (setRow_at HG6.out) Tryd.underlying23 rfl siz23) rfl ⟨?_, setRow_below (HB6.out.alloc HB6.out.size _) (by omega) _⟩
        rw [HOo.out.1, HOo.out.2]; rfl
      case true =>
        cases hpt : decide (px = t)
        case false =>
          rw [hpt] at HOo hn3
          clear hpt
          simp only [Bool.and_false, Bool.false_eq_true, if_false] at HOo
          go_wp2_with (first
            | (with_reducible refine ld_R3 rfl _ rfl g t rfl HGt.out ?_)
            | (go_at_call 16; (refine (HTx.out _).mono ?_); rintro e w5 ⟨rfl, hb5⟩; have HB5 := Lib.hid (HB2.out.trans (hb5.mono HB2.out.size)); have HG5 : Hid (w5.heap[w.heap.size + 1]? = some (.cells (tC t30) 23 (0, 0))) := (by (show _ = _; rw [hb5.block _ (lt_heap HG2.out)]; exact HG2.out)); have HT5 : Hid (w5.heap[g]? = some (.cells (tC t) 23 (0, 0))) := (by (show _ = _; rw [hb5.block _ hgt]; exact HGt.out)); clear hb5)
            | (go_at_call 11; (refine (HPx.out _).mono ?_); rintro e w6 ⟨rfl, hb6⟩; have HB6 := Lib.hid (HB5.out.trans (hb6.mono HB5.out.size)); have HG6 : Hid ((w6.alloc (.cells (tC px) 23)).heap[w.heap.size + 1]? = some (.cells (tC t30) 23 (0, 0))) := (by (show _ = _; rw [heap_alloc_old _ _ (Nat.lt_of_lt_of_le (lt_heap HG5.out) hb6.size), hb6.block _ (lt_heap HG5.out)]; exact HG5.out)); have HT6 : Hid ((w6.alloc (.cells (tC px) 23)).heap[g]? = some (.cells (tC t) 23 (0, 0))) := (by (show _ = _; rw [heap_alloc_old _ _ (Nat.lt_of_lt_of_le (lt_heap HT5.out) hb6.size), hb6.block _ (lt_heap HT5.out)]; exact HT5.out)); clear hb6)
            | (with_reducible refine ld_R3 rfl _ rfl w6.heap.size px rfl (heap_alloc_new _ _) ?_)
            | (with_reducible refine ld_R3 rfl _ rfl g t rfl HT6.out ?_)
            | ((with_reducible refine gate_st 23 _ _ rfl ?_); first
                | (refine wl_strn rfl 23 _ _ rfl (tC px) (tC t30) _ siz23 rfl (tC_one _) rfl rfl ?_)
                | (refine st_R3 rfl _ _ rfl (w.heap.size + 1) t30 t30 _ rfl rfl HG6.out ?_)))
          refine bodyPost_ret (res_rowc_tmp (P := Tryd.prog) (T := 23) (T' := 23) (t := 3) rfl _ _ (w.heap.size + 1) (tC t30) (0, 0) rfl (setRow_at HG6.out) Tryd.underlying23 rfl siz23) rfl ⟨?_, setRow_below (HB6.out.alloc HB6.out.size _) (by omega) _⟩
          rw [HOo.out.1, HOo.out.2]; rfl
        case true =>
          rw [hpt] at HOo hn3
          clear hpt
          simp only [Bool.and_self, if_true] at HOo
          go_wp2_with (first
            | (with_reducible refine ld_R3 rfl _ rfl g t rfl HGt.out ?_)
            | (go_at_call 16; (refine (HTx.out _).mono ?_); rintro e w5 ⟨rfl, hb5⟩; have HB5 := Lib.hid (HB2.out.trans (hb5.mono HB2.out.size)); have HG5 : Hid (w5.heap[w.heap.size + 1]? = some (.cells (tC t30) 23 (0, 0))) := (by (show _ = _; rw [hb5.block _ (lt_heap HG2.out)]; exact HG2.out)); have HT5 : Hid (w5.heap[g]? = some (.cells (tC t) 23 (0, 0))) := (by (show _ = _; rw [hb5.block _ hgt]; exact HGt.out)); clear hb5)
            | (go_at_call 11; (refine (HPx.out _).mono ?_); rintro e w6 ⟨rfl, hb6⟩; have HB6 := Lib.hid (HB5.out.trans (hb6.mono HB5.out.size)); have HG6 : Hid ((w6.alloc (.cells (tC px) 23)).heap[w.heap.size + 1]? = some (.cells (tC t30) 23 (0, 0))) := (by (show _ = _; rw [heap_alloc_old _ _ (Nat.lt_of_lt_of_le (lt_heap HG5.out) hb6.size), hb6.block _ (lt_heap HG5.out)]; exact HG5.out)); have HT6 : Hid ((w6.alloc (.cells (tC px) 23)).heap[g]? = some (.cells (tC t) 23 (0, 0))) := (by (show _ = _; rw [heap_alloc_old _ _ (Nat.lt_of_lt_of_le (lt_heap HT5.out) hb6.size), hb6.block _ (lt_heap HT5.out)]; exact HT5.out)); clear hb6)
            | (with_reducible refine ld_R3 rfl _ rfl w6.heap.size px rfl (heap_alloc_new _ _) ?_)
            | (with_reducible refine ld_R3 rfl _ rfl g t rfl HT6.out ?_)
            | ((with_reducible refine gate_st 23 _ _ rfl ?_); first
                | (refine wl_strn rfl 23 _ _ rfl (tC px) (tC t30) _ siz23 rfl (tC_one _) rfl rfl ?_)
                | (refine st_R3 rfl _ _ rfl (w.heap.size + 1) t t30 _ rfl rfl HG6.out ?_)))
          refine bodyPost_ret (res_rowc_tmp (P := Tryd.prog) (T := 23) (T' := 23) (t := 3) rfl _ _ (w.heap.size + 1) (tC t) (0, 0) rfl (setRow_at HG6.out) Tryd.underlying23 rfl siz23) rfl ⟨?_, setRow_below (HB6.out.alloc HB6.out.size _) (by omega) _⟩
          rw [HOo.out.1, HOo.out.2]; rfl
end Go.Proofs.YtnambaiafailaaaDoor
