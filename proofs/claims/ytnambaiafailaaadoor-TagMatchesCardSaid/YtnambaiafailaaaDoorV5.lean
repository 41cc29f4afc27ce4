/- The document's Parse. -/
import Derived.Test.YtnambaiafailaaaDoorU5
import Derived.Deep.DeepCutAuto
namespace Go.Proofs.YtnambaiafailaaaDoor
open Go.RowKit

def t30 : T3 := ⟨[], [], []⟩
def pR (s : List UInt8) : T3 := (parseT s).getD t30
def pB (s : List UInt8) : Bool := (parseT s).isSome
theorem tC_size (t : T3) : (tC t).size = 3 := rfl
theorem tC_one (t : T3) : (tC t).all (·.oneCell') = true := by simp [tC, Value.oneCell']
theorem siz23 : (Tryd.prog.info? 23).map (·.size) = some 3 := by kernel_rfl
theorem build30 (w : World) : (Instr.build 23 #[]).run Tryd.prog w = .ok (.agg (tC t30)) w := run_build w _ _ _ (by kernel_rfl)
theorem build3L (L : List UInt8) (w : World) : (Instr.build 23 #[(0, .string ⟨L.toArray⟩)]).run Tryd.prog w = .ok (.agg (tC ⟨L, [], []⟩)) w := run_build w _ _ _ (by kernel_rfl)
section
variable {ops : Array Oper} {rest : List Oper} {o : Oper} {a : Act} {w : World} {Q : Exit → Act → World → Prop}
theorem st_R3 (hgd : o.guard = none) (x y : Operand) (ho : o.op = .store 23 x y) (g : Nat) (e old : T3) (T' : TypeId)
    (hx : a.eval x = .pointer (some ⟨g, 0, none⟩)) (hy : a.eval y = .agg (tC e)) (hg : w.heap[g]? = some (.cells (tC old) T'))
    (h : wpList Tryd.prog ops Q rest (a.put o.dst undef) (w.setRow g (tC e))) : wpList Tryd.prog ops Q (o :: rest) a w :=
  wl_str hgd _ x y ho g (tC e) (tC old) T' siz23 rfl (tC_one e) hx hy hg h
theorem ld_R3 (hw : Region.wanted o (yielded ops a.tmps) = true) (x : Operand) (ho : o.op = .load 23 x) (g : Nat) (t : T3) (hx : a.eval x = .pointer (some ⟨g, 0, none⟩)) (hg : w.heap[g]? = some (.cells (tC t) 23 (0, 0)))
    (h : wpList Tryd.prog ops Q rest (a.put o.dst (.agg (tC t))) w) : wpList Tryd.prog ops Q (o :: rest) a w :=
  wl_ldr hw _ x ho g 0 (tC t).toList _ Tryd.underlying23 rfl siz23 hx (range_whole (by simpa using hg)) (by simpa using h)
end
/-- cut's answer, in one form. -/
def CutP (s : ByteArray) (w : World) (e : Ending) (w' : World) : Prop :=
  Below w.heap.size w w' ∧ ∃ (p r : ByteArray) (more : Bool) (rs : List (List UInt8)), e = .returned (.tuple #[.string p, .string r, .bool more]) ∧ spl 45 s.data.toList = p.data.toList :: rs ∧ (more = true → rs = spl 45 r.data.toList) ∧ (more = false → rs = []) ∧ p.size ≤ s.size ∧ r.size ≤ s.size ∧ (more = true → r.size < s.size)
theorem cut_one (s : ByteArray) (w : World) (hs : s.size ≤ 1000000) : Calls Tryd.prog 42 #[.string s] w fun e w' => CutP s w e w' :=
  (cut_any5 s w hs).mono fun e w' ⟨hb, h⟩ => by
    refine ⟨hb, ?_⟩
    rcases h with ⟨p, r, h1, h2, h3, h4⟩ | ⟨h1, h2⟩
    · exact ⟨p, r, true, _, h1, h2, fun _ => rfl, fun h => (by cases h), h3, by omega, fun _ => h4⟩
    · exact ⟨s, ⟨#[]⟩, false, [], h1, h2, fun h => (by cases h), fun _ => rfl, Nat.le_refl _, Nat.zero_le _, fun h => by cases h⟩
theorem kind_cases (l : List UInt8) : (kindL l = 1 ∧ l.all ltB = true) ∨ (kindL l = 2 ∧ l.all ltB = false ∧ l.all dgB = true) ∨ (kindL l = 0 ∧ l.all ltB = false ∧ l.all dgB = false) := by
  unfold kindL
  cases h : l.all ltB <;> cases h2 : l.all dgB <;> simp
theorem lt_not_dg {l : List UInt8} (h : l.all ltB = true) (hn : 0 < l.length) : l.all dgB = false := by
  cases l with
  | nil => simp at hn
  | cons c l =>
    simp only [List.all_cons, Bool.and_eq_true] at h
    rw [List.all_cons, lt_dg c h.1]; rfl
/-- The world in which Parse goes on. -/
structure RSt (w : World) (g : Nat) (t : T3) (wr : World) : Prop where
  bel : Below w.heap.size w wr
  r : wr.heap[w.heap.size]? = some (.cells (tC t30) 23 (0, 0))
  lt : w.heap.size < g
  t : wr.heap[g]? = some (.cells (tC t) 23 (0, 0))
theorem RSt.below {w wr w' : World} {g : Nat} {t : T3} (h : RSt w g t wr) (hb : Below wr.heap.size wr w') : RSt w g t w' :=
  ⟨h.bel.trans (hb.mono h.bel.size), by rw [hb.block _ (lt_heap h.r)]; exact h.r, h.lt, by rw [hb.block _ (lt_heap h.t)]; exact h.t⟩
theorem RSt.cells {w wr : World} {g : Nat} {t : T3} (h : RSt w g t wr) : wr.cell? ⟨g, 0, none⟩ = some (.string ⟨t.lang.toArray⟩) ∧ wr.cell? ⟨g, 1, none⟩ = some (.string ⟨t.script.toArray⟩) ∧ wr.cell? ⟨g, 2, none⟩ = some (.string ⟨t.region.toArray⟩) ∧ wr.frozen? ⟨g, 1, none⟩ = false ∧ wr.frozen? ⟨g, 2, none⟩ = false := by
  refine ⟨by rw [cell_blk h.t]; rfl, by rw [cell_blk h.t]; rfl, by rw [cell_blk h.t]; rfl, by simp [World.frozen?, h.t], by simp [World.frozen?, h.t]⟩
theorem RSt.set1 {w wr : World} {g : Nat} {t : T3} (h : RSt w g t wr) (l : List UInt8) : RSt w g { t with script := l } (wr.setCell ⟨g, 1, none⟩ (.string ⟨l.toArray⟩)) :=
  ⟨h.bel.setCell (p := ⟨g, 1, none⟩) (Nat.le_of_lt h.lt) _, by rw [heap_setCell_other _ (Nat.ne_of_lt h.lt)]; exact h.r, h.lt, by rw [heap_setCell_self _ h.t]; rfl⟩
theorem RSt.set2 {w wr : World} {g : Nat} {t : T3} (h : RSt w g t wr) (l : List UInt8) : RSt w g { t with region := l } (wr.setCell ⟨g, 2, none⟩ (.string ⟨l.toArray⟩)) :=
  ⟨h.bel.setCell (p := ⟨g, 2, none⟩) (Nat.le_of_lt h.lt) _, by rw [heap_setCell_other _ (Nat.ne_of_lt h.lt)]; exact h.r, h.lt, by rw [heap_setCell_self _ h.t]; rfl⟩
theorem turn_title {p : List UInt8} (h : p ≠ []) : turnL true (p.take 1) ++ turnL false (p.drop 1) = titleL p := by
  cases p with
  | nil => exact absurd rfl h
  | cons c p => rfl
def ma (r : Value) (m : Value) : Nat := match m, r with
  | .bool true, .string s => s.size + 1
  | _, _ => 0
set_option maxRecDepth 100000 in
set_option maxHeartbeats 8000000 in
theorem refParse5_any (s : ByteArray) (w : World) (hs : s.size ≤ 1000000) :
    Calls Tryd.prog 11 #[.string s] w fun e w' => e = .returned (.tuple #[.agg (tC (pR s.data.toList)), .bool (pB s.data.toList)]) ∧ Below w.heap.size w w' := by
  have he : ∀ W, (binOp .eql 9 (.string s) (.string ⟨#[114, 111, 111, 116]⟩)).run Tryd.prog W = .ok (.bool (decide (s.data.toList = rootL))) W := fun W => eqlS s ⟨#[114, 111, 111, 116]⟩ W
  have hbq := root_beq s
  have HB1 : Hid (Below w.heap.size w (w.alloc (.cells (tC t30) 23))) := below_alloc1 _ _
  have HG1 : Hid ((w.alloc (.cells (tC t30) 23)).heap[w.heap.size]? = some (.cells (tC t30) 23 (0, 0))) := heap_alloc_new _ _
  have hb30 := build30
  have hbad : parseT s.data.toList = none → pR s.data.toList = t30 ∧ pB s.data.toList = false := fun h => by rw [pR, pB, h]; exact ⟨rfl, rfl⟩
  have HBad := Lib.hid hbad
  clear hbad
  by_cases hroot : s.data.toList = rootL
  · have H1 : Hid (pR s.data.toList = t30 ∧ pB s.data.toList = true) := by
      show _ ∧ _
      rw [pR, pB, parseT, if_pos hroot]; exact ⟨rfl, rfl⟩
    rw [decide_eq_true hroot] at he hbq
    clear hroot
    go_enter Tryd.func11, Tryd.ntmps11
    go_wp2_with ((with_reducible refine gate_st 23 _ _ rfl ?_); refine st_R3 rfl _ _ rfl w.heap.size t30 t30 _ rfl rfl HG1.out ?_)
    refine bodyPost_ret (res_rowc_tmp (P := Tryd.prog) (T := 23) (T' := 23) (t := 3) rfl _ _ w.heap.size (tC t30) (0, 0) rfl (setRow_at HG1.out) Tryd.underlying23 rfl siz23) rfl ⟨?_, setRow_below HB1.out (Nat.le_refl _) _⟩
    rw [H1.out.1, H1.out.2]; rfl
  · have HPT : Hid (parseT s.data.toList = parseR (spl 45 s.data.toList)) := by show parseT _ = _; rw [parseT, if_neg hroot]
    rw [decide_eq_false hroot] at he hbq
    clear hroot
    have HC : Hid (∀ W, Calls Tryd.prog 42 #[.string s] W fun e w' => CutP s W e w') := fun W => cut_one s W hs
    go_enter Tryd.func11, Tryd.ntmps11
    go_upto_region 4 with (go_at_call 42; (refine (HC.out _).mono ?_); rintro e w1 ⟨hb1, p, r, more, rs, rfl, hsp, hm1, hm2, hp1, hr1, _⟩)
    have HB2 := Lib.hid (HB1.out.trans (hb1.mono HB1.out.size))
    have HG2 : Hid (w1.heap[w.heap.size]? = some (.cells (tC t30) 23 (0, 0))) := by show _ = _; rw [hb1.block _ (lt_heap HG1.out)]; exact HG1.out
    have HPP : Hid (parseT s.data.toList = if isLang p.data.toList then foldT ⟨p.data.toList.map loB, [], []⟩ rs else none) := by
      show parseT _ = _
      rw [HPT.out, hsp, parseR_fold]
    have hps : p.size ≤ 1000000 := by omega
    have hrs : r.size ≤ 1000000 := by omega
    have HK : Hid (∀ W : World, Calls Tryd.prog 43 #[.string p] W fun e w' => e = .returned (.int .i64 (kindL p.data.toList)) ∧ W = w') := fun W => kind_any p W hps
    have hpl : p.data.toList.length = p.size := by simp
    have HM : Hid ((more = true → rs = spl 45 r.data.toList) ∧ (more = false → rs = [])) := ⟨hm1, hm2⟩
    clear hb1 hsp hm1 hm2 hp1 hr1 HPT HC HB1 HG1 he hbq hs
    by_cases hok : (2 ≤ p.size ∧ p.size ≤ 3) ∧ p.data.toList.all ltB = true
    case neg =>
      have HT : Hid (pR s.data.toList = t30 ∧ pB s.data.toList = false) := HBad.out (by
        rw [HPP.out, if_neg]
        rw [isLang, hpl]
        intro hh
        simp only [Bool.and_eq_true, decide_eq_true_eq] at hh
        exact hok hh)
      clear HBad HPP HM
      rcases kind_cases p.data.toList with ⟨hk, ha⟩ | ⟨hk, ha, _⟩ | ⟨hk, ha, _⟩
      all_goals rw [hk] at HK; clear hk
      case inl =>
        by_cases h2 : (p.size : Int) < 2
        · clear hok ha
          go_wp2_with (first
            | (go_at_call 43; (refine (HK.out _).mono ?_); rintro e w' ⟨rfl, rfl⟩)
            | ((with_reducible refine gate_st 23 _ _ rfl ?_); refine st_R3 rfl _ _ rfl w.heap.size t30 t30 _ rfl rfl HG2.out ?_))
          refine bodyPost_ret (res_rowc_tmp (P := Tryd.prog) (T := 23) (T' := 23) (t := 3) rfl _ _ w.heap.size (tC t30) (0, 0) rfl (setRow_at HG2.out) Tryd.underlying23 rfl siz23) rfl ⟨?_, setRow_below HB2.out (Nat.le_refl _) _⟩
          rw [HT.out.1, HT.out.2]; rfl
        · have h3 : (3 : Int) < p.size := by
            rcases Nat.lt_or_ge 3 p.size with h | h
            · omega
            · exact absurd ⟨⟨by omega, h⟩, ha⟩ hok
          clear hok ha
          go_wp2_with (first
            | (go_at_call 43; (refine (HK.out _).mono ?_); rintro e w' ⟨rfl, rfl⟩)
            | ((with_reducible refine gate_st 23 _ _ rfl ?_); refine st_R3 rfl _ _ rfl w.heap.size t30 t30 _ rfl rfl HG2.out ?_))
          refine bodyPost_ret (res_rowc_tmp (P := Tryd.prog) (T := 23) (T' := 23) (t := 3) rfl _ _ w.heap.size (tC t30) (0, 0) rfl (setRow_at HG2.out) Tryd.underlying23 rfl siz23) rfl ⟨?_, setRow_below HB2.out (Nat.le_refl _) _⟩
          rw [HT.out.1, HT.out.2]; rfl
      all_goals
        clear hok ha
        go_wp2_with (first
          | (go_at_call 43; (refine (HK.out _).mono ?_); rintro e w' ⟨rfl, rfl⟩)
          | ((with_reducible refine gate_st 23 _ _ rfl ?_); refine st_R3 rfl _ _ rfl w.heap.size t30 t30 _ rfl rfl HG2.out ?_))
        refine bodyPost_ret (res_rowc_tmp (P := Tryd.prog) (T := 23) (T' := 23) (t := 3) rfl _ _ w.heap.size (tC t30) (0, 0) rfl (setRow_at HG2.out) Tryd.underlying23 rfl siz23) rfl ⟨?_, setRow_below HB2.out (Nat.le_refl _) _⟩
        rw [HT.out.1, HT.out.2]; rfl
    case pos =>
      obtain ⟨⟨h2, h3⟩, hall⟩ := hok
      have h2' : (2 : Int) ≤ p.size := by omega
      have h3' : (p.size : Int) ≤ 3 := by omega
      have d1 : decide ((p.size : Int) < 2) = false := decide_eq_false (by omega)
      have d2 : decide ((3 : Int) < (p.size : Int)) = false := decide_eq_false (by omega)
      have hk1 : kindL p.data.toList = 1 := by rw [kindL, if_pos hall]
      rw [hk1] at HK
      have HP2 : Hid (parseT s.data.toList = foldT ⟨turnL false p.data.toList, [], []⟩ rs) := by
        show _ = _
        rw [HPP.out, if_pos (by rw [isLang, hall, hpl, decide_eq_true ⟨h2, h3⟩]; rfl)]; rfl
      have HTu : Hid (∀ W : World, Calls Tryd.prog 44 #[.string p, .bool false] W fun e w' => e = .returned (.string ⟨(turnL false p.data.toList).toArray⟩) ∧ Below W.heap.size W w') := fun W => turn_any p false W hps
      have hb3 := build3L (turnL false p.data.toList)
      clear hall hk1 HPP hpl
      generalize turnL false p.data.toList = L at *
      go_upto_region 7 with (first
          | (go_at_call 43; (refine (HK.out _).mono ?_); rintro e w' ⟨rfl, rfl⟩)
          | (go_at_call 44; (refine (HTu.out _).mono ?_); rintro e w2 ⟨rfl, hb2⟩)
          | ((with_reducible refine gate_st 23 _ _ rfl ?_); refine wl_strn rfl 23 _ _ rfl (tC ⟨L, [], []⟩) (tC t30) _ siz23 rfl (tC_one _) rfl rfl ?_))
      have HS : Hid (RSt w w2.heap.size ⟨L, [], []⟩ (w2.alloc (.cells (tC ⟨L, [], []⟩) 23))) := by
        have h5 := HB2.out.trans (hb2.mono HB2.out.size)
        have h6 : w2.heap[w.heap.size]? = some (.cells (tC t30) 23 (0, 0)) := by rw [hb2.block _ (lt_heap HG2.out)]; exact HG2.out
        exact ⟨h5.alloc h5.size _, (heap_alloc_old _ _ (lt_heap h6)).trans h6, lt_heap h6, heap_alloc_new _ _⟩
      clear hb2 HG2 HB2 hb3 HTu HK
      generalize w2.alloc (.cells (tC ⟨L, [], []⟩) 23) = W3 at *
      generalize w2.heap.size = g at *
      generalize (⟨L, [], []⟩ : T3) = t0 at *
      have HM' := HM
      clear h2 h3 h2' h3' hps HM
      clear d1 d2
      simp only [Act.put]
      go_wp2_with fail
      go_loopw [5, 6] (fun sr sm wr => ∃ (r : ByteArray) (more : Bool) (t : T3) (rs : List (List UInt8)), sr = .string r ∧ sm = .bool more ∧ r.size ≤ 1000000 ∧ Hid ((more = true → rs = spl 45 r.data.toList) ∧ (more = false → rs = [])) ∧ Hid (parseT s.data.toList = foldT t rs) ∧ Hid (RSt w g t wr)) (fun sr sm _ => ma sr sm)
      case atStart => exact ⟨r, more, t0, rs, rfl, rfl, hrs, HM'.out, HP2.out, HS.out⟩
      case round =>
        clear HS HP2 HM' hrs
        obtain ⟨r, more, t, rs, rfl, rfl, hrs, HM, HF, HR⟩ := hrel
        cases more
        case false =>
          have HPt : Hid (parseT s.data.toList = some t) := by show _ = _; rw [HF.out, HM.out.2 rfl]; rfl
          have HT : Hid (pR s.data.toList = t ∧ pB s.data.toList = true) := by show _ ∧ _; rw [pR, pB, HPt.out]; exact ⟨rfl, rfl⟩
          go_wp2_with (first
            | (with_reducible refine ld_R3 rfl _ rfl g t rfl HR.out.t ?_)
            | ((with_reducible refine gate_st 23 _ _ rfl ?_); refine st_R3 rfl _ _ rfl w.heap.size t t30 _ rfl rfl HR.out.r ?_))
          refine bodyPost_ret (res_rowc_tmp (P := Tryd.prog) (T := 23) (T' := 23) (t := 3) rfl _ _ w.heap.size (tC t) (0, 0) rfl (setRow_at HR.out.r) Tryd.underlying23 rfl siz23) rfl ⟨?_, setRow_below HR.out.bel (Nat.le_refl _) _⟩
          rw [HT.out.1, HT.out.2]; rfl
        case true =>
          have HC : Hid (∀ W, Calls Tryd.prog 42 #[.string r] W fun e w' => CutP r W e w') := fun W => cut_one r W hrs
          go_upto_region 9 with (go_at_call 42; (refine (HC.out _).mono ?_); rintro e w1 ⟨hb1, p2, r2, more2, rs2, rfl, hsp, hm1, hm2, hp1, hr1, hr3⟩)
          have HR1 := Lib.hid (HR.out.below hb1)
          have HF1 : Hid (parseT s.data.toList = match stepT t p2.data.toList with | some t' => foldT t' rs2 | none => none) := by
            show _ = _
            rw [HF.out, HM.out.1 (by simp), hsp]; rfl
          have HM2 : Hid ((more2 = true → rs2 = spl 45 r2.data.toList) ∧ (more2 = false → rs2 = [])) := ⟨hm1, hm2⟩
          have hps : p2.size ≤ 1000000 := by omega
          have hrs2 : r2.size ≤ 1000000 := by omega
          have HMe : Hid (more2 = true → r2.size < r.size) := hr3
          have HK : Hid (∀ W : World, Calls Tryd.prog 43 #[.string p2] W fun e w' => e = .returned (.int .i64 (kindL p2.data.toList)) ∧ W = w') := fun W => kind_any p2 W hps
          have hpl : p2.data.toList.length = p2.size := by simp
          have HIS : Hid (isScript p2.data.toList = (decide (p2.size = 4) && p2.data.toList.all ltB)) := by show isScript _ = _; rw [isScript, hpl]
          have HIR : Hid (isRegion p2.data.toList = ((decide (p2.size = 2) && p2.data.toList.all ltB) || (decide (p2.size = 3) && p2.data.toList.all dgB))) := by show isRegion _ = _; rw [isRegion, hpl]
          have HTu : Hid (∀ W : World, Calls Tryd.prog 44 #[.string p2, .bool true] W fun e w' => e = .returned (.string ⟨(turnL true p2.data.toList).toArray⟩) ∧ Below W.heap.size W w') := fun W => turn_any p2 true W hps
          clear HC hb1 hsp hm1 hm2 hp1 hr1 hr3 HR HF HM hpl
          go_cut [8] (fun b1 wx => b1 = .bool (isScript p2.data.toList) ∧ Hid (RSt w g t wx))
          case first =>
            rcases kind_cases p2.data.toList with ⟨hk, ha⟩ | ⟨hk, ha, _⟩ | ⟨hk, ha, _⟩
            all_goals (rw [hk] at HK; rw [ha] at HIS; clear hk ha)
            case inl =>
              by_cases h4 : p2.size = 4
              · have e4 : ((p2.size : Int) == 4) = true := by rw [h4]; rfl
                rw [h4] at HIS
                clear h4
                go_wp2_with (go_at_call 43; (refine (HK.out _).mono ?_); rintro e w' ⟨rfl, rfl⟩)
                go_meet
                exact ⟨by rw [HIS.out]; rfl, HR1.out⟩
              · have e4 : ((p2.size : Int) == 4) = false := by rw [beq_eq_false_iff_ne]; omega
                rw [decide_eq_false h4] at HIS
                clear h4
                go_wp2_with (go_at_call 43; (refine (HK.out _).mono ?_); rintro e w' ⟨rfl, rfl⟩)
                go_meet
                exact ⟨by rw [HIS.out]; rfl, HR1.out⟩
            all_goals
              go_wp2_with (go_at_call 43; (refine (HK.out _).mono ?_); rintro e w' ⟨rfl, rfl⟩)
              go_meet
              exact ⟨by rw [HIS.out, Bool.and_false], HR1.out⟩
          case rest =>
            clear HR1 HIS
            obtain ⟨rfl, HR1⟩ := hcut
            go_upto_region 10 with fail
            go_cut [9] (fun b1 wx => b1 = .bool (isRegion p2.data.toList) ∧ Hid (RSt w g t wx))
            case first =>
              rcases kind_cases p2.data.toList with ⟨hk, ha⟩ | ⟨hk, ha, hd⟩ | ⟨hk, ha, hd⟩
              case inl =>
                have hnd : p2.size = 3 → p2.data.toList.all dgB = false := fun h => lt_not_dg ha (by simp; omega)
                rw [hk] at HK; rw [ha] at HIR; clear hk ha
                by_cases h4 : p2.size = 2
                case pos =>
                  have e4 : ((p2.size : Int) == 2) = true := by rw [h4]; rfl
                  rw [h4] at HIR
                  clear h4 hnd
                  go_wp2_with (go_at_call 43; (refine (HK.out _).mono ?_); rintro e w' ⟨rfl, rfl⟩)
                  go_meet
                  exact ⟨by rw [HIR.out]; rfl, HR1.out⟩
                case neg =>
                  have e4 : ((p2.size : Int) == 2) = false := by rw [beq_eq_false_iff_ne]; omega
                  rw [decide_eq_false h4] at HIR
                  have HIN : Hid (isRegion p2.data.toList = false) := by
                    show _ = _
                    rw [HIR.out]
                    by_cases h5 : p2.size = 3
                    · rw [hnd h5]; simp
                    · rw [decide_eq_false h5]; rfl
                  clear h4 hnd
                  go_wp2_with (go_at_call 43; (refine (HK.out _).mono ?_); rintro e w' ⟨rfl, rfl⟩)
                  go_meet
                  exact ⟨by rw [HIN.out], HR1.out⟩
              case inr.inl =>
                rw [hk] at HK; rw [ha, hd] at HIR; clear hk ha hd
                by_cases h4 : p2.size = 3
                case pos =>
                  have e4 : ((p2.size : Int) == 3) = true := by rw [h4]; rfl
                  rw [h4] at HIR
                  clear h4
                  go_wp2_with (go_at_call 43; (refine (HK.out _).mono ?_); rintro e w' ⟨rfl, rfl⟩)
                  go_meet
                  exact ⟨by rw [HIR.out]; simp, HR1.out⟩
                case neg =>
                  have e4 : ((p2.size : Int) == 3) = false := by rw [beq_eq_false_iff_ne]; omega
                  rw [decide_eq_false h4] at HIR
                  clear h4
                  go_wp2_with (go_at_call 43; (refine (HK.out _).mono ?_); rintro e w' ⟨rfl, rfl⟩)
                  go_meet
                  exact ⟨by rw [HIR.out]; simp, HR1.out⟩
              case inr.inr =>
                rw [hk] at HK; rw [ha, hd] at HIR; clear hk ha hd
                go_wp2_with (go_at_call 43; (refine (HK.out _).mono ?_); rintro e w' ⟨rfl, rfl⟩)
                go_meet
                exact ⟨by rw [HIR.out]; simp, HR1.out⟩
            case rest =>
              clear HR1 HIR HK
              obtain ⟨rfl, HR1⟩ := hcut
              obtain ⟨hc0, hc1, hc2, hf1, hf2⟩ := HR1.out.cells
              obtain ⟨TL, TS, TR⟩ := t
              simp only at hc0 hc1 hc2
              have n1 := fun W => eqE5 TS W
              have n2 := fun W => eqE5 TR W
              have m1 := emp5 TS
              have m2 := emp5 TR
              cases hns : isScript p2.data.toList <;> cases hnr : isRegion p2.data.toList
              case false.false =>
                have HT : Hid (pR s.data.toList = t30 ∧ pB s.data.toList = false) := HBad.out (by rw [HF1.out, stepT, if_neg (fun e => (by rw [hns] at e; exact absurd e.1 (by simp))), if_neg (fun e => (by rw [hnr] at e; exact absurd e.1 (by simp)))])
                go_wp2_with ((with_reducible refine gate_st 23 _ _ rfl ?_); refine st_R3 rfl _ _ rfl w.heap.size t30 t30 _ rfl rfl HR1.out.r ?_)
                refine bodyPost_ret (res_rowc_tmp (P := Tryd.prog) (T := 23) (T' := 23) (t := 3) rfl _ _ w.heap.size (tC t30) (0, 0) rfl (setRow_at HR1.out.r) Tryd.underlying23 rfl siz23) rfl ⟨?_, setRow_below HR1.out.bel (Nat.le_refl _) _⟩
                rw [HT.out.1, HT.out.2]; rfl
              case false.true =>
                cases TR with
                | nil =>
                  simp only [List.isEmpty_nil] at n2 m2
                  have HF2 : Hid (parseT s.data.toList = foldT ⟨TL, TS, p2.data.toList.map upB⟩ rs2) := by
                    show _ = _
                    rw [HF1.out, stepT, if_neg (fun e => (by rw [hns] at e; exact absurd e.1 (by simp))), if_pos ⟨hnr, rfl⟩]
                  clear hns hnr HF1
                  go_upto_region 14 with fail
                  have HR0 := HR1
                  go_wp2_with (go_at_call 44; (refine (HTu.out _).mono ?_); rintro e w5 ⟨rfl, hb5⟩; have HR5 := Lib.hid (HR0.out.below hb5); obtain ⟨k0, k1, k2, kf1, kf2⟩ := HR5.out.cells; clear hb5)
                  go_roundw
                  case rel => exact ⟨r2, more2, ⟨TL, TS, p2.data.toList.map upB⟩, rs2, rfl, rfl, hrs2, HM2.out, HF2.out, HR5.out.set2 _⟩
                  case measure =>
                    have := HMe.out
                    cases more2
                    · simp [ma]
                    · have := this rfl; simp [ma]; omega
                | cons c TR =>
                  simp only [List.isEmpty_cons] at n2 m2
                  have HT : Hid (pR s.data.toList = t30 ∧ pB s.data.toList = false) := HBad.out (by rw [HF1.out, stepT, if_neg (fun e => (by rw [hns] at e; exact absurd e.1 (by simp))), if_neg (fun e => absurd e.2 (by simp))])
                  go_wp2_with ((with_reducible refine gate_st 23 _ _ rfl ?_); refine st_R3 rfl _ _ rfl w.heap.size t30 t30 _ rfl rfl HR1.out.r ?_)
                  refine bodyPost_ret (res_rowc_tmp (P := Tryd.prog) (T := 23) (T' := 23) (t := 3) rfl _ _ w.heap.size (tC t30) (0, 0) rfl (setRow_at HR1.out.r) Tryd.underlying23 rfl siz23) rfl ⟨?_, setRow_below HR1.out.bel (Nat.le_refl _) _⟩
                  rw [HT.out.1, HT.out.2]; rfl
              case true.false =>
                cases TR with
                | cons c TR =>
                  simp only [List.isEmpty_cons] at n2 m2
                  cases TS with
                  | nil =>
                    simp only [List.isEmpty_nil] at n1 m1
                    have HT : Hid (pR s.data.toList = t30 ∧ pB s.data.toList = false) := HBad.out (by rw [HF1.out, stepT, if_neg (fun e => absurd e.2.2 (by simp)), if_neg (fun e => absurd e.2 (by simp))])
                    go_wp2_with ((with_reducible refine gate_st 23 _ _ rfl ?_); refine st_R3 rfl _ _ rfl w.heap.size t30 t30 _ rfl rfl HR1.out.r ?_)
                    refine bodyPost_ret (res_rowc_tmp (P := Tryd.prog) (T := 23) (T' := 23) (t := 3) rfl _ _ w.heap.size (tC t30) (0, 0) rfl (setRow_at HR1.out.r) Tryd.underlying23 rfl siz23) rfl ⟨?_, setRow_below HR1.out.bel (Nat.le_refl _) _⟩
                    rw [HT.out.1, HT.out.2]; rfl
                  | cons d TS =>
                    simp only [List.isEmpty_cons] at n1 m1
                    have HT : Hid (pR s.data.toList = t30 ∧ pB s.data.toList = false) := HBad.out (by rw [HF1.out, stepT, if_neg (fun e => absurd e.2.2 (by simp)), if_neg (fun e => absurd e.2 (by simp))])
                    go_wp2_with ((with_reducible refine gate_st 23 _ _ rfl ?_); refine st_R3 rfl _ _ rfl w.heap.size t30 t30 _ rfl rfl HR1.out.r ?_)
                    refine bodyPost_ret (res_rowc_tmp (P := Tryd.prog) (T := 23) (T' := 23) (t := 3) rfl _ _ w.heap.size (tC t30) (0, 0) rfl (setRow_at HR1.out.r) Tryd.underlying23 rfl siz23) rfl ⟨?_, setRow_below HR1.out.bel (Nat.le_refl _) _⟩
                    rw [HT.out.1, HT.out.2]; rfl
                | nil =>
                  simp only [List.isEmpty_nil] at n2 m2
                  cases TS with
                  | cons d TS =>
                    simp only [List.isEmpty_cons] at n1 m1
                    have HT : Hid (pR s.data.toList = t30 ∧ pB s.data.toList = false) := HBad.out (by rw [HF1.out, stepT, if_neg (fun e => absurd e.2.1 (by simp)), if_neg (fun e => (by rw [hnr] at e; exact absurd e.1 (by simp)))])
                    go_wp2_with ((with_reducible refine gate_st 23 _ _ rfl ?_); refine st_R3 rfl _ _ rfl w.heap.size t30 t30 _ rfl rfl HR1.out.r ?_)
                    refine bodyPost_ret (res_rowc_tmp (P := Tryd.prog) (T := 23) (T' := 23) (t := 3) rfl _ _ w.heap.size (tC t30) (0, 0) rfl (setRow_at HR1.out.r) Tryd.underlying23 rfl siz23) rfl ⟨?_, setRow_below HR1.out.bel (Nat.le_refl _) _⟩
                    rw [HT.out.1, HT.out.2]; rfl
                  | nil =>
                    simp only [List.isEmpty_nil] at n1 m1
                    have h4 : p2.size = 4 := by have := isScript_len hns; simpa using this
                    have HF2 : Hid (parseT s.data.toList = foldT ⟨TL, titleL p2.data.toList, []⟩ rs2) := by
                      show _ = _
                      rw [HF1.out, stepT, if_pos ⟨hns, rfl, rfl⟩]
                    have hx1 : (p2.extract 0 1).data.toList = p2.data.toList.take 1 := by rw [Lib.extract_data, List.drop_zero]
                    have hx2 : (p2.extract 1 p2.size).data.toList = p2.data.toList.drop 1 := by rw [Lib.extract_data, List.take_of_length_le (by simp)]
                    have HTa : Hid (∀ W : World, Calls Tryd.prog 44 #[.string (p2.extract 0 1), .bool true] W fun e w' => e = .returned (.string ⟨(turnL true (p2.data.toList.take 1)).toArray⟩) ∧ Below W.heap.size W w') := fun W => by have := turn_any (p2.extract 0 1) true W (by rw [ByteArray.size_extract]; omega); rwa [hx1] at this
                    have HTb : Hid (∀ W : World, Calls Tryd.prog 44 #[.string (p2.extract 1 p2.size), .bool false] W fun e w' => e = .returned (.string ⟨(turnL false (p2.data.toList.drop 1)).toArray⟩) ∧ Below W.heap.size W w') := fun W => by have := turn_any (p2.extract 1 p2.size) false W (by rw [ByteArray.size_extract]; omega); rwa [hx2] at this
                    have hl4 : p2.data.toList.length = 4 := by simpa using h4
                    have htl := turn_title (p := p2.data.toList) (by intro e; rw [e] at hl4; simp at hl4)
                    have hla : (turnL true (p2.data.toList.take 1)).length ≤ 10 := by simp [turnL]; omega
                    have hlb : (turnL false (p2.data.toList.drop 1)).length ≤ 10 := by simp [turnL]; omega
                    generalize turnL true (p2.data.toList.take 1) = ta at *
                    generalize turnL false (p2.data.toList.drop 1) = tb at *
                    have hcat : ∀ W, (binOp .add 9 (.string ⟨ta.toArray⟩) (.string ⟨tb.toArray⟩)).run Tryd.prog W = .ok (.string ⟨(titleL p2.data.toList).toArray⟩) W := fun W => by
                      rw [← htl]
                      exact catS5 _ _ (by omega) W
                    have hcc : (⟨ta.toArray⟩ : ByteArray) ++ ⟨tb.toArray⟩ = ⟨(titleL p2.data.toList).toArray⟩ := by rw [ba_add, htl]
                    have hzz : ¬ 9223372036854775807 < ta.length + tb.length := by omega
                    clear htl hla hlb
                    generalize titleL p2.data.toList = tt at *
                    have hz1 : (1 : Int) ≤ (p2.size : Int) := by omega
                    clear hns hnr HF1 h4 hx1 hx2 hl4
                    have HR0 := HR1
                    go_upto_region 12 with fail
                    refine wp_region_below_tail 8 (by kernel_rfl) (by kernel_rfl) ?_
                    simp only [List.take_succ_cons, List.take_zero, List.drop_succ_cons, List.drop_zero]
                    repeat (go_big_quiet_step (first | (with_reducible exact rg_call HTa.out _ _) | (with_reducible exact rg_call HTb.out _ _)))
                    refine wpQuiet_nil ?_
                    rintro _ ⟨⟨dq, osq⟩, rfl⟩
                    have HR5 := Lib.hid (HR0.out.below (below_regrown _ dq osq))
                    obtain ⟨k0, k1, k2, kf1, kf2⟩ := HR5.out.cells
                    clear hc0 hc1 hc2 hf1 hf2 HR1 HR0
                    generalize Sort.grow (redrawn _ dq) osq = w5 at *
                    go_wp2_with fail
                    go_roundw
                    case rel => exact ⟨r2, more2, ⟨TL, tt, []⟩, rs2, rfl, rfl, hrs2, HM2.out, HF2.out, HR5.out.set1 _⟩
                    case measure =>
                      have := HMe.out
                      cases more2
                      · simp [ma]
                      · have := this rfl; simp [ma]; omega
              case true.true => rw [scr_not_reg hns] at hnr; cases hnr
end Go.Proofs.YtnambaiafailaaaDoor
