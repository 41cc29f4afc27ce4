/- Chapter 05's document on tags (texts of wip/T05, printed by gTG.py). -/
import Derived.Test.YtagdedjclbmlkaaTG1
/- The document's Parse. -/
namespace Go.Proofs.Ytagdedjclbmlkaa.Tg
open Go.RowKit

def t30 : T3 := ⟨[], [], []⟩
def pR (s : List UInt8) : T3 := (parseT s).getD t30
def pB (s : List UInt8) : Bool := (parseT s).isSome
theorem tC_size (t : T3) : (tC t).size = 3 := rfl
theorem tC_one (t : T3) : (tC t).all (·.oneCell') = true := by simp [tC, Value.oneCell']
theorem siz23 : (Try.prog.info? 102).map (·.size) = some 3 := by kernel_rfl
theorem build30 (w : World) : (Instr.build 102 #[]).run Try.prog w = .ok (.agg (tC t30)) w := run_build w _ _ _ (by kernel_rfl)
theorem build3L (L : List UInt8) (w : World) : (Instr.build 102 #[(0, .string ⟨L.toArray⟩)]).run Try.prog w = .ok (.agg (tC ⟨L, [], []⟩)) w := run_build w _ _ _ (by kernel_rfl)
section
variable {ops : Array Oper} {rest : List Oper} {o : Oper} {a : Act} {w : World} {Q : Exit → Act → World → Prop}
theorem st_R3 (hgd : o.guard = none) (x y : Operand) (ho : o.op = .store 102 x y) (g : Nat) (e old : T3) (T' : TypeId)
    (hx : a.eval x = .pointer (some ⟨g, 0, none⟩)) (hy : a.eval y = .agg (tC e)) (hg : w.heap[g]? = some (.cells (tC old) T'))
    (h : wpList Try.prog ops Q rest (a.put o.dst undef) (w.setRow g (tC e))) : wpList Try.prog ops Q (o :: rest) a w :=
  wl_str hgd _ x y ho g (tC e) (tC old) T' siz23 rfl (tC_one e) hx hy hg h
theorem ld_R3 (hw : Region.wanted o (yielded ops a.tmps) = true) (x : Operand) (ho : o.op = .load 102 x) (g : Nat) (t : T3) (hx : a.eval x = .pointer (some ⟨g, 0, none⟩)) (hg : w.heap[g]? = some (.cells (tC t) 102 (0, 0)))
    (h : wpList Try.prog ops Q rest (a.put o.dst (.agg (tC t))) w) : wpList Try.prog ops Q (o :: rest) a w :=
  wl_ldr hw _ x ho g 0 (tC t).toList _ Try.underlying102 rfl siz23 hx (range_whole (by simpa using hg)) (by simpa using h)
end
/-- cut's answer, in one form. -/
def CutP (s : ByteArray) (w : World) (e : Ending) (w' : World) : Prop :=
  Below w.heap.size w w' ∧ ∃ (p r : ByteArray) (more : Bool) (rs : List (List UInt8)), e = .returned (.tuple #[.string p, .string r, .bool more]) ∧ spl 45 s.data.toList = p.data.toList :: rs ∧ (more = true → rs = spl 45 r.data.toList) ∧ (more = false → rs = []) ∧ p.size ≤ s.size ∧ r.size ≤ s.size ∧ (more = true → r.size < s.size)
theorem cut_one (s : ByteArray) (w : World) (hs : s.size ≤ 1000000) : Calls Try.prog 63 #[.string s] w fun e w' => CutP s w e w' :=
  (cut_any5 s w hs).mono fun e w' ⟨hb, h⟩ => by
    refine ⟨hb, ?_⟩
    rcases h with ⟨p, r, h1, h2, h3, h4⟩ | ⟨h1, h2⟩
    · exact ⟨p, r, true, _, h1, h2, fun _ => rfl, fun h => (by cases h), h3, by omega, fun _ => h4⟩
    · exact ⟨s, ⟨#[]⟩, false, [], h1, h2, fun h => (by cases h), fun _ => rfl, Nat.le_refl _, Nat.zero_le _, fun h => by cases h⟩
theorem kind_cases (l : List UInt8) : (kindL l = 1 ∧ l.all ltB = true) ∨ (kindL l = 2 ∧ l.all ltB = false ∧ l.all dgB = true) ∨ (kindL l = 0 ∧ l.all ltB = false ∧ l.all dgB = false) := by
  unfold kindL
  cases h : l.all ltB <;> cases h2 : l.all dgB <;> simp
theorem lt_not_dg {l : List UInt8} (h : l.all ltB = true) (hn : 0 < l.length) : l.all dgB = false := by
  cases l with
  | nil => simp at hn
  | cons c l =>
    simp only [List.all_cons, Bool.and_eq_true] at h
    rw [List.all_cons, lt_dg c h.1]; rfl
/-- The world in which Parse goes on. -/
structure RSt (w : World) (g : Nat) (t : T3) (wr : World) : Prop where
  bel : Below w.heap.size w wr
  r : wr.heap[w.heap.size]? = some (.cells (tC t30) 102 (0, 0))
  lt : w.heap.size < g
  t : wr.heap[g]? = some (.cells (tC t) 102 (0, 0))
theorem RSt.below {w wr w' : World} {g : Nat} {t : T3} (h : RSt w g t wr) (hb : Below wr.heap.size wr w') : RSt w g t w' :=
  ⟨h.bel.trans (hb.mono h.bel.size), by rw [hb.block _ (lt_heap h.r)]; exact h.r, h.lt, by rw [hb.block _ (lt_heap h.t)]; exact h.t⟩
theorem RSt.cells {w wr : World} {g : Nat} {t : T3} (h : RSt w g t wr) : wr.cell? ⟨g, 0, none⟩ = some (.string ⟨t.lang.toArray⟩) ∧ wr.cell? ⟨g, 1, none⟩ = some (.string ⟨t.script.toArray⟩) ∧ wr.cell? ⟨g, 2, none⟩ = some (.string ⟨t.region.toArray⟩) ∧ wr.frozen? ⟨g, 1, none⟩ = false ∧ wr.frozen? ⟨g, 2, none⟩ = false := by
  refine ⟨by rw [cell_blk h.t]; rfl, by rw [cell_blk h.t]; rfl, by rw [cell_blk h.t]; rfl, by simp [World.frozen?, h.t], by simp [World.frozen?, h.t]⟩
theorem RSt.set1 {w wr : World} {g : Nat} {t : T3} (h : RSt w g t wr) (l : List UInt8) : RSt w g { t with script := l } (wr.setCell ⟨g, 1, none⟩ (.string ⟨l.toArray⟩)) :=
  ⟨h.bel.setCell (p := ⟨g, 1, none⟩) (Nat.le_of_lt h.lt) _, by rw [heap_setCell_other _ (Nat.ne_of_lt h.lt)]; exact h.r, h.lt, by rw [heap_setCell_self _ h.t]; rfl⟩
theorem RSt.set2 {w wr : World} {g : Nat} {t : T3} (h : RSt w g t wr) (l : List UInt8) : RSt w g { t with region := l } (wr.setCell ⟨g, 2, none⟩ (.string ⟨l.toArray⟩)) :=
  ⟨h.bel.setCell (p := ⟨g, 2, none⟩) (Nat.le_of_lt h.lt) _, by rw [heap_setCell_other _ (Nat.ne_of_lt h.lt)]; exact h.r, h.lt, by rw [heap_setCell_self _ h.t]; rfl⟩
theorem turn_title {p : List UInt8} (h : p ≠ []) : turnL true (p.take 1) ++ turnL false (p.drop 1) = titleL p := by
  cases p with
  | nil => exact absurd rfl h
  | cons c p => rfl
def ma (r : Value) (m : Value) : Nat := match m, r with
  | .bool true, .string s => s.size + 1
  | _, _ => 0
set_option maxRecDepth 100000 in
set_option maxHeartbeats 8000000 in
theorem refParse5_any (s : ByteArray) (w : World) (hs : s.size ≤ 1000000) :
    Calls Try.prog 52 #[.string s] w fun e w' => e = .returned (.tuple #[.agg (tC (pR s.data.toList)), .bool (pB s.data.toList)]) ∧ Below w.heap.size w w' := by
  have he : ∀ W, (binOp .eql 9 (.string s) (.string ⟨#[114, 111, 111, 116]⟩)).run Try.prog W = .ok (.bool (decide (s.data.toList = rootL))) W := fun W => eqlS s ⟨#[114, 111, 111, 116]⟩ W
  have hbq := root_beq s
  have HB1 : Hid (Below w.heap.size w (w.alloc (.cells (tC t30) 102))) := below_alloc1 _ _
  have HG1 : Hid ((w.alloc (.cells (tC t30) 102)).heap[w.heap.size]? = some (.cells (tC t30) 102 (0, 0))) := heap_alloc_new _ _
  have hb30 := build30
  have hbad : parseT s.data.toList = none → pR s.data.toList = t30 ∧ pB s.data.toList = false := fun h => by rw [pR, pB, h]; exact ⟨rfl, rfl⟩
  have HBad := Lib.hid hbad
  clear hbad
  by_cases hroot : s.data.toList = rootL
  · have H1 : Hid (pR s.data.toList = t30 ∧ pB s.data.toList = true) := by
      show _ ∧ _
      rw [pR, pB, parseT, if_pos hroot]; exact ⟨rfl, rfl⟩
    rw [decide_eq_true hroot] at he hbq
    clear hroot
    go_enter Try.func52, Try.ntmps52
    go_wp2_with ((with_reducible refine gate_st 102 _ _ rfl ?_); refine st_R3 rfl _ _ rfl w.heap.size t30 t30 _ rfl rfl HG1.out ?_)
    refine bodyPost_ret (res_rowc_tmp (P := Try.prog) (T := 102) (T' := 102) (t := 3) rfl _ _ w.heap.size (tC t30) (0, 0) rfl (setRow_at HG1.out) Try.underlying102 rfl siz23) rfl ⟨?_, setRow_below HB1.out (Nat.le_refl _) _⟩
    rw [H1.out.1, H1.out.2]; rfl
  · have HPT : Hid (parseT s.data.toList = parseR (spl 45 s.data.toList)) := by show parseT _ = _; rw [parseT, if_neg hroot]
    rw [decide_eq_false hroot] at he hbq
    clear hroot
    have HC : Hid (∀ W, Calls Try.prog 63 #[.string s] W fun e w' => CutP s W e w') := fun W => cut_one s W hs
    go_enter Try.func52, Try.ntmps52
    go_upto_region 4 with (go_at_call 63; (refine (HC.out _).mono ?_); rintro e w1 ⟨hb1, p, r, more, rs, rfl, hsp, hm1, hm2, hp1, hr1, _⟩)
    have HB2 := Lib.hid (HB1.out.trans (hb1.mono HB1.out.size))
    have HG2 : Hid (w1.heap[w.heap.size]? = some (.cells (tC t30) 102 (0, 0))) := by show _ = _; rw [hb1.block _ (lt_heap HG1.out)]; exact HG1.out
    have HPP : Hid (parseT s.data.toList = if isLang p.data.toList then foldT ⟨p.data.toList.map loB, [], []⟩ rs else none) := by
      show parseT _ = _
      rw [HPT.out, hsp, parseR_fold]
    have hps : p.size ≤ 1000000 := by omega
    have hrs : r.size ≤ 1000000 := by omega
    have HK : Hid (∀ W : World, Calls Try.prog 64 #[.string p] W fun e w' => e = .returned (.int .i64 (kindL p.data.toList)) ∧ W = w') := fun W => kind_any p W hps
    have hpl : p.data.toList.length = p.size := by simp
    have HM : Hid ((more = true → rs = spl 45 r.data.toList) ∧ (more = false → rs = [])) := ⟨hm1, hm2⟩
    clear hb1 hsp hm1 hm2 hp1 hr1 HPT HC HB1 HG1 he hbq hs
    by_cases hok : (2 ≤ p.size ∧ p.size ≤ 3) ∧ p.data.toList.all ltB = true
    case neg =>
      have HT : Hid (pR s.data.toList = t30 ∧ pB s.data.toList = false) := HBad.out (by
        rw [HPP.out, if_neg]
        rw [isLang, hpl]
        intro hh
        simp only [Bool.and_eq_true, decide_eq_true_eq] at hh
        exact hok hh)
      clear HBad HPP HM
      rcases kind_cases p.data.toList with ⟨hk, ha⟩ | ⟨hk, ha, _⟩ | ⟨hk, ha, _⟩
      all_goals rw [hk] at HK; clear hk
      case inl =>
        by_cases h2 : (p.size : Int) < 2
        · clear hok ha
          go_wp2_with (first
            | (go_at_call 64; (refine (HK.out _).mono ?_); rintro e w' ⟨rfl, rfl⟩)
            | ((with_reducible refine gate_st 102 _ _ rfl ?_); refine st_R3 rfl _ _ rfl w.heap.size t30 t30 _ rfl rfl HG2.out ?_))
          refine bodyPost_ret (res_rowc_tmp (P := Try.prog) (T := 102) (T' := 102) (t := 3) rfl _ _ w.heap.size (tC t30) (0, 0) rfl (setRow_at HG2.out) Try.underlying102 rfl siz23) rfl ⟨?_, setRow_below HB2.out (Nat.le_refl _) _⟩
          rw [HT.out.1, HT.out.2]; rfl
        · have h3 : (3 : Int) < p.size := by
            rcases Nat.lt_or_ge 3 p.size with h | h
            · omega
            · exact absurd ⟨⟨by omega, h⟩, ha⟩ hok
          clear hok ha
          go_wp2_with (first
            | (go_at_call 64; (refine (HK.out _).mono ?_); rintro e w' ⟨rfl, rfl⟩)
            | ((with_reducible refine gate_st 102 _ _ rfl ?_); refine st_R3 rfl _ _ rfl w.heap.size t30 t30 _ rfl rfl HG2.out ?_))
          refine bodyPost_ret (res_rowc_tmp (P := Try.prog) (T := 102) (T' := 102) (t := 3) rfl _ _ w.heap.size (tC t30) (0, 0) rfl (setRow_at HG2.out) Try.underlying102 rfl siz23) rfl ⟨?_, setRow_below HB2.out (Nat.le_refl _) _⟩
          rw [HT.out.1, HT.out.2]; rfl
      all_goals
        clear hok ha
        go_wp2_with (first
          | (go_at_call 64; (refine (HK.out _).mono ?_); rintro e w' ⟨rfl, rfl⟩)
          | ((with_reducible refine gate_st 102 _ _ rfl ?_); refine st_R3 rfl _ _ rfl w.heap.size t30 t30 _ rfl rfl HG2.out ?_))
        refine bodyPost_ret (res_rowc_tmp (P := Try.prog) (T := 102) (T' := 102) (t := 3) rfl _ _ w.heap.size (tC t30) (0, 0) rfl (setRow_at HG2.out) Try.underlying102 rfl siz23) rfl ⟨?_, setRow_below HB2.out (Nat.le_refl _) _⟩
        rw [HT.out.1, HT.out.2]; rfl
    case pos =>
      obtain ⟨⟨h2, h3⟩, hall⟩ := hok
      have h2' : (2 : Int) ≤ p.size := by omega
      have h3' : (p.size : Int) ≤ 3 := by omega
      have d1 : decide ((p.size : Int) < 2) = false := decide_eq_false (by omega)
      have d2 : decide ((3 : Int) < (p.size : Int)) = false := decide_eq_false (by omega)
      have hk1 : kindL p.data.toList = 1 := by rw [kindL, if_pos hall]
      rw [hk1] at HK
      have HP2 : Hid (parseT s.data.toList = foldT ⟨turnL false p.data.toList, [], []⟩ rs) := by
        show _ = _
        rw [HPP.out, if_pos (by rw [isLang, hall, hpl, decide_eq_true ⟨h2, h3⟩]; rfl)]; rfl
      have HTu : Hid (∀ W : World, Calls Try.prog 65 #[.string p, .bool false] W fun e w' => e = .returned (.string ⟨(turnL false p.data.toList).toArray⟩) ∧ Below W.heap.size W w') := fun W => turn_any p false W hps
      have hb3 := build3L (turnL false p.data.toList)
      clear hall hk1 HPP hpl
      generalize turnL false p.data.toList = L at *
      go_upto_region 7 with (first
          | (go_at_call 64; (refine (HK.out _).mono ?_); rintro e w' ⟨rfl, rfl⟩)
          | (go_at_call 65; (refine (HTu.out _).mono ?_); rintro e w2 ⟨rfl, hb2⟩)
          | ((with_reducible refine gate_st 102 _ _ rfl ?_); refine wl_strn rfl 102 _ _ rfl (tC ⟨L, [], []⟩) (tC t30) _ siz23 rfl (tC_one _) rfl rfl ?_))
      have HS : Hid (RSt w w2.heap.size ⟨L, [], []⟩ (w2.alloc (.cells (tC ⟨L, [], []⟩) 102))) := by
        have h5 := HB2.out.trans (hb2.mono HB2.out.size)
        have h6 : w2.heap[w.heap.size]? = some (.cells (tC t30) 102 (0, 0)) := by rw [hb2.block _ (lt_heap HG2.out)]; exact HG2.out
        exact ⟨h5.alloc h5.size _, (heap_alloc_old _ _ (lt_heap h6)).trans h6, lt_heap h6, heap_alloc_new _ _⟩
      clear hb2 HG2 HB2 hb3 HTu HK
      generalize w2.alloc (.cells (tC ⟨L, [], []⟩) 102) = W3 at *
      generalize w2.heap.size = g at *
      generalize (⟨L, [], []⟩ : T3) = t0 at *
      have HM' := HM
      clear h2 h3 h2' h3' hps HM
      clear d1 d2
      simp only [Act.put]
      go_wp2_with fail
      go_loopw [5, 6] (fun sr sm wr => ∃ (r : ByteArray) (more : Bool) (t : T3) (rs : List (List UInt8)), sr = .string r ∧ sm = .bool more ∧ r.size ≤ 1000000 ∧ Hid ((more = true → rs = spl 45 r.data.toList) ∧ (more = false → rs = [])) ∧ Hid (parseT s.data.toList = foldT t rs) ∧ Hid (RSt w g t wr)) (fun sr sm _ => ma sr sm)
      case atStart => exact ⟨r, more, t0, rs, rfl, rfl, hrs, HM'.out, HP2.out, HS.out⟩
      case round =>
        clear HS HP2 HM' hrs
        obtain ⟨r, more, t, rs, rfl, rfl, hrs, HM, HF, HR⟩ := hrel
        cases more
        case false =>
          have HPt : Hid (parseT s.data.toList = some t) := by show _ = _; rw [HF.out, HM.out.2 rfl]; rfl
          have HT : Hid (pR s.data.toList = t ∧ pB s.data.toList = true) := by show _ ∧ _; rw [pR, pB, HPt.out]; exact ⟨rfl, rfl⟩
          go_wp2_with (first
            | (with_reducible refine ld_R3 rfl _ rfl g t rfl HR.out.t ?_)
            | ((with_reducible refine gate_st 102 _ _ rfl ?_); refine st_R3 rfl _ _ rfl w.heap.size t t30 _ rfl rfl HR.out.r ?_))
          refine bodyPost_ret (res_rowc_tmp (P := Try.prog) (T := 102) (T' := 102) (t := 3) rfl _ _ w.heap.size (tC t) (0, 0) rfl (setRow_at HR.out.r) Try.underlying102 rfl siz23) rfl ⟨?_, setRow_below HR.out.bel (Nat.le_refl _) _⟩
          rw [HT.out.1, HT.out.2]; rfl
        case true =>
          have HC : Hid (∀ W, Calls Try.prog 63 #[.string r] W fun e w' => CutP r W e w') := fun W => cut_one r W hrs
          go_upto_region 9 with (go_at_call 63; (refine (HC.out _).mono ?_); rintro e w1 ⟨hb1, p2, r2, more2, rs2, rfl, hsp, hm1, hm2, hp1, hr1, hr3⟩)
          have HR1 := Lib.hid (HR.out.below hb1)
          have HF1 : Hid (parseT s.data.toList = match stepT t p2.data.toList with | some t' => foldT t' rs2 | none => none) := by
            show _ = _
            rw [HF.out, HM.out.1 (by simp), hsp]; rfl
          have HM2 : Hid ((more2 = true → rs2 = spl 45 r2.data.toList) ∧ (more2 = false → rs2 = [])) := ⟨hm1, hm2⟩
          have hps : p2.size ≤ 1000000 := by omega
          have hrs2 : r2.size ≤ 1000000 := by omega
          have HMe : Hid (more2 = true → r2.size < r.size) := hr3
          have HK : Hid (∀ W : World, Calls Try.prog 64 #[.string p2] W fun e w' => e = .returned (.int .i64 (kindL p2.data.toList)) ∧ W = w') := fun W => kind_any p2 W hps
          have hpl : p2.data.toList.length = p2.size := by simp
          have HIS : Hid (isScript p2.data.toList = (decide (p2.size = 4) && p2.data.toList.all ltB)) := by show isScript _ = _; rw [isScript, hpl]
          have HIR : Hid (isRegion p2.data.toList = ((decide (p2.size = 2) && p2.data.toList.all ltB) || (decide (p2.size = 3) && p2.data.toList.all dgB))) := by show isRegion _ = _; rw [isRegion, hpl]
          have HTu : Hid (∀ W : World, Calls Try.prog 65 #[.string p2, .bool true] W fun e w' => e = .returned (.string ⟨(turnL true p2.data.toList).toArray⟩) ∧ Below W.heap.size W w') := fun W => turn_any p2 true W hps
          clear HC hb1 hsp hm1 hm2 hp1 hr1 hr3 HR HF HM hpl
          go_cut [8] (fun b1 wx => b1 = .bool (isScript p2.data.toList) ∧ Hid (RSt w g t wx))
          case first =>
            rcases kind_cases p2.data.toList with ⟨hk, ha⟩ | ⟨hk, ha, _⟩ | ⟨hk, ha, _⟩
            all_goals (rw [hk] at HK; rw [ha] at HIS; clear hk ha)
            case inl =>
              by_cases h4 : p2.size = 4
              · have e4 : ((p2.size : Int) == 4) = true := by rw [h4]; rfl
                rw [h4] at HIS
                clear h4
                go_wp2_with (go_at_call 64; (refine (HK.out _).mono ?_); rintro e w' ⟨rfl, rfl⟩)
                go_meet
                exact ⟨by rw [HIS.out]; rfl, HR1.out⟩
              · have e4 : ((p2.size : Int) == 4) = false := by rw [beq_eq_false_iff_ne]; omega
                rw [decide_eq_false h4] at HIS
                clear h4
                go_wp2_with (go_at_call 64; (refine (HK.out _).mono ?_); rintro e w' ⟨rfl, rfl⟩)
                go_meet
                exact ⟨by rw [HIS.out]; rfl, HR1.out⟩
            all_goals
              go_wp2_with (go_at_call 64; (refine (HK.out _).mono ?_); rintro e w' ⟨rfl, rfl⟩)
              go_meet
              exact ⟨by rw [HIS.out, Bool.and_false], HR1.out⟩
          case rest =>
            clear HR1 HIS
            obtain ⟨rfl, HR1⟩ := hcut
            go_upto_region 10 with fail
            go_cut [9] (fun b1 wx => b1 = .bool (isRegion p2.data.toList) ∧ Hid (RSt w g t wx))
            case first =>
              rcases kind_cases p2.data.toList with ⟨hk, ha⟩ | ⟨hk, ha, hd⟩ | ⟨hk, ha, hd⟩
              case inl =>
                have hnd : p2.size = 3 → p2.data.toList.all dgB = false := fun h => lt_not_dg ha (by simp; omega)
                rw [hk] at HK; rw [ha] at HIR; clear hk ha
                by_cases h4 : p2.size = 2
                case pos =>
                  have e4 : ((p2.size : Int) == 2) = true := by rw [h4]; rfl
                  rw [h4] at HIR
                  clear h4 hnd
                  go_wp2_with (go_at_call 64; (refine (HK.out _).mono ?_); rintro e w' ⟨rfl, rfl⟩)
                  go_meet
                  exact ⟨by rw [HIR.out]; rfl, HR1.out⟩
                case neg =>
                  have e4 : ((p2.size : Int) == 2) = false := by rw [beq_eq_false_iff_ne]; omega
                  rw [decide_eq_false h4] at HIR
                  have HIN : Hid (isRegion p2.data.toList = false) := by
                    show _ = _
                    rw [HIR.out]
                    by_cases h5 : p2.size = 3
                    · rw [hnd h5]; simp
                    · rw [decide_eq_false h5]; rfl
                  clear h4 hnd
                  go_wp2_with (go_at_call 64; (refine (HK.out _).mono ?_); rintro e w' ⟨rfl, rfl⟩)
                  go_meet
                  exact ⟨by rw [HIN.out], HR1.out⟩
              case inr.inl =>
                rw [hk] at HK; rw [ha, hd] at HIR; clear hk ha hd
                by_cases h4 : p2.size = 3
                case pos =>
                  have e4 : ((p2.size : Int) == 3) = true := by rw [h4]; rfl
                  rw [h4] at HIR
                  clear h4
                  go_wp2_with (go_at_call 64; (refine (HK.out _).mono ?_); rintro e w' ⟨rfl, rfl⟩)
                  go_meet
                  exact ⟨by rw [HIR.out]; simp, HR1.out⟩
                case neg =>
                  have e4 : ((p2.size : Int) == 3) = false := by rw [beq_eq_false_iff_ne]; omega
                  rw [decide_eq_false h4] at HIR
                  clear h4
                  go_wp2_with (go_at_call 64; (refine (HK.out _).mono ?_); rintro e w' ⟨rfl, rfl⟩)
                  go_meet
                  exact ⟨by rw [HIR.out]; simp, HR1.out⟩
              case inr.inr =>
                rw [hk] at HK; rw [ha, hd] at HIR; clear hk ha hd
                go_wp2_with (go_at_call 64; (refine (HK.out _).mono ?_); rintro e w' ⟨rfl, rfl⟩)
                go_meet
                exact ⟨by rw [HIR.out]; simp, HR1.out⟩
            case rest =>
              clear HR1 HIR HK
              obtain ⟨rfl, HR1⟩ := hcut
              obtain ⟨hc0, hc1, hc2, hf1, hf2⟩ := HR1.out.cells
              obtain ⟨TL, TS, TR⟩ := t
              simp only at hc0 hc1 hc2
              have n1 := fun W => eqE5 TS W
              have n2 := fun W => eqE5 TR W
              have m1 := emp5 TS
              have m2 := emp5 TR
              cases hns : isScript p2.data.toList <;> cases hnr : isRegion p2.data.toList
              case false.false =>
                have HT : Hid (pR s.data.toList = t30 ∧ pB s.data.toList = false) := HBad.out (by rw [HF1.out, stepT, if_neg (fun e => (by rw [hns] at e; exact absurd e.1 (by simp))), if_neg (fun e => (by rw [hnr] at e; exact absurd e.1 (by simp)))])
                go_wp2_with ((with_reducible refine gate_st 102 _ _ rfl ?_); refine st_R3 rfl _ _ rfl w.heap.size t30 t30 _ rfl rfl HR1.out.r ?_)
                refine bodyPost_ret (res_rowc_tmp (P := Try.prog) (T := 102) (T' := 102) (t := 3) rfl _ _ w.heap.size (tC t30) (0, 0) rfl (setRow_at HR1.out.r) Try.underlying102 rfl siz23) rfl ⟨?_, setRow_below HR1.out.bel (Nat.le_refl _) _⟩
                rw [HT.out.1, HT.out.2]; rfl
              case false.true =>
                cases TR with
                | nil =>
                  simp only [List.isEmpty_nil] at n2 m2
                  have HF2 : Hid (parseT s.data.toList = foldT ⟨TL, TS, p2.data.toList.map upB⟩ rs2) := by
                    show _ = _
                    rw [HF1.out, stepT, if_neg (fun e => (by rw [hns] at e; exact absurd e.1 (by simp))), if_pos ⟨hnr, rfl⟩]
                  clear hns hnr HF1
                  go_upto_region 14 with fail
                  have HR0 := HR1
                  go_wp2_with (go_at_call 65; (refine (HTu.out _).mono ?_); rintro e w5 ⟨rfl, hb5⟩; have HR5 := Lib.hid (HR0.out.below hb5); obtain ⟨k0, k1, k2, kf1, kf2⟩ := HR5.out.cells; clear hb5)
                  go_roundw
                  case rel => exact ⟨r2, more2, ⟨TL, TS, p2.data.toList.map upB⟩, rs2, rfl, rfl, hrs2, HM2.out, HF2.out, HR5.out.set2 _⟩
                  case measure =>
                    have := HMe.out
                    cases more2
                    · simp [ma]
                    · have := this rfl; simp [ma]; omega
                | cons c TR =>
                  simp only [List.isEmpty_cons] at n2 m2
                  have HT : Hid (pR s.data.toList = t30 ∧ pB s.data.toList = false) := HBad.out (by rw [HF1.out, stepT, if_neg (fun e => (by rw [hns] at e; exact absurd e.1 (by simp))), if_neg (fun e => absurd e.2 (by simp))])
                  go_wp2_with ((with_reducible refine gate_st 102 _ _ rfl ?_); refine st_R3 rfl _ _ rfl w.heap.size t30 t30 _ rfl rfl HR1.out.r ?_)
                  refine bodyPost_ret (res_rowc_tmp (P := Try.prog) (T := 102) (T' := 102) (t := 3) rfl _ _ w.heap.size (tC t30) (0, 0) rfl (setRow_at HR1.out.r) Try.underlying102 rfl siz23) rfl ⟨?_, setRow_below HR1.out.bel (Nat.le_refl _) _⟩
                  rw [HT.out.1, HT.out.2]; rfl
              case true.false =>
                cases TR with
                | cons c TR =>
                  simp only [List.isEmpty_cons] at n2 m2
                  cases TS with
                  | nil =>
                    simp only [List.isEmpty_nil] at n1 m1
                    have HT : Hid (pR s.data.toList = t30 ∧ pB s.data.toList = false) := HBad.out (by rw [HF1.out, stepT, if_neg (fun e => absurd e.2.2 (by simp)), if_neg (fun e => absurd e.2 (by simp))])
                    go_wp2_with ((with_reducible refine gate_st 102 _ _ rfl ?_); refine st_R3 rfl _ _ rfl w.heap.size t30 t30 _ rfl rfl HR1.out.r ?_)
                    refine bodyPost_ret (res_rowc_tmp (P := Try.prog) (T := 102) (T' := 102) (t := 3) rfl _ _ w.heap.size (tC t30) (0, 0) rfl (setRow_at HR1.out.r) Try.underlying102 rfl siz23) rfl ⟨?_, setRow_below HR1.out.bel (Nat.le_refl _) _⟩
                    rw [HT.out.1, HT.out.2]; rfl
                  | cons d TS =>
                    simp only [List.isEmpty_cons] at n1 m1
                    have HT : Hid (pR s.data.toList = t30 ∧ pB s.data.toList = false) := HBad.out (by rw [HF1.out, stepT, if_neg (fun e => absurd e.2.2 (by simp)), if_neg (fun e => absurd e.2 (by simp))])
                    go_wp2_with ((with_reducible refine gate_st 102 _ _ rfl ?_); refine st_R3 rfl _ _ rfl w.heap.size t30 t30 _ rfl rfl HR1.out.r ?_)
                    refine bodyPost_ret (res_rowc_tmp (P := Try.prog) (T := 102) (T' := 102) (t := 3) rfl _ _ w.heap.size (tC t30) (0, 0) rfl (setRow_at HR1.out.r) Try.underlying102 rfl siz23) rfl ⟨?_, setRow_below HR1.out.bel (Nat.le_refl _) _⟩
                    rw [HT.out.1, HT.out.2]; rfl
                | nil =>
                  simp only [List.isEmpty_nil] at n2 m2
                  cases TS with
                  | cons d TS =>
                    simp only [List.isEmpty_cons] at n1 m1
                    have HT : Hid (pR s.data.toList = t30 ∧ pB s.data.toList = false) := HBad.out (by rw [HF1.out, stepT, if_neg (fun e => absurd e.2.1 (by simp)), if_neg (fun e => (by rw [hnr] at e; exact absurd e.1 (by simp)))])
                    go_wp2_with ((with_reducible refine gate_st 102 _ _ rfl ?_); refine st_R3 rfl _ _ rfl w.heap.size t30 t30 _ rfl rfl HR1.out.r ?_)
                    refine bodyPost_ret (res_rowc_tmp (P := Try.prog) (T := 102) (T' := 102) (t := 3) rfl _ _ w.heap.size (tC t30) (0, 0) rfl (setRow_at HR1.out.r) Try.underlying102 rfl siz23) rfl ⟨?_, setRow_below HR1.out.bel (Nat.le_refl _) _⟩
                    rw [HT.out.1, HT.out.2]; rfl
                  | nil =>
                    simp only [List.isEmpty_nil] at n1 m1
                    have h4 : p2.size = 4 := by have := isScript_len hns; simpa using this
                    have HF2 : Hid (parseT s.data.toList = foldT ⟨TL, titleL p2.data.toList, []⟩ rs2) := by
                      show _ = _
                      rw [HF1.out, stepT, if_pos ⟨hns, rfl, rfl⟩]
                    have hx1 : (p2.extract 0 1).data.toList = p2.data.toList.take 1 := by rw [Lib.extract_data, List.drop_zero]
                    have hx2 : (p2.extract 1 p2.size).data.toList = p2.data.toList.drop 1 := by rw [Lib.extract_data, List.take_of_length_le (by simp)]
                    have HTa : Hid (∀ W : World, Calls Try.prog 65 #[.string (p2.extract 0 1), .bool true] W fun e w' => e = .returned (.string ⟨(turnL true (p2.data.toList.take 1)).toArray⟩) ∧ Below W.heap.size W w') := fun W => by have := turn_any (p2.extract 0 1) true W (by rw [ByteArray.size_extract]; omega); rwa [hx1] at this
                    have HTb : Hid (∀ W : World, Calls Try.prog 65 #[.string (p2.extract 1 p2.size), .bool false] W fun e w' => e = .returned (.string ⟨(turnL false (p2.data.toList.drop 1)).toArray⟩) ∧ Below W.heap.size W w') := fun W => by have := turn_any (p2.extract 1 p2.size) false W (by rw [ByteArray.size_extract]; omega); rwa [hx2] at this
                    have hl4 : p2.data.toList.length = 4 := by simpa using h4
                    have htl := turn_title (p := p2.data.toList) (by intro e; rw [e] at hl4; simp at hl4)
                    have hla : (turnL true (p2.data.toList.take 1)).length ≤ 10 := by simp [turnL]; omega
                    have hlb : (turnL false (p2.data.toList.drop 1)).length ≤ 10 := by simp [turnL]; omega
                    generalize turnL true (p2.data.toList.take 1) = ta at *
                    generalize turnL false (p2.data.toList.drop 1) = tb at *
                    have hcat : ∀ W, (binOp .add 9 (.string ⟨ta.toArray⟩) (.string ⟨tb.toArray⟩)).run Try.prog W = .ok (.string ⟨(titleL p2.data.toList).toArray⟩) W := fun W => by
                      rw [← htl]
                      exact catS5 _ _ (by omega) W
                    have hcc : (⟨ta.toArray⟩ : ByteArray) ++ ⟨tb.toArray⟩ = ⟨(titleL p2.data.toList).toArray⟩ := by rw [ba_add, htl]
                    have hzz : ¬ 9223372036854775807 < ta.length + tb.length := by omega
                    clear htl hla hlb
                    generalize titleL p2.data.toList = tt at *
                    have hz1 : (1 : Int) ≤ (p2.size : Int) := by omega
                    clear hns hnr HF1 h4 hx1 hx2 hl4
                    have HR0 := HR1
                    go_upto_region 12 with fail
                    refine wp_region_below_tail 8 (by kernel_rfl) (by kernel_rfl) ?_
                    simp only [List.take_succ_cons, List.take_zero, List.drop_succ_cons, List.drop_zero]
                    repeat (go_big_quiet_step (first | (with_reducible exact rg_call HTa.out _ _) | (with_reducible exact rg_call HTb.out _ _)))
                    refine wpQuiet_nil ?_
                    rintro _ ⟨⟨dq, osq⟩, rfl⟩
                    have HR5 := Lib.hid (HR0.out.below (below_regrown _ dq osq))
                    obtain ⟨k0, k1, k2, kf1, kf2⟩ := HR5.out.cells
                    clear hc0 hc1 hc2 hf1 hf2 HR1 HR0
                    generalize Sort.grow (redrawn _ dq) osq = w5 at *
                    go_wp2_with fail
                    go_roundw
                    case rel => exact ⟨r2, more2, ⟨TL, tt, []⟩, rs2, rfl, rfl, hrs2, HM2.out, HF2.out, HR5.out.set1 _⟩
                    case measure =>
                      have := HMe.out
                      cases more2
                      · simp [ma]
                      · have := this rfl; simp [ma]; omega
              case true.true => rw [scr_not_reg hns] at hnr; cases hnr
end Go.Proofs.Ytagdedjclbmlkaa.Tg
/- The document's Of. -/
namespace Go.Proofs.Ytagdedjclbmlkaa.Tg
open Go.RowKit

theorem eqIn3 (w : World) (a b : T3) : (Op.equalIn 10000 102 (.agg (tC a)) (.agg (tC b))).run Try.prog w = .ok (decide (a = b)) w := by
  rw [show (10000 : Nat) = 9999 + 1 from rfl, run_equalIn_struct w 9999 102 _ _ (by kernel_rfl) (by kernel_rfl)]
  have p0 : ∀ (x y z : Value) (w : World), (part 9 #[x, y, z] 0).run Try.prog w = .ok x w := fun _ _ _ _ => by kernel_rfl
  have p1 : ∀ (x y z : Value) (w : World), (part 9 #[x, y, z] 1).run Try.prog w = .ok y w := fun _ _ _ _ => by kernel_rfl
  have p2 : ∀ (x y z : Value) (w : World), (part 9 #[x, y, z] 2).run Try.prog w = .ok z w := fun _ _ _ _ => by kernel_rfl
  have q : ∀ (d : Nat) (x y : List UInt8) (w : World), (Op.equalIn (d + 1) 9 (.string ⟨x.toArray⟩) (.string ⟨y.toArray⟩)).run Try.prog w = .ok (x == y) w := fun d x y w => by
    rw [run_equalIn_string w d 9 _ _ Try.underlying9, ByteArray.toList_eq, ByteArray.toList_eq]
  have q1 := q 9998
  obtain ⟨a1, a2, a3⟩ := a
  obtain ⟨b1, b2, b3⟩ := b
  have hb : decide (({ lang := a1, script := a2, region := a3 } : T3) = { lang := b1, script := b2, region := b3 }) = ((a1 == b1) && ((a2 == b2) && (a3 == b3))) := by
    rw [Bool.eq_iff_iff]; simp
  rw [hb]
  have r1 := q1 a1 b1
  have r2 := q1 a2 b2
  have r3 := q1 a3 b3
  generalize (a1 == b1) = c1 at *
  generalize (a2 == b2) = c2 at *
  generalize (a3 == b3) = c3 at *
  simp only [Program.fieldsOf, Try.underlying102, Op.eqFields, tC]
  simp [p0, p1, p2, r1, r2, r3]
  cases c1 <;> cases c2 <;> cases c3 <;> simp
theorem eql3 (w : World) (a b : T3) : (binOp .eql 102 (.agg (tC a)) (.agg (tC b))).run Try.prog w = .ok (.bool (decide (a = b))) w := by
  rw [run_eql_struct, eqIn3 w a b]; rfl
theorem neq3 (w : World) (a b : T3) : (binOp .neq 102 (.agg (tC a)) (.agg (tC b))).run Try.prog w = .ok (.bool (!decide (a = b))) w := by
  rw [run_neq_struct, eqIn3 w a b]; rfl
theorem build3A (t : T3) (w : World) : (Instr.build 102 #[(0, .string ⟨t.lang.toArray⟩), (1, .string ⟨t.script.toArray⟩), (2, .string ⟨t.region.toArray⟩)]).run Try.prog w = .ok (.agg (tC t)) w := run_build w _ _ _ (by kernel_rfl)
theorem takeD {P : Program} {md : Region.Mode} {ops : Array Oper} {Q : Exit → Act → World → Prop} {S : World → Prop} {i : Nat} {oi : Oper} {v : Value} {fuel : Nat} {listed : Array Bool} {a : Act} {w : World} (d : Nat) (hi : ops[i]? = some oi) (hd : oi.dst = some d)
    (hs : Region.noSelect ops = true) (hf : Region.free md ops listed i = true) (hr : (Region.ready md ops listed).contains i = true)
    (hQ : ∀ c a w, Q (.panic c) (a.put (some d) v) w → Q (.panic c) a w) (hy : YieldsIf P ops S oi v a) (hS : S w)
    (h : wpAnyH P md ops Q S fuel (listed.setIfInBounds i true) (a.put (some d) v) w) : wpAnyH P md ops Q S (fuel + 1) listed a w :=
  wpAnyH_take hi hs hf hr (by rw [hd]; exact hQ) hy hS (by rw [hd]; exact h)

theorem stI {P : Program} {ops : Array Oper} {o : Oper} {a : Act} {w : World} {K : Act → World → Prop} {Q : Exit → Act → World → Prop} {E : Prop} (hg : o.guard = none) (h : o.wp P a w K Q) : if Region.wanted o (yielded ops a.tmps) = true then o.wp P a w K Q else E := by
  rw [if_pos (by unfold Region.wanted; rw [hg])]; exact h
section
variable {o : Oper} {a : Act} {w : World}
theorem y_bd3 (ho : o.op = .build 102 #[]) : (execOp a.eval o).run Try.prog w = .ok (.value (.agg (tC t30))) w := by
  have := build30 w
  unfold execOp
  simp only [ho, Sem.run_bind, List.map_toArray, List.map_nil, this, Result.andThen_ok, Sem.run_pure]
theorem y_ld3 (x : Operand) (ho : o.op = .load 102 x) (g : Nat) (t : T3) (hx : a.eval x = .pointer (some ⟨g, 0, none⟩)) (hg : w.heap[g]? = some (.cells (tC t) 102 (0, 0))) : (execOp a.eval o).run Try.prog w = .ok (.value (.agg (tC t))) w := by
  have := run_loadAt_mid (P := Try.prog) _ g 0 102 (tC t).toList _ (range_whole (by simpa using hg)) Try.underlying102 rfl siz23
  unfold execOp
  simp only [ho, hx, Sem.run_bind, this, Result.andThen_ok, Sem.run_pure]
theorem y_eq3 (x y : Operand) (ho : o.op = .binOp .eql 102 x y 102) (t u : T3) (hx : a.eval x = .agg (tC t)) (hy : a.eval y = .agg (tC u)) : (execOp a.eval o).run Try.prog w = .ok (.value (.bool (decide (t = u)))) w := by
  have := eql3 w t u
  have hgd : (eqGuard .eql 102 x y (.agg (tC t)) (.agg (tC u))).run Try.prog w = .ok () w := run_eqGuard_agg w .eql 102 x y _ _ (by kernel_rfl)
  unfold execOp
  simp [ho, hx, hy, this, hgd]
end
def oR (b : List UInt8) : T3 := (ofT b).getD t30
def oB (b : List UInt8) : Bool := (ofT b).isSome
theorem fT_small {b : List UInt8} (h : b.length = 10) : (fT b).lang.length ≤ 3 ∧ (fT b).script.length ≤ 4 ∧ (fT b).region.length ≤ 3 := by
  have h1 := frontZ_le (b.take 3)
  have h2 := frontZ_le ((b.drop 3).take 4)
  have h3 := frontZ_le (b.drop 7)
  simp at h1 h2 h3
  exact ⟨by show (frontZ _).length ≤ _; omega, by show (frontZ _).length ≤ _; omega, by show (frontZ _).length ≤ _; omega⟩
set_option maxRecDepth 100000 in
set_option maxHeartbeats 8000000 in
theorem refOf5_any (b : List UInt8) (w : World) (hb : b.length = 10) :
    Calls Try.prog 43 #[.agg (bC b)] w fun e w' => e = .returned (.tuple #[.agg (tC (oR b)), .bool (oB b)]) ∧ Below w.heap.size w w' := by
  have HG0 : Hid (((w.alloc (.cells (bC b) 38)).alloc (.cells (tC t30) 102)).heap[w.heap.size]? = some (.cells (bC b) 38 (0, 0))) := heap_alloc2_old _ _ _
  have HG1 : Hid (((w.alloc (.cells (bC b) 38)).alloc (.cells (tC t30) 102)).heap[w.heap.size + 1]? = some (.cells (tC t30) 102 (0, 0))) := heap_alloc2_new _ _ _
  have HB1 : Hid (Below w.heap.size w ((w.alloc (.cells (bC b) 38)).alloc (.cells (tC t30) 102))) := below_alloc2 _ _ _
  have HSm := Lib.hid (fT_small hb)
  have H10 := Lib.hid hb
  have hb30 := build30
  have hbA := build3A (fT b)
  have HO : Hid (ofT b = if (fT b).lang = [] then (if (fT b) = ⟨[], [], []⟩ then some ⟨[], [], []⟩ else none) else match parseT (textT (fT b)) with | some x => if x = fT b then some (fT b) else none | none => none) := rfl
  clear hb
  go_enter Try.func43, Try.ntmps43
  go_upto_region 1 with fail
  rw [show (Obj.cells #[Value.string ⟨#[]⟩, Value.string ⟨#[]⟩, Value.string ⟨#[]⟩] 102) = Obj.cells (tC t30) 102 from rfl]
  generalize (w.alloc (.cells (bC b) 38)).alloc (.cells (tC t30) 102) = W1 at *
  have HR0 : Hid (W1.rangeAt w.heap.size 0 (bC b).toList) := range_whole (by simpa using HG0.out)
  have hlt : w.heap.size < W1.heap.size := lt_heap HG0.out
  have HFr : Hid (∀ (s n cap : Nat) (W : World), s + n ≤ 10 → n ≤ cap → Below W1.heap.size W1 W → Calls Try.prog 51 #[.slice (some ⟨w.heap.size, s, none⟩) n cap] W fun e w' => e = .returned (.string ⟨(frontZ ((b.drop s).take n)).toArray⟩) ∧ W = w') := fun s n cap W hs hc hW => by
    have hr := range_sub (range_of_block HR0.out (hW.block _ hlt)) s n
    rw [Nat.zero_add] at hr
    have := H10.out
    exact front_any w.heap.size s n cap _ W (by simp; omega) (by omega) hc hr
  clear HR0
  have e7 : (b.drop 7).take 3 = b.drop 7 := List.take_of_length_le (by rw [List.length_drop, H10.out]; omega)
  have Ha := Lib.hid (HFr.out 0 3 10)
  have Hb := Lib.hid (HFr.out 3 4 7)
  have Hc := Lib.hid (HFr.out 7 3 3)
  rw [e7] at Hc
  simp only [List.drop_zero] at Ha
  clear e7 HFr
  have hfl : frontZ (b.take 3) = (fT b).lang := rfl
  have hfs : frontZ ((b.drop 3).take 4) = (fT b).script := rfl
  have hfr : frontZ (b.drop 7) = (fT b).region := rfl
  rw [hfl] at Ha; rw [hfs] at Hb; rw [hfr] at Hc
  clear hfl hfs hfr
  generalize fT b = t at *
  go_cut [4] (fun s4 wx => ∃ g, s4 = .pointer (some ⟨g, 0, none⟩) ∧ Hid (Below W1.heap.size W1 wx ∧ W1.heap.size ≤ g ∧ wx.heap[g]? = some (.cells (tC t) 102 (0, 0))))
  case first =>
    go_region_held3 (fun w' => Below W1.heap.size W1 w') (first | exact (Below.refl _ _).drew | exact ((Below.refl _ _).alloc (Nat.le_refl _) _).drew) ((first
      | (go_at_call_of 51 (Value.slice (some ⟨w.heap.size, 0, none⟩) 3 10); (refine (Ha.out _ (by omega) (by omega) (by first | exact (Below.refl _ _).drew | exact ((Below.refl _ _).alloc (Nat.le_refl _) _).drew)).mono ?_); rintro e w' ⟨rfl, rfl⟩)
      | (go_at_call_of 51 (Value.slice (some ⟨w.heap.size, 3, none⟩) 4 7); (refine (Hb.out _ (by omega) (by omega) (by first | exact (Below.refl _ _).drew | exact ((Below.refl _ _).alloc (Nat.le_refl _) _).drew)).mono ?_); rintro e w' ⟨rfl, rfl⟩)
      | (go_at_call_of 51 (Value.slice (some ⟨w.heap.size, 7, none⟩) 3 3); (refine (Hc.out _ (by omega) (by omega) (by first | exact (Below.refl _ _).drew | exact ((Below.refl _ _).alloc (Nat.le_refl _) _).drew)).mono ?_); rintro e w' ⟨rfl, rfl⟩)))
    all_goals (go_wp2_with fail; go_meet; exact ⟨_, rfl, ((Below.refl _ _).alloc (Nat.le_refl _) _).drew, Nat.le_refl _, heap_alloc_new W1 _⟩)
  case rest =>
    obtain ⟨g, rfl, HC⟩ := hcut
    clear Ha Hb Hc
    have HG2 : Hid (wc.heap[w.heap.size + 1]? = some (.cells (tC t30) 102 (0, 0))) := by show _ = _; rw [HC.out.1.block _ (lt_heap HG1.out)]; exact HG1.out
    have HB2 := Lib.hid (HB1.out.trans (HC.out.1.mono HB1.out.size))
    have HGt := Lib.hid HC.out.2.2
    have hc0 : wc.cell? ⟨g, 0, none⟩ = some (.string ⟨t.lang.toArray⟩) := by rw [cell_blk HC.out.2.2]; rfl
    have hgt : g < wc.heap.size := lt_heap HC.out.2.2
    have hne : g ≠ w.heap.size + 1 := by have h1 := HC.out.2.1; have h2 := lt_heap HG1.out; omega
    clear HC HG1 HG0 HB1 hlt
    have e0 := fun W => eqE5 t.lang W
    have m0 := emp5 t.lang
    by_cases hl : t.lang = []
    case pos =>
      have HOo : Hid (oR b = t30 ∧ oB b = decide (t = t30)) := by
        show _ ∧ _
        rw [oR, oB, HO.out, if_pos hl, show (⟨[], [], []⟩ : T3) = t30 from rfl]
        by_cases ht : t = t30
        · rw [if_pos ht, decide_eq_true ht]; exact ⟨rfl, rfl⟩
        · rw [if_neg ht, decide_eq_false ht]; exact ⟨rfl, rfl⟩
      rw [hl] at e0 m0
      rw [hl] at hc0
      simp only [List.isEmpty_nil] at e0 m0
      have he3 := fun W => eql3 W t t30
      clear hl HO
      go_upto_region 3 with fail
      refine wp_region_held_drew (S := fun w' => w'.heap[g]? = some (.cells (tC t) 102 (0, 0)) ∧ w'.heap[w.heap.size + 1]? = some (.cells (tC t30) 102 (0, 0)) ∧ Below w.heap.size w w') (by kernel_rfl) ⟨HGt.out, HG2.out, HB2.out.drew⟩ (fun hH => ?_)
      show wpAnyH Try.prog Region.Mode.any _ _ _ 6 #[false, false, false, false, false, false] _ _
      refine takeD (i := 0) (v := .agg (tC t30)) 17 rfl rfl (by kernel_rfl) (by kernel_rfl) (by kernel_rfl) (fun _ _ _ h => h) (Or.inl ⟨rfl, fun w' hS => (by exact y_bd3 rfl)⟩) hH ?_
      simp only [Act.put, List.setIfInBounds_toArray, List.set_cons_zero, List.set_cons_succ]
      refine takeD (i := 1) (v := .agg (tC t)) 18 rfl rfl (by kernel_rfl) (by kernel_rfl) (by kernel_rfl) (fun _ _ _ h => h) (Or.inl ⟨rfl, fun w' hS => (by exact y_ld3 _ (by rfl) g t (by rfl) hS.1)⟩) hH ?_
      simp only [Act.put, List.setIfInBounds_toArray, List.set_cons_zero, List.set_cons_succ]
      refine takeD (i := 2) (v := .agg (tC t30)) 19 rfl rfl (by kernel_rfl) (by kernel_rfl) (by kernel_rfl) (fun _ _ _ h => h) (Or.inl ⟨rfl, fun w' hS => (by exact y_bd3 rfl)⟩) hH ?_
      simp only [Act.put, List.setIfInBounds_toArray, List.set_cons_zero, List.set_cons_succ]
      refine takeD (i := 3) (v := .bool (decide (t = t30))) 20 rfl rfl (by kernel_rfl) (by kernel_rfl) (by kernel_rfl) (fun _ _ _ h => h) (Or.inl ⟨rfl, fun w' hS => (by exact y_eq3 _ _ (by rfl) t t30 (by rfl) (by rfl))⟩) hH ?_
      simp only [Act.put, List.setIfInBounds_toArray, List.set_cons_zero, List.set_cons_succ]
      refine wpAnyH_ready (rs := [4]) (by kernel_rfl) (by simp) ?_
      refine AllReadyH.cons rfl (fun K hK => ?_) AllReadyH.nil
      refine stI rfl (wp_store_row 102 _ _ (by rfl) (w.heap.size + 1) (tC t30) (by rfl) (by rfl) 102 (tC t30) hH.2.1 siz23 rfl (tC_one _) ?_)
      refine hK.out (.put _ none undef) _ ⟨by rw [setRow_other _ _ _ _ hne]; exact hH.1, setRow_at hH.2.1, setRow_below hH.2.2 (by omega) _⟩ (fun hH => ?_)
      clear hK K
      simp only [Act.put, List.setIfInBounds_toArray, List.set_cons_zero, List.set_cons_succ]
      refine takeD (i := 5) (v := .bool (decide (t = t30))) 3 rfl rfl (by kernel_rfl) (by kernel_rfl) (by kernel_rfl) (fun _ _ _ h => h) (Or.inl ⟨rfl, fun w' hS => rfl⟩) hH ?_
      simp only [Act.put, List.setIfInBounds_toArray, List.set_cons_zero, List.set_cons_succ]
      refine ⟨by kernel_rfl, ?_⟩
      have HH := Lib.hid hH
      clear hH
      generalize wc.drew.setRow (w.heap.size + 1) (tC t30) = wz at *
      go_wp2_with fail
      refine bodyPost_ret (res_rowc_tmp (P := Try.prog) (T := 102) (T' := 102) (t := 3) rfl _ _ (w.heap.size + 1) (tC t30) (0, 0) rfl HH.out.2.1 Try.underlying102 rfl siz23) rfl ⟨?_, HH.out.2.2⟩
      rw [HOo.out.1, HOo.out.2]; rfl
    case neg =>
      have hle : t.lang.isEmpty = false := by cases h : t.lang with | nil => exact absurd h hl | cons c l => rfl
      rw [hle] at e0 m0
      have htx : text5 t = textT t := by rw [text5, if_neg hl]
      have hsl : (textT t).length ≤ 32 := by
        obtain ⟨h1, h2, h3⟩ := HSm.out
        unfold textT dash
        split <;> split <;> simp <;> omega
      have HTx : Hid (∀ W : World, Calls Try.prog 53 #[.agg (tC t)] W fun e w' => e = .returned (.string ⟨(textT t).toArray⟩) ∧ Below W.heap.size W w') := fun W => by
        obtain ⟨h1, h2, h3⟩ := HSm.out
        have := text_any5 t W (by omega) (by omega) (by omega)
        rwa [htx] at this
      have HPx : Hid (∀ W : World, Calls Try.prog 52 #[.string ⟨(textT t).toArray⟩] W fun e w' => e = .returned (.tuple #[.agg (tC (pR (textT t))), .bool (pB (textT t))]) ∧ Below W.heap.size W w') := fun W => refParse5_any ⟨(textT t).toArray⟩ W (by rw [ba_size]; omega)
      have HOo : Hid (oR b = (if pB (textT t) && decide (pR (textT t) = t) then t else t30) ∧ oB b = (pB (textT t) && decide (pR (textT t) = t))) := by
        show _ ∧ _
        rw [oR, oB, HO.out, if_neg hl, pB, pR]
        cases parseT (textT t) with
        | none => exact ⟨rfl, rfl⟩
        | some x =>
          by_cases hx : x = t
          · subst hx; simp
          · simp [hx]
      clear hl htx hsl HO HSm hbA
      have hn3 := fun W => neq3 W (pR (textT t)) t
      generalize pR (textT t) = px at *
      generalize pB (textT t) = pb at *
      generalize (⟨(textT t).toArray⟩ : ByteArray) = tx at *
      cases pb
      case false =>
        simp only [Bool.false_and, Bool.false_eq_true, if_false] at HOo
        go_wp2_with (first
          | (with_reducible refine ld_R3 rfl _ rfl g t rfl HGt.out ?_)
          | (go_at_call 53; (refine (HTx.out _).mono ?_); rintro e w5 ⟨rfl, hb5⟩; have HB5 := Lib.hid (HB2.out.trans (hb5.mono HB2.out.size)); have HG5 : Hid (w5.heap[w.heap.size + 1]? = some (.cells (tC t30) 102 (0, 0))) := (by (show _ = _; rw [hb5.block _ (lt_heap HG2.out)]; exact HG2.out)); have HT5 : Hid (w5.heap[g]? = some (.cells (tC t) 102 (0, 0))) := (by (show _ = _; rw [hb5.block _ hgt]; exact HGt.out)); clear hb5)
          | (go_at_call 52; (refine (HPx.out _).mono ?_); rintro e w6 ⟨rfl, hb6⟩; have HB6 := Lib.hid (HB5.out.trans (hb6.mono HB5.out.size)); have HG6 : Hid ((w6.alloc (.cells (tC px) 102)).heap[w.heap.size + 1]? = some (.cells (tC t30) 102 (0, 0))) := (by (show _ = _; rw [heap_alloc_old _ _ (Nat.lt_of_lt_of_le (lt_heap HG5.out) hb6.size), hb6.block _ (lt_heap HG5.out)]; exact HG5.out)); have HT6 : Hid ((w6.alloc (.cells (tC px) 102)).heap[g]? = some (.cells (tC t) 102 (0, 0))) := (by (show _ = _; rw [heap_alloc_old _ _ (Nat.lt_of_lt_of_le (lt_heap HT5.out) hb6.size), hb6.block _ (lt_heap HT5.out)]; exact HT5.out)); clear hb6)
          | (with_reducible refine ld_R3 rfl _ rfl w6.heap.size px rfl (heap_alloc_new _ _) ?_)
          | (with_reducible refine ld_R3 rfl _ rfl g t rfl HT6.out ?_)
          | ((with_reducible refine gate_st 102 _ _ rfl ?_); first
              | (refine wl_strn rfl 102 _ _ rfl (tC px) (tC t30) _ siz23 rfl (tC_one _) rfl rfl ?_)
              | (refine st_R3 rfl _ _ rfl (w.heap.size + 1) t30 t30 _ rfl rfl HG6.out ?_)))
        refine bodyPost_ret (res_rowc_tmp (P := Try.prog) (T := 102) (T' := 102) (t := 3) rfl _ _ (w.heap.size + 1) (tC t30) (0, 0) rfl (setRow_at HG6.out) Try.underlying102 rfl siz23) rfl ⟨?_, setRow_below (HB6.out.alloc HB6.out.size _) (by omega) _⟩
        rw [HOo.out.1, HOo.out.2]; rfl
      case true =>
        cases hpt : decide (px = t)
        case false =>
          rw [hpt] at HOo hn3
          clear hpt
          simp only [Bool.and_false, Bool.false_eq_true, if_false] at HOo
          go_wp2_with (first
            | (with_reducible refine ld_R3 rfl _ rfl g t rfl HGt.out ?_)
            | (go_at_call 53; (refine (HTx.out _).mono ?_); rintro e w5 ⟨rfl, hb5⟩; have HB5 := Lib.hid (HB2.out.trans (hb5.mono HB2.out.size)); have HG5 : Hid (w5.heap[w.heap.size + 1]? = some (.cells (tC t30) 102 (0, 0))) := (by (show _ = _; rw [hb5.block _ (lt_heap HG2.out)]; exact HG2.out)); have HT5 : Hid (w5.heap[g]? = some (.cells (tC t) 102 (0, 0))) := (by (show _ = _; rw [hb5.block _ hgt]; exact HGt.out)); clear hb5)
            | (go_at_call 52; (refine (HPx.out _).mono ?_); rintro e w6 ⟨rfl, hb6⟩; have HB6 := Lib.hid (HB5.out.trans (hb6.mono HB5.out.size)); have HG6 : Hid ((w6.alloc (.cells (tC px) 102)).heap[w.heap.size + 1]? = some (.cells (tC t30) 102 (0, 0))) := (by (show _ = _; rw [heap_alloc_old _ _ (Nat.lt_of_lt_of_le (lt_heap HG5.out) hb6.size), hb6.block _ (lt_heap HG5.out)]; exact HG5.out)); have HT6 : Hid ((w6.alloc (.cells (tC px) 102)).heap[g]? = some (.cells (tC t) 102 (0, 0))) := (by (show _ = _; rw [heap_alloc_old _ _ (Nat.lt_of_lt_of_le (lt_heap HT5.out) hb6.size), hb6.block _ (lt_heap HT5.out)]; exact HT5.out)); clear hb6)
            | (with_reducible refine ld_R3 rfl _ rfl w6.heap.size px rfl (heap_alloc_new _ _) ?_)
            | (with_reducible refine ld_R3 rfl _ rfl g t rfl HT6.out ?_)
            | ((with_reducible refine gate_st 102 _ _ rfl ?_); first
                | (refine wl_strn rfl 102 _ _ rfl (tC px) (tC t30) _ siz23 rfl (tC_one _) rfl rfl ?_)
                | (refine st_R3 rfl _ _ rfl (w.heap.size + 1) t30 t30 _ rfl rfl HG6.out ?_)))
          refine bodyPost_ret (res_rowc_tmp (P := Try.prog) (T := 102) (T' := 102) (t := 3) rfl _ _ (w.heap.size + 1) (tC t30) (0, 0) rfl (setRow_at HG6.out) Try.underlying102 rfl siz23) rfl ⟨?_, setRow_below (HB6.out.alloc HB6.out.size _) (by omega) _⟩
          rw [HOo.out.1, HOo.out.2]; rfl
        case true =>
          rw [hpt] at HOo hn3
          clear hpt
          simp only [Bool.and_self, if_true] at HOo
          go_wp2_with (first
            | (with_reducible refine ld_R3 rfl _ rfl g t rfl HGt.out ?_)
            | (go_at_call 53; (refine (HTx.out _).mono ?_); rintro e w5 ⟨rfl, hb5⟩; have HB5 := Lib.hid (HB2.out.trans (hb5.mono HB2.out.size)); have HG5 : Hid (w5.heap[w.heap.size + 1]? = some (.cells (tC t30) 102 (0, 0))) := (by (show _ = _; rw [hb5.block _ (lt_heap HG2.out)]; exact HG2.out)); have HT5 : Hid (w5.heap[g]? = some (.cells (tC t) 102 (0, 0))) := (by (show _ = _; rw [hb5.block _ hgt]; exact HGt.out)); clear hb5)
            | (go_at_call 52; (refine (HPx.out _).mono ?_); rintro e w6 ⟨rfl, hb6⟩; have HB6 := Lib.hid (HB5.out.trans (hb6.mono HB5.out.size)); have HG6 : Hid ((w6.alloc (.cells (tC px) 102)).heap[w.heap.size + 1]? = some (.cells (tC t30) 102 (0, 0))) := (by (show _ = _; rw [heap_alloc_old _ _ (Nat.lt_of_lt_of_le (lt_heap HG5.out) hb6.size), hb6.block _ (lt_heap HG5.out)]; exact HG5.out)); have HT6 : Hid ((w6.alloc (.cells (tC px) 102)).heap[g]? = some (.cells (tC t) 102 (0, 0))) := (by (show _ = _; rw [heap_alloc_old _ _ (Nat.lt_of_lt_of_le (lt_heap HT5.out) hb6.size), hb6.block _ (lt_heap HT5.out)]; exact HT5.out)); clear hb6)
            | (with_reducible refine ld_R3 rfl _ rfl w6.heap.size px rfl (heap_alloc_new _ _) ?_)
            | (with_reducible refine ld_R3 rfl _ rfl g t rfl HT6.out ?_)
            | ((with_reducible refine gate_st 102 _ _ rfl ?_); first
                | (refine wl_strn rfl 102 _ _ rfl (tC px) (tC t30) _ siz23 rfl (tC_one _) rfl rfl ?_)
                | (refine st_R3 rfl _ _ rfl (w.heap.size + 1) t t30 _ rfl rfl HG6.out ?_)))
          refine bodyPost_ret (res_rowc_tmp (P := Try.prog) (T := 102) (T' := 102) (t := 3) rfl _ _ (w.heap.size + 1) (tC t) (0, 0) rfl (setRow_at HG6.out) Try.underlying102 rfl siz23) rfl ⟨?_, setRow_below (HB6.out.alloc HB6.out.size _) (by omega) _⟩
          rw [HOo.out.1, HOo.out.2]; rfl
end Go.Proofs.Ytagdedjclbmlkaa.Tg
