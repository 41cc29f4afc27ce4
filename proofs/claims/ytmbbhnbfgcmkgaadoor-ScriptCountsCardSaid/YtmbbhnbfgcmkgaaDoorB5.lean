/- Print. -/
import Derived.Test.YtmbbhnbfgcmkgaaDoorB4
import Derived.Test.YtmbbhnbfgcmkgaaDoorO4
import Derived.Test.YtmbbhnbfgcmkgaaDoorGQ
namespace Go.Proofs.YtmbbhnbfgcmkgaaDoor
open Go.RowKit

theorem word_ix (k : Int) (h1 : 1 ≤ k) (h2 : k ≤ 6) (W : World) : (Instr.index 60 (.agg wordsA) (.int .i64 k)).run Tryd.prog W = .ok (.string ⟨(wordL k).toArray⟩) W := by
  obtain rfl | rfl | rfl | rfl | rfl | rfl : k = 1 ∨ k = 2 ∨ k = 3 ∨ k = 4 ∨ k = 5 ∨ k = 6 := by omega
  all_goals kernel_rfl
theorem wordL_len (k : Int) : (wordL k).length ≤ 7 := by
  unfold wordL
  repeat' split
  all_goals simp
theorem usesL_len (k : Int) : (usesL k).length ≤ 2 := by
  unfold usesL
  repeat' split
  all_goals simp
theorem partD_len {x : D4} (hb : x.b.length ≤ 1300) (c : UInt8) : (partD x c).length ≤ 2601 := by
  unfold partD
  have h1 := dec_len x.who
  have h2 := dec_len x.n
  have h3 := hexD_len x.b
  split
  · omega
  · split <;> omega
theorem parts_len {x : D4} (hb : x.b.length ≤ 1300) (u : List UInt8) : (u.flatMap fun c => 32 :: partD x c).length ≤ u.length * 2602 := by
  induction u with
  | nil => simp
  | cons c u ih =>
    rw [List.flatMap_cons, List.length_append, List.length_cons, List.length_cons]
    have := partD_len hb c
    omega
theorem lineD_len {x : D4} (hb : x.b.length ≤ 1300) : (lineD x).length ≤ 6000 := by
  unfold lineD
  rw [List.length_append, List.length_append, List.length_singleton]
  have h1 := wordL_len x.kind
  have h2 := usesL_len x.kind
  have h3 := parts_len hb (usesL x.kind)
  omega
/-- Where a line's printing stands. -/
structure PSt (b : Nat) (w W : World) (g it : Nat) (y : A4) (u : List UInt8) (pos : Nat) : Prop where
  bel : Below b w W
  box : W.heap[g]? = some (Obj.cells (a4C y).toArray 36 (0, 0))
  iter : W.heap[it]? = some (.stringIter ⟨u.toArray⟩ pos)
  ok : OkA W y
  abox : ApartB b W g
  aiter : ApartB b W it
  ay : ∀ a, y.q = some a → y.b ≠ [] → ApartB b W a.block ∧ a.block ≠ it
  ne : g ≠ it
theorem OkA.of_same {W W' : World} {x : A4} (h : OkA W x) (hs : W.heap.size ≤ W'.heap.size) (hb : ∀ a, x.q = some a → x.b ≠ [] → W'.heap[a.block]? = W.heap[a.block]?) : OkA W' x :=
  ⟨fun i hi => by
    obtain ⟨b, o, h1, h2, h3⟩ := h.row i hi
    exact ⟨b, o, h1, Nat.lt_of_lt_of_le h2 hs, range_of_block h3 (hb _ h1 (fun e => by rw [e] at hi; simp at hi))⟩, h.le, h.max, h.nilc⟩
theorem PSt.keep {b : Nat} {w W W' : World} {g it : Nat} {y : A4} {u : List UInt8} {pos : Nat} (h : PSt b w W g it y u pos) (hb : Below b W W') (hk : KeepA b W W') : PSt b w W' g it y u pos :=
  ⟨h.bel.trans hb, (hk _ h.abox).2.trans h.box, (hk _ h.aiter).2.trans h.iter, h.ok.of_same hb.size (fun a ha hn => (hk _ (h.ay a ha hn).1).2), (hk _ h.abox).1, (hk _ h.aiter).1, fun a ha hn => ⟨(hk _ (h.ay a ha hn).1).1, (h.ay a ha hn).2⟩, h.ne⟩
theorem ApartB.put {b : Nat} {W : World} {k it : Nat} {o : Obj} (h : ApartB b W k) (hit : it ≠ b) : ApartB b (putB W it o) k :=
  ⟨h.1, by rw [putB_size]; exact h.2.1, fun v hv => h.2.2 v (by rw [← hv]; unfold World.cell?; rw [putB_other _ _ _ _ (Ne.symm hit)])⟩
theorem PSt.next {b : Nat} {w W : World} {g it : Nat} {y : A4} {u : List UInt8} {pos : Nat} (h : PSt b w W g it y u pos) (hit : b ≤ it) : PSt b w (putB W it (.stringIter ⟨u.toArray⟩ (pos + 1))) g it y u (pos + 1) :=
  ⟨putB_below h.bel _ _ hit, (putB_other _ _ _ _ h.ne).trans h.box, putB_same _ _ _ _ h.iter, h.ok.of_same (by rw [putB_size]; exact Nat.le_refl _) (fun a ha hn => putB_other _ _ _ _ (h.ay a ha hn).2), h.abox.put h.aiter.1, h.aiter.put h.aiter.1, fun a ha hn => ⟨(h.ay a ha hn).1.put h.aiter.1, (h.ay a ha hn).2⟩, h.ne⟩
theorem IsB.put {B b : Nat} {bs : List Value} {W : World} {it : Nat} {o : Obj} (h : IsB B b bs W) (hit : ApartB b W it) : IsB B b bs (putB W it o) := by
  have key : ∀ p, Lib.BuilderAt 54 5 B b p bs W → Lib.BuilderAt 54 5 B b p bs (putB W it o) := fun p ⟨hB, v, hbk, hown, hne⟩ => by
    have hv : W.cell? ⟨b, 1, none⟩ = some v := by rw [cell_blk hbk]; rfl
    have ha := hit.2.2 v hv
    refine ⟨hB, v, (putB_other _ _ _ _ (Ne.symm hit.1)).trans hbk, ?_, hne⟩
    obtain ⟨h1, h2 | ⟨g, cap, cur, hv, hg, hh, r⟩⟩ := hown
    · exact ⟨h1, .inl h2⟩
    · exact ⟨h1, .inr ⟨g, cap, cur, hv, hg, (putB_other _ _ _ _ (fun e => ha (by rw [hv, ← e]; rfl))).trans hh, r⟩⟩
  exact h.elim (fun x => .inl (key _ x)) (fun x => .inr (key _ x))
/-- As before the texts of the line are gone through. -/
structure QSt (b : Nat) (w W : World) (g : Nat) (y : A4) : Prop where
  bel : Below b w W
  box : W.heap[g]? = some (Obj.cells (a4C y).toArray 36 (0, 0))
  ok : OkA W y
  abox : ApartB b W g
  ay : ∀ a, y.q = some a → y.b ≠ [] → ApartB b W a.block
theorem QSt.keep {b : Nat} {w W W' : World} {g : Nat} {y : A4} (h : QSt b w W g y) (hb : Below b W W') (hk : KeepA b W W') : QSt b w W' g y :=
  ⟨h.bel.trans hb, (hk _ h.abox).2.trans h.box, h.ok.of_same hb.size (fun a ha hn => (hk _ (h.ay a ha hn)).2), (hk _ h.abox).1, fun a ha hn => (hk _ (h.ay a ha hn)).1⟩
theorem QSt.below {b B : Nat} {bs : List Value} {w W W' : World} {g : Nat} {y : A4} (h : QSt b w W g y) (hB : IsB B b bs W) (hb : Below W.heap.size W W') : QSt b w W' g y :=
  h.keep (hb.mono (Nat.le_of_lt hB.lt)) (KeepA.below hB.lt hb)
theorem QSt.iter {b B : Nat} {bs : List Value} {w W : World} {g : Nat} {y : A4} (h : QSt b w W g y) (hB : IsB B b bs W) (u : List UInt8) : PSt b w (W.iter ⟨u.toArray⟩ 0) g W.heap.size y u 0 :=
  have hb : Below W.heap.size W (W.iter ⟨u.toArray⟩ 0) := below_alloc1 _ _
  have h2 := h.below hB hb
  ⟨h2.bel, h2.box, World.iter_heap _ _ _, h2.ok, h2.abox, ApartB.new hB hb (Nat.le_refl _) (by simp [World.iter]), fun a ha hn => ⟨h2.ay a ha hn, by have := (h.ay a ha hn).2.1; omega⟩, by have := lt_heap h.box; omega⟩
theorem err_ok {x : D4} (h : errD x = 0) : 1 ≤ x.kind ∧ x.kind ≤ 6 ∧ 0 ≤ x.who ∧ x.who ≤ 7 ∧ 0 ≤ x.n ∧ x.n ≤ 300 ∧ x.b.length ≤ 1300 := by
  unfold errD at h
  split at h
  · cases h
  · split at h
    · cases h
    · split at h
      · cases h
      · omega
theorem catS (a b : List UInt8) (h : a.length + b.length ≤ 1000000000) (w : World) : (binOp .add 9 (.string ⟨a.toArray⟩) (.string ⟨b.toArray⟩)).run Tryd.prog w = .ok (.string ⟨(a ++ b).toArray⟩) w := by
  have hs : (⟨a.toArray⟩ : ByteArray).size = a.length := by show a.toArray.size = _; simp
  have hs2 : (⟨b.toArray⟩ : ByteArray).size = b.length := by show b.toArray.size = _; simp
  have e : (⟨a.toArray⟩ : ByteArray) ++ ⟨b.toArray⟩ = ⟨(a ++ b).toArray⟩ := ByteArray.ext (by simp)
  have hz : ¬ 9223372036854775807 < a.length + b.length := by omega
  go_simp
theorem rg_callC {W : World} {f : FuncId} {args : Array Value} {v : Value} (h : ∀ w, Calls Tryd.prog f args w fun e w' => e = .returned v ∧ Below w.heap.size w w') (d : Nat) (os : Array Obj) :
    Calls Tryd.prog f args (Sort.grow (redrawn W d) os) fun e w'' => e = .returned v ∧ ∃ p : Regrown, w'' = Sort.grow (redrawn W p.d) p.os := Calls.regrown_of (h _)
set_option maxRecDepth 100000 in
set_option maxHeartbeats 8000000 in
theorem print_any (q : Option Addr) (xs : List A4) (n cap : Nat) (w : World) (hn : xs.length = n) (hm : n ≤ 1000000) (hA : Acts w q xs) (hb : ∀ x ∈ xs, x.b.length ≤ 1000000) (ht : TB w) :
    Calls Tryd.prog 8 #[.slice q n cap] w fun e w' => e = .returned (.tuple #[.string ⟨(printF 0 [] (xs.map A4.d)).1.toArray⟩, .int .i64 (printF 0 [] (xs.map A4.d)).2]) ∧ Below w.heap.size w w' := by
  have HL := Lib.hid hn
  have HA := Lib.hid hA
  have HBy := Lib.hid hb
  have HTB := Lib.hid ht
  clear hn hA hb ht
  have HB0 := Lib.hid (IsB.fresh w)
  have HW0 : Hid (Below w.heap.size w (w.alloc (.cells #[.pointer none, .slice none 0 0] 54))) := below_alloc1 _ _
  go_enter Tryd.func8, Tryd.ntmps8
  go_wp2_with fail
  generalize w.alloc (.cells #[.pointer none, .slice none 0 0] 54) = W0 at *
  go_loopw [14] (fun i wr => ∃ (k : Nat) (acc : List UInt8), k ≤ n ∧ k ≤ 200 ∧ i = .int .i64 k ∧ Hid (IsB w.heap.size w.heap.size (Lib.byteCells acc) wr) ∧ Hid (Below w.heap.size w wr) ∧ Hid (printF k acc ((xs.map A4.d).drop k) = printF 0 [] (xs.map A4.d)) ∧ Hid (acc.length ≤ k * 6000)) (fun i _ => n - (intOf i).toNat)
  case atStart => exact ⟨0, [], Nat.zero_le _, Nat.zero_le _, rfl, HB0.out, HW0.out, rfl, Nat.zero_le _⟩
  case round =>
    obtain ⟨k, acc, hk, hk2, rfl, HB, HW, HP, HAl⟩ := hrel
    clear HB0 HW0
    by_cases hlt : k < n
    · have hli : (k : Int) < n := by omega
      have hkx : k < xs.length := by rw [HL.out]; exact hlt
      obtain ⟨bq, f, rfl, hb1, hr1⟩ := (HA.out.row.below HW.out) k hkx
      have HR := Lib.hid (InRow.mk hb1 hr1)
      have HX := Lib.hid ((HA.out.ok _ (List.getElem_mem hkx)).below HW.out)
      have HXl := Lib.hid (HBy.out _ (List.getElem_mem hkx))
      have HS : Hid ((xs.map A4.d).drop k = xs[k].d :: (xs.map A4.d).drop (k + 1)) := by
        show _ = _
        rw [List.drop_eq_getElem_cons (by simpa using hkx)]; simp
      clear hb1 hr1
      rw [HS.out] at HP
      clear HS HA HBy
      generalize xs[k] = x at *
      by_cases h2 : k = 200
      · have HRes : Hid (printF 0 [] (xs.map A4.d) = ([], 2)) := by show _ = _; rw [← HP.out, printF, if_pos (by omega)]
        subst h2
        go_wp2_with (first
          | (refine wl_ix rfl 22 36 _ _ rfl Tryd.underlying22 4 sizA4 bq f n cap 200 rfl rfl hlt ?_)
          | (refine ld_A4 rfl _ rfl bq (f + 200 * 4) x rfl HR.out.row ?_)
          | ((with_reducible refine gate_st 36 _ _ rfl ?_); refine wl_strn rfl _ _ _ rfl (a4C x).toArray _ _ sizA4 rfl (by simp [a4C, Value.oneCell']) rfl rfl ?_))
        go_ret2
        exact ⟨by rw [HRes.out]; rfl, HW.out.alloc HW.out.size _⟩
      · have hk3 : (k : Int) < 200 := by omega
        have HBa := Lib.hid (fun W (hW : OkA W x) => bare_any x W hW HXl.out)
        go_upto_region 8 with (first
          | (refine wl_ix rfl 22 36 _ _ rfl Tryd.underlying22 4 sizA4 bq f n cap k rfl rfl hlt ?_)
          | (first | (refine ld_A4 rfl _ rfl bq (f + k * 4) x rfl HR.out.row ?_) | (refine ld_A4 rfl _ rfl wr.heap.size 0 x rfl (range_whole (heap_alloc_new _ _)) ?_))
          | ((with_reducible refine gate_st 36 _ _ rfl ?_); first | (refine wl_strn rfl _ _ _ rfl (a4C x).toArray _ _ sizA4 rfl (by simp [a4C, Value.oneCell']) rfl rfl ?_) | (refine wl_strn rfl _ _ _ rfl (a4C y).toArray _ _ sizA4 rfl (by simp [a4C, Value.oneCell']) rfl rfl ?_))
          | (go_at_call 12; (refine (HBa.out _ (HX.out.below (below_alloc1 _ _))).mono ?_); rintro e w1 ⟨y, rfl, hyd, hyo, hyn, hb1⟩))
        have hb2 : Below wr.heap.size wr (w1.alloc (.cells (a4C y).toArray 36)) := ((below_alloc1 wr (.cells (a4C x).toArray 36)).trans (hb1.mono (by simp))).alloc (by have := hb1.size; simp at this; omega) _
        have HB2 := Lib.hid (HB.out.below hb2)
        have HW2 := bt HW hb2
        have hsz : wr.heap.size ≤ w1.heap.size := by have := hb1.size; simp at this; omega
        have HOk2 := Lib.hid (hyo.below (below_alloc1 w1 (.cells (a4C y).toArray 36)))
        have FY : Hid ((w1.alloc (.cells (a4C y).toArray 36)).heap[w1.heap.size]? = some (Obj.cells (a4C y).toArray 36 (0, 0))) := heap_alloc_new _ _
        have HQ : Hid (QSt w.heap.size w (w1.alloc (.cells (a4C y).toArray 36)) w1.heap.size y) := ⟨HW2.out, FY.out, HOk2.out, ApartB.new HB.out hb2 hsz (lt_heap FY.out), fun a ha hn => ApartB.new HB.out hb2 (by have := hyn a ha; simp at this; omega) (by
          obtain ⟨b', o', e, h1, _⟩ := HOk2.out.row 0 (by cases hyb : y.b with | nil => exact absurd hyb hn | cons _ _ => simp)
          rw [ha] at e
          simp only [Option.some.injEq] at e
          rw [e]; exact h1)⟩
        have KC : Hid (∀ W, Calls Tryd.prog 22 #[.agg (a4C y).toArray] W fun e w' => e = .returned (.int .i64 (errD (bareD x.d))) ∧ Below W.heap.size W w') := fun W => by rw [← hyd]; exact check_act y W
        have HYd := Lib.hid hyd
        clear hyd hyo hyn hb1 hb2 hsz HB HW HBa HX HR
        generalize (w1.alloc (.cells (a4C y).toArray 36)) = W2 at *
        generalize w1.heap.size = g at *
        by_cases he : errD (bareD x.d) = 0
        case neg =>
          have HRes : Hid (printF 0 [] (xs.map A4.d) = ([], errD (bareD x.d))) := by show _ = _; rw [← HP.out, printF, if_neg (by omega), if_pos he]
          have he1 : (errD (bareD x.d) != 0) = true := by simpa using he
          have he2 : (errD (bareD x.d) == 0) = false := by simpa using he
          clear HP HQ
          generalize errD (bareD x.d) = ed at *
          go_wp2_with (first
            | (refine ld_A4 rfl _ rfl g 0 y rfl (range_whole (by simpa using FY.out)) ?_)
            | (go_at_call 22; (refine (KC.out _).mono ?_); rintro e w3 ⟨rfl, hb3⟩))
          go_ret2
          exact ⟨by rw [HRes.out]; rfl, (bt HW2 hb3).out⟩
        case pos =>
          have HP2 : Hid (printF (k + 1) (acc ++ lineD (bareD x.d)) ((xs.map A4.d).drop (k + 1)) = printF 0 [] (xs.map A4.d)) := by show _ = _; rw [← HP.out]; conv => rhs; rw [printF, if_neg (by omega), if_neg (by rw [he]; decide)]
          rw [he] at KC
          go_upto_region 11 with (first
            | (refine ld_A4 rfl _ rfl g 0 y rfl (range_whole (by simpa using FY.out)) ?_)
            | (go_at_call 22; (refine (KC.out _).mono ?_); rintro e w3 ⟨rfl, hb3⟩))
          have HE : Hid (1 ≤ y.kind ∧ y.kind ≤ 6 ∧ 0 ≤ y.who ∧ y.who ≤ 7 ∧ 0 ≤ y.n ∧ y.n ≤ 300 ∧ y.b.length ≤ 1300) := err_ok (x := y.d) (by rw [HYd.out]; exact he)
          have HLn : Hid (lineD (bareD x.d) = wordL y.kind ++ (usesL y.kind).flatMap (fun c => 32 :: partD y.d c) ++ [10]) := by show _ = _; rw [← HYd.out]; rfl
          have HLl : Hid ((lineD (bareD x.d)).length ≤ 6000) := by show _ ≤ _; rw [← HYd.out]; exact lineD_len HE.out.2.2.2.2.2.2
          have HB3 := Lib.hid (HB2.out.below hb3)
          have HQ3 := Lib.hid (HQ.out.below HB2.out hb3)
          have hk0 : w3.cell? ⟨g, 0, none⟩ = some (.int .i64 y.kind) := by rw [cell_blk HQ3.out.box]; rfl
          have hk0r := fun d os => cell_regrown hk0 d os
          have hwx := fun W => word_ix y.kind HE.out.1 HE.out.2.1 W
          have KW : Hid (∀ W, Calls Tryd.prog 24 #[] W fun e w' => e = .returned (.agg wordsA) ∧ Below W.heap.size W w') := fun W => words_any W
          have KU : Hid (∀ W, Calls Tryd.prog 25 #[.int .i64 y.kind] W fun e w' => e = .returned (.string ⟨(usesL y.kind).toArray⟩) ∧ Below W.heap.size W w') := fun W => uses_any y.kind W
          have HBt := Lib.hid (HTB.out)
          have hal : (Lib.byteCells acc).length ≤ 1200000 := by
            rw [Lib.byteCells_length]
            have := HAl.out
            have : k * 6000 ≤ 200 * 6000 := Nat.mul_le_mul_right _ hk2
            omega
          have hwl : (⟨(wordL y.kind).toArray⟩ : ByteArray).size ≤ 7 := by show (wordL y.kind).toArray.size ≤ 7; rw [List.size_toArray]; exact wordL_len _
          clear KC he HB2 HW2 HQ FY HOk2 hb3
          refine wp_region_below_tail 4 (by kernel_rfl) (by kernel_rfl) ?_
          simp only [List.take_succ_cons, List.take_zero, List.drop_succ_cons, List.drop_zero]
          repeat (go_big_quiet_step (first | (with_reducible exact rg_callC KW.out _ _)))
          refine wpQuiet_nil ?_
          rintro _ ⟨⟨dq, osq⟩, rfl⟩
          have hbq := below_regrown w3 dq osq
          have HB4 := Lib.hid (HB3.out.below hbq)
          have HQ4 := Lib.hid (HQ3.out.below HB3.out hbq)
          clear hbq HB3 HQ3 hk0 hk0r
          generalize Sort.grow (redrawn w3 dq) osq = w4 at *
          go_wp2_with (first
            | (go_at_call 23; (refine (writeStr_apart _ _ _ _ _ HB4.out (by omega)).mono ?_); rintro e w5 ⟨rfl, hu5, hb5, hk5⟩; have HB5 : Hid (IsB w.heap.size w.heap.size _ w5) := Or.inr hu5; have HQ5 := Lib.hid (HQ4.out.keep hb5 hk5); have hk0 : w5.cell? ⟨g, 0, none⟩ = some (.int .i64 y.kind) := (by rw [cell_blk HQ5.out.box]; rfl); clear hu5 hb5 hk5 HB4 HQ4)
            | (go_at_call 25; (refine (KU.out _).mono ?_); rintro e w6 ⟨rfl, hb6⟩))
          have HB6 := Lib.hid (HB5.out.below hb6)
          have HQ6 := Lib.hid (HQ5.out.below HB5.out hb6)
          have HP6 := Lib.hid (HQ6.out.iter HB6.out (usesL y.kind))
          have HB7 : Hid (IsB w.heap.size w.heap.size (Lib.byteCells acc ++ Lib.strCells ⟨(wordL y.kind).toArray⟩) (w6.iter ⟨(usesL y.kind).toArray⟩ 0)) := HB6.out.below (below_alloc1 _ _)
          have HAc : Hid (Lib.byteCells acc ++ Lib.strCells ⟨(wordL y.kind).toArray⟩ = Lib.byteCells (acc ++ wordL y.kind)) := by show _ = _; simp [Lib.byteCells, Lib.strCells]
          have hul := usesL_len y.kind
          have HUI := Lib.hid (uses_in y.kind)
          rw [HAc.out] at HB7
          have hitb : w.heap.size ≤ w6.heap.size := by have := HQ6.out.bel.size; exact this
          clear hb6 HB5 HQ5 HB6 HQ6 HAc hk0 KU KW hwx
          generalize usesL y.kind = u at *
          generalize w6.iter ⟨u.toArray⟩ 0 = W7 at *
          generalize w6.heap.size = it at *
          go_loopw [11] (fun _ wr => ∃ (pos : Nat) (acc2 : List UInt8), pos ≤ u.length ∧ Hid (PSt w.heap.size w wr g it y u pos) ∧ Hid (IsB w.heap.size w.heap.size (Lib.byteCells acc2) wr) ∧ Hid (acc2 = acc ++ wordL y.kind ++ (u.take pos).flatMap (fun c => 32 :: partD y.d c))) (fun _ wr => u.length - wr.iterPos it)
          case atStart => exact ⟨0, _, Nat.zero_le _, HP6.out, HB7.out, by simp [Hid]⟩
          case round =>
            obtain ⟨pos, acc2, hpos, HPp, HBp, HAp⟩ := hrel
            clear HP6 HB7
            have hal2 : (Lib.byteCells acc2).length ≤ 1300000 := by
              rw [Lib.byteCells_length]
              have h1 := congrArg List.length HAp.out
              have h2 := parts_len (x := y.d) HE.out.2.2.2.2.2.2 (u.take pos)
              have h3 := wordL_len y.kind
              have h4 : (u.take pos).length ≤ 2 := Nat.le_trans (List.length_take_le' _ _) hul
              rw [List.length_append, List.length_append] at h1
              rw [Lib.byteCells_length] at hal
              omega
            by_cases hlp : pos < u.length
            case pos =>
              have hc : u[pos]? = some u[pos] := List.getElem?_eq_getElem hlp
              have hci := HUI.out _ (List.getElem_mem hlp)
              have HTk : Hid (acc2 ++ 32 :: partD y.d u[pos] = acc ++ wordL y.kind ++ (u.take (pos + 1)).flatMap (fun c => 32 :: partD y.d c)) := by
                show _ = _
                rw [HAp.out, List.take_succ_eq_append_getElem hlp, List.flatMap_append]; simp
              generalize u[pos] = c at *
              have hnx := fun ty => runS_next (P := Tryd.prog) wr it ⟨u.toArray⟩ pos ty c HPp.out.iter (by simpa using hc) (by rcases hci with h | h | h <;> (rw [h]; decide))
              have HPn := Lib.hid (HPp.out.next hitb)
              have HBn : Hid (IsB w.heap.size w.heap.size (Lib.byteCells acc2) (putB wr it (.stringIter ⟨u.toArray⟩ (pos + 1)))) := HBp.out.put HPp.out.aiter
              have HM : Hid (u.length - (pos + 1) < u.length - wr.iterPos it) := by show _ < _; rw [iterPos_at HPp.out.iter]; omega
              clear hc HPp HBp HAp
              generalize putB wr it (.stringIter ⟨u.toArray⟩ (pos + 1)) = W8 at *
              have hq3 : W8.cell? ⟨g, 3, none⟩ = some (.slice y.q y.b.length y.cap) := by rw [cell_blk HPn.out.box]; rfl
              have KH : Hid (∀ W, OkA W y → Calls Tryd.prog 14 #[.slice y.q y.b.length y.cap] W fun e w' => e = .returned (.string ⟨(hexD y.b).toArray⟩) ∧ Below W.heap.size W w') := fun W h => hex_any y.q y.b _ y.cap W rfl (by have := HE.out.2.2.2.2.2.2; omega) h.row
              have hd1 := dec_len y.who
              have hd2 := dec_len y.n
              have hd3 : (hexD y.b).length ≤ 2601 := by have := hexD_len y.b; have := HE.out.2.2.2.2.2.2; omega
              have hw0 : 0 ≤ y.who := HE.out.2.2.1
              have hw7 : y.who ≤ 7 := HE.out.2.2.2.1
              have hn0 : 0 ≤ y.n := HE.out.2.2.2.2.1
              have hn3 : y.n ≤ 300 := HE.out.2.2.2.2.2.1
              rcases hci with rfl | rfl | rfl
              · skip
                have hcat := fun W => catS [32] (decL y.who) (by simp only [List.length_cons, List.length_nil]; omega) W
                have hws : (⟨(32 :: decL y.who).toArray⟩ : ByteArray).size ≤ 3000 := by show (32 :: decL y.who).toArray.size ≤ 3000; rw [List.size_toArray, List.length_cons]; omega
                simp only [List.cons_append, List.nil_append] at hcat
                have HJ : Hid (Lib.byteCells acc2 ++ Lib.strCells ⟨(32 :: decL y.who).toArray⟩ = Lib.byteCells (acc2 ++ 32 :: decL y.who)) := by show _ = _; simp [Lib.byteCells, Lib.strCells]
                go_wp2_with (first
                  | (go_at_call 14; (refine (KH.out _ HPn.out.ok).mono ?_); rintro e w9 ⟨rfl, hb9⟩; have HP9 := Lib.hid (HPn.out.keep (hb9.mono (Nat.le_of_lt HBn.out.lt)) (KeepA.below HBn.out.lt hb9)); have HB9 := Lib.hid (HBn.out.below hb9); clear hb9 HPn HBn hq3; have hqn : w9.cell? ⟨g, 1, none⟩ = some (.int .i64 y.who) := (by rw [cell_blk HP9.out.box]; rfl))
                  | (go_at_call 26; (refine (itoa_any y.who _ (by omega) (by omega) (HTB.out.below HP9.out.bel)).mono ?_); rintro e w10 ⟨rfl, hb10⟩; have HP10 := Lib.hid (HP9.out.keep (hb10.mono (Nat.le_of_lt HB9.out.lt)) (KeepA.below HB9.out.lt hb10)); have HB10 := Lib.hid (HB9.out.below hb10); clear hb10 HP9 HB9 hqn)
                  | (go_at_call 23; (refine (writeStr_apart _ _ _ ⟨(32 :: decL y.who).toArray⟩ _ HB10.out (by omega)).mono ?_); rintro e w11 ⟨rfl, hu11, hb11, hk11⟩; have HB11 : Hid (IsB w.heap.size w.heap.size _ w11) := Or.inr hu11; have HP11 := Lib.hid (HP10.out.keep hb11 hk11); clear hu11 hb11 hk11 HP10 HB10))
                rw [HJ.out] at HB11
                go_roundw
                case rel => exact ⟨pos + 1, _, by omega, HP11.out, HB11.out, HTk.out⟩
                case measure => rw [iterPos_at HP11.out.iter]; exact HM.out
              · skip
                have hcat := fun W => catS [32] (decL y.n) (by simp only [List.length_cons, List.length_nil]; omega) W
                have hws : (⟨(32 :: decL y.n).toArray⟩ : ByteArray).size ≤ 3000 := by show (32 :: decL y.n).toArray.size ≤ 3000; rw [List.size_toArray, List.length_cons]; omega
                simp only [List.cons_append, List.nil_append] at hcat
                have HJ : Hid (Lib.byteCells acc2 ++ Lib.strCells ⟨(32 :: decL y.n).toArray⟩ = Lib.byteCells (acc2 ++ 32 :: decL y.n)) := by show _ = _; simp [Lib.byteCells, Lib.strCells]
                go_wp2_with (first
                  | (go_at_call 14; (refine (KH.out _ HPn.out.ok).mono ?_); rintro e w9 ⟨rfl, hb9⟩; have HP9 := Lib.hid (HPn.out.keep (hb9.mono (Nat.le_of_lt HBn.out.lt)) (KeepA.below HBn.out.lt hb9)); have HB9 := Lib.hid (HBn.out.below hb9); clear hb9 HPn HBn hq3; have hqn : w9.cell? ⟨g, 2, none⟩ = some (.int .i64 y.n) := (by rw [cell_blk HP9.out.box]; rfl))
                  | (go_at_call 26; (refine (itoa_any y.n _ (by omega) (by omega) (HTB.out.below HP9.out.bel)).mono ?_); rintro e w10 ⟨rfl, hb10⟩; have HP10 := Lib.hid (HP9.out.keep (hb10.mono (Nat.le_of_lt HB9.out.lt)) (KeepA.below HB9.out.lt hb10)); have HB10 := Lib.hid (HB9.out.below hb10); clear hb10 HP9 HB9 hqn)
                  | (go_at_call 23; (refine (writeStr_apart _ _ _ ⟨(32 :: decL y.n).toArray⟩ _ HB10.out (by omega)).mono ?_); rintro e w11 ⟨rfl, hu11, hb11, hk11⟩; have HB11 : Hid (IsB w.heap.size w.heap.size _ w11) := Or.inr hu11; have HP11 := Lib.hid (HP10.out.keep hb11 hk11); clear hu11 hb11 hk11 HP10 HB10))
                rw [HJ.out] at HB11
                go_roundw
                case rel => exact ⟨pos + 1, _, by omega, HP11.out, HB11.out, HTk.out⟩
                case measure => rw [iterPos_at HP11.out.iter]; exact HM.out
              · skip
                have hcat := fun W => catS [32] (hexD y.b) (by simp only [List.length_cons, List.length_nil]; omega) W
                have hws : (⟨(32 :: hexD y.b).toArray⟩ : ByteArray).size ≤ 3000 := by show (32 :: hexD y.b).toArray.size ≤ 3000; rw [List.size_toArray, List.length_cons]; omega
                simp only [List.cons_append, List.nil_append] at hcat
                have HJ : Hid (Lib.byteCells acc2 ++ Lib.strCells ⟨(32 :: hexD y.b).toArray⟩ = Lib.byteCells (acc2 ++ 32 :: hexD y.b)) := by show _ = _; simp [Lib.byteCells, Lib.strCells]
                go_wp2_with (first
                  | (go_at_call 14; (refine (KH.out _ HPn.out.ok).mono ?_); rintro e w9 ⟨rfl, hb9⟩; have HP9 := Lib.hid (HPn.out.keep (hb9.mono (Nat.le_of_lt HBn.out.lt)) (KeepA.below HBn.out.lt hb9)); have HB9 := Lib.hid (HBn.out.below hb9); clear hb9 HPn HBn hq3)
                  | (go_at_call 23; (refine (writeStr_apart _ _ _ ⟨(32 :: hexD y.b).toArray⟩ _ HB9.out (by omega)).mono ?_); rintro e w11 ⟨rfl, hu11, hb11, hk11⟩; have HB11 : Hid (IsB w.heap.size w.heap.size _ w11) := Or.inr hu11; have HP11 := Lib.hid (HP9.out.keep hb11 hk11); clear hu11 hb11 hk11 HP9 HB9))
                rw [HJ.out] at HB11
                go_roundw
                case rel => exact ⟨pos + 1, _, by omega, HP11.out, HB11.out, HTk.out⟩
                case measure => rw [iterPos_at HP11.out.iter]; exact HM.out
            case neg =>
              obtain rfl : pos = u.length := by omega
              have hus : (⟨u.toArray⟩ : ByteArray).size = u.length := by show u.toArray.size = _; simp
              have hnx := fun ty => runS_end (P := Tryd.prog) wr it ⟨u.toArray⟩ u.length ty HPp.out.iter (by rw [hus]; omega)
              have HLn2 : Hid (acc2 ++ [10] = acc ++ lineD (bareD x.d)) := by show _ = _; rw [HAp.out, HLn.out, List.take_of_length_le (Nat.le_refl _)]; simp
              have hnl : (⟨#[10]⟩ : ByteArray).size = 1 := rfl
              go_wp2_with (go_at_call 23; (refine (writeStr_apart _ _ _ ⟨#[10]⟩ _ HBp.out (by omega)).mono ?_); rintro e w11 ⟨rfl, hu11, hb11, hk11⟩)
              have HB11 : Hid (IsB w.heap.size w.heap.size (Lib.byteCells (acc2 ++ [10])) w11) := by
                have : Lib.byteCells acc2 ++ Lib.strCells ⟨#[10]⟩ = Lib.byteCells (acc2 ++ [10]) := by simp [Lib.byteCells, Lib.strCells]
                rw [← this]; exact Or.inr hu11
              go_roundw
              case rel => exact ⟨k + 1, acc2 ++ [10], by omega, by omega, by go_num, HB11.out, HPp.out.bel.trans hb11, by rw [HLn2.out]; exact HP2.out, by show _ ≤ _; rw [HLn2.out, List.length_append]; have := HLl.out; have := HAl.out; omega⟩
              case measure => simp [intOf]; omega
    · obtain rfl : n = k := by omega
      have HRes : Hid (printF 0 [] (xs.map A4.d) = (acc, 0)) := by
        show _ = _
        rw [← HP.out, List.drop_eq_nil_of_le (by rw [List.length_map, HL.out]; exact Nat.le_refl _)]; rfl
      have HSt := Lib.hid (Tryd.Builder_String_any w.heap.size w.heap.size acc wr HB.out HW.out.size)
      go_wp2_with (go_at_call 27; (refine HSt.out.mono ?_); rintro e w2 ⟨rfl, hb2⟩)
      go_ret2
      exact ⟨by rw [HRes.out]; rfl, HW.out.trans hb2⟩
end Go.Proofs.YtmbbhnbfgcmkgaaDoor
