/- The program's Parse. -/
import Derived.Test.YtmbbhnbfgcmkgaaDoorP7
namespace Go.Proofs.YtmbbhnbfgcmkgaaDoor
open Go.RowKit

theorem ix_none {l : List UInt8} {c : UInt8} (h : Lib.indexByte l c < 0) : ∀ x ∈ l, x ≠ c := fun x hx e => by
  have h1 : Lib.indexByte l c = -1 := by have := Lib.indexByte_ge l c; omega
  obtain ⟨i, hi, rfl⟩ := List.mem_iff_getElem.1 hx
  exact Lib.indexByte_none h1 i (by rw [List.getElem?_eq_getElem hi, e])
theorem ix_some {l : List UInt8} {c : UInt8} (h : ¬ Lib.indexByte l c < 0) : ∃ k : Nat, Lib.indexByte l c = k ∧ k < l.length ∧ l = l.take k ++ c :: l.drop (k + 1) ∧ ∀ x ∈ l.take k, x ≠ c := by
  obtain ⟨k, hk⟩ : ∃ k : Nat, Lib.indexByte l c = k := ⟨(Lib.indexByte l c).toNat, by omega⟩
  obtain ⟨h1, h2⟩ := Lib.indexByte_some hk
  obtain ⟨hl, hc⟩ := List.getElem?_eq_some_iff.1 h1
  refine ⟨k, hk, hl, ?_, fun x hx e => ?_⟩
  · rw [← hc, ← List.drop_eq_getElem_cons hl, List.take_append_drop]
  · obtain ⟨i, hi, rfl⟩ := List.mem_iff_getElem.1 hx
    rw [List.length_take] at hi
    exact h2 i (by omega) (by rw [List.getElem?_eq_getElem (by omega)]; rw [List.getElem_take] at e; rw [e])
theorem ba_data (t : ByteArray) : (⟨t.data.toList.toArray⟩ : ByteArray) = t := ByteArray.ext (by simp)
theorem ex_front (t : ByteArray) (k : Nat) : (t.extract 0 k) = ⟨(t.data.toList.take k).toArray⟩ := by
  rw [← ba_data (t.extract 0 k), Lib.extract_data, List.drop_zero, Nat.sub_zero]
theorem ex_back (t : ByteArray) (k : Nat) : (t.extract k t.size).data.toList = t.data.toList.drop k := by rw [Lib.extract_data, List.take_of_length_le (by simp)]
theorem szl (t : ByteArray) : t.data.toList.length = t.size := by simp
theorem ba_nil {t : ByteArray} (h : t.size = 0) : t = ⟨#[]⟩ := by
  apply ByteArray.ext; exact Array.size_eq_zero_iff.1 h
theorem ba_ne {t : ByteArray} (h : 0 < t.size) : t.data.toList ≠ [] := fun e => by
  have := szl t; rw [e] at this; simp at this; omega
theorem ba_list {t : ByteArray} (h : 0 < t.size) : t.toList.isEmpty = false := by
  rw [ByteArray.toList_eq]
  cases hl : t.data.toList with
  | nil => exact absurd hl (ba_ne h)
  | cons a l => rfl
def strLen : Value → Nat
  | .string s => s.size
  | _ => 0
theorem parse_none {out : List D4} {t : List UInt8} (h : ∀ x ∈ t, x ≠ 10) (h0 : t ≠ []) : parseP out (spl 10 t) = ([], out.length, 4) := by
  rw [spl_one h]; unfold parseP; rw [if_neg h0]
theorem parse_line (out : List D4) {p r : List UInt8} (h : ∀ x ∈ p, x ≠ 10) : parseP out (spl 10 (p ++ 10 :: r)) = if 200 ≤ out.length then ([], out.length, 2) else if (lineL p).2 ≠ 0 then ([], out.length, (lineL p).2) else parseP (out ++ [(lineL p).1]) (spl 10 r) := by
  rw [spl_app _ h, parseP_cons _ _ (spl_ne 10 r)]
/-- Where Parse stands. -/
structure POut (w W : World) (v : Value) (xs : List A4) : Prop where
  bel : Below w.heap.size w W
  own : OwnE a4C 36 4 W w.heap.size v xs
  ok : ∀ x ∈ xs, OkA W x
  far : ∀ x ∈ xs, ∀ a, x.q = some a → x.b ≠ [] → w.heap.size ≤ a.block ∧ v.ownBlock ≠ some a.block
theorem POut.below {w W W' : World} {v : Value} {xs : List A4} (h : POut w W v xs) (hb : Below W.heap.size W W') : POut w W' v xs :=
  ⟨h.bel.trans (hb.mono h.bel.size), h.own.below hb, fun x hx => (h.ok x hx).below hb, h.far⟩
theorem OkA.lt {W : World} {x : A4} (h : OkA W x) {a : Addr} (ha : x.q = some a) (hb : x.b ≠ []) : a.block < W.heap.size := by
  obtain ⟨b, o, h1, h2, _⟩ := h.row 0 (List.length_pos_iff.2 hb)
  rw [ha] at h1; cases h1; exact h2
/-- One more act. -/
theorem POut.snoc {w W W' : World} {v v' : Value} {xs : List A4} {y : A4} (h : POut w W v xs) (hy : OkA W y) (hf : ∀ a, y.q = some a → y.b ≠ [] → w.heap.size ≤ a.block ∧ v.ownBlock ≠ some a.block) (ho : OwnE a4C 36 4 W' w.heap.size v' (xs ++ [y])) (hg : W.grownBy W' v.ownBlock) (hv : v'.ownBlock = v.ownBlock ∨ v'.ownBlock = some W.heap.size) : POut w W' v' (xs ++ [y]) := by
  have hb : Below w.heap.size W W' := grown_below hg (fun g hg => (h.own.lt g hg).1) h.bel.size
  have hall : ∀ x ∈ xs ++ [y], OkA W x ∧ ∀ a, x.q = some a → x.b ≠ [] → w.heap.size ≤ a.block ∧ v.ownBlock ≠ some a.block := fun x hx => by
    rcases List.mem_append.1 hx with hx | hx
    · exact ⟨h.ok x hx, h.far x hx⟩
    · simp only [List.mem_singleton] at hx; subst hx; exact ⟨hy, hf⟩
  refine ⟨h.bel.trans hb, ho, fun x hx => ?_, fun x hx a ha hn => ?_⟩
  · obtain ⟨h1, h2⟩ := hall x hx
    exact h1.of_same hb.size (fun a ha hn => hg.block _ (h1.lt ha hn) (fun e => (h2 a ha hn).2 e.symm))
  · obtain ⟨h1, h2⟩ := hall x hx
    refine ⟨(h2 a ha hn).1, ?_⟩
    rcases hv with e | e
    · rw [e]; exact (h2 a ha hn).2
    · rw [e]
      intro e2
      have := h1.lt ha hn
      simp only [Option.some.injEq] at e2
      omega
/-- What Parse hands back. -/
def PPost (w : World) (r : List D4 × Nat × Int) (e : Ending) (w' : World) : Prop := ∃ v xs, e = .returned (.tuple #[v, .int .i64 (r.2.1 : Nat), .int .i64 r.2.2]) ∧ xs.map A4.d = r.1 ∧ POut w w' v xs
theorem POut.nil {w W : World} (h : Below w.heap.size w W) : POut w W (.slice none 0 0) [] := ⟨h, OwnE.nil _ _, (fun x h => by cases h), (fun x h => by cases h)⟩
theorem par_bad {w w' : World} {r : List D4 × Nat × Int} {n : Nat} {er : Int} (h : r = ([], n, er)) (hb : Below w.heap.size w w') : PPost w r (.returned (.tuple #[.slice none 0 0, .int .i64 (n : Nat), .int .i64 er])) w' :=
  ⟨_, [], by rw [h], by rw [h]; rfl, POut.nil hb⟩
set_option maxRecDepth 100000 in
set_option maxHeartbeats 8000000 in
theorem parse_any (l : List UInt8) (w : World) (hl : l.length ≤ 1000000) (hmx : MX w) :
    Calls Tryd.prog 17 #[.string ⟨l.toArray⟩] w fun e w' => PPost w (parseL l) e w' := by
  have HP0 : Hid (parseP [] (spl 10 (⟨l.toArray⟩ : ByteArray).data.toList) = parseL l) := rfl
  have hs0 : (⟨l.toArray⟩ : ByteArray).size ≤ 1000000 := by rw [ba_size]; exact hl
  have HMX := Lib.hid hmx
  generalize parseL l = res at *
  generalize (⟨l.toArray⟩ : ByteArray) = s at *
  clear hmx
  go_enter Tryd.func17, Tryd.ntmps17
  go_wp2_with fail
  go_loopw [0, 5] (fun s v wr => ∃ (st : ByteArray) (xs : List A4), s = .string st ∧ st.size ≤ 1000000 ∧ xs.length ≤ 200 ∧ Hid (POut w wr v xs) ∧ Hid (parseP (xs.map A4.d) (spl 10 st.data.toList) = res)) (fun s _ _ => strLen s)
  case atStart => exact ⟨s, [], rfl, hs0, Nat.zero_le _, POut.nil (Below.refl _ _), HP0.out⟩
  case round =>
    obtain ⟨st, xs, rfl, hst, hxl, HO, HP⟩ := hrel
    clear HP0 hs0 hl
    have hml : (xs.map A4.d).length = xs.length := List.length_map ..
    rcases Nat.eq_zero_or_pos st.size with h0 | hpos
    · obtain rfl := ba_nil h0
      have HP' : Hid (res = (xs.map A4.d, 0, 0)) := HP.out.symm
      clear h0
      go_wp2_with fail
      try rw [Exit.noGoto_ret]
      refine bodyPost_ret (results_tmp3 rfl _ _ _) rfl ?_
      exact ⟨_, xs, by rw [HP'.out]; rfl, by rw [HP'.out], HO.out⟩
    have hne := ba_list hpos
    have HNe := Lib.hid (ba_ne hpos)
    have HI : Hid (∀ W, Calls Tryd.prog 31 #[.string st, .int .u8 10] W fun e w' => e = .returned (.int .i64 (Lib.indexByte st.data.toList 10)) ∧ W = w') := fun W => (Tryd.strings_IndexByte st 10 W).mono fun _ _ ⟨h1, h2⟩ => ⟨h1, h2.symm⟩
    obtain ⟨q, cap, hv, hoc, hom, -, -⟩ := HO.out.own.at a4C_len
    have hxi : (xs.length : Int) ≤ 200 := by omega
    subst hv
    by_cases h1 : Lib.indexByte st.data.toList 10 < 0
    · have HB : Hid (res = ([], xs.length, 4)) := by show _ = _; rw [← HP.out, parse_none (ix_none h1) HNe.out, hml]
      generalize Lib.indexByte st.data.toList 10 = p at *
      clear hml
      go_wp2_with (go_at_call 31; (refine (HI.out _).mono ?_); rintro e w1 ⟨rfl, rfl⟩)
      try rw [Exit.noGoto_ret]
      refine bodyPost_ret (results_tmp3 rfl _ _ _) rfl ?_; exact par_bad HB.out HO.out.bel
    obtain ⟨k, k1, k2, k3, k4⟩ := ix_some h1
    have HPL : Hid (res = if 200 ≤ xs.length then ([], xs.length, 2) else if (lineL (st.data.toList.take k)).2 ≠ 0 then ([], xs.length, (lineL (st.data.toList.take k)).2) else parseP (xs.map A4.d ++ [(lineL (st.data.toList.take k)).1]) (spl 10 (st.data.toList.drop (k + 1)))) := by
      show _ = _
      rw [← HP.out]
      conv => lhs; rw [k3]
      rw [parse_line _ k4, hml]
    rw [k1] at HI
    have hks : k < st.size := by simpa using k2
    have hks' : (k : Int) < st.size := by omega
    clear k1 k2 k3 k4 h1 HP hml
    by_cases h20 : 200 ≤ xs.length
    · have HB : Hid (res = ([], xs.length, 2)) := by show _ = _; rw [HPL.out, if_pos h20]
      have h20' : (200 : Int) ≤ xs.length := by omega
      go_wp2_with (go_at_call 31; (refine (HI.out _).mono ?_); rintro e w1 ⟨rfl, rfl⟩)
      try rw [Exit.noGoto_ret]
      refine bodyPost_ret (results_tmp3 rfl _ _ _) rfl ?_; exact par_bad HB.out HO.out.bel
    have h20' : (xs.length : Int) < 200 := by omega
    have KL : Hid (∀ W, Below w.heap.size w W → Calls Tryd.prog 32 #[.string (st.extract 0 k)] W fun e w' => ∃ y : A4, e = .returned (.tuple #[.agg (a4C y).toArray, .int .i64 (lineL (st.data.toList.take k)).2]) ∧ y.d = (lineL (st.data.toList.take k)).1 ∧ OkA w' y ∧ (∀ a, y.q = some a → W.heap.size ≤ a.block) ∧ Below W.heap.size W w') := fun W hW => by
      rw [ex_front]
      exact line_any _ W (by rw [List.length_take, szl]; omega) (HMX.out.below hW)
    have HBk : Hid ((st.extract (k + 1) st.size).data.toList = st.data.toList.drop (k + 1)) := ex_back st (k + 1)
    have hsz2 : (st.extract (k + 1) st.size).size < st.size := by rw [ByteArray.size_extract]; omega
    rw [if_neg h20] at HPL
    generalize st.data.toList.take k = p at *
    by_cases hle : (lineL p).2 = 0
    case neg =>
      have HB : Hid (res = ([], xs.length, (lineL p).2)) := by show _ = _; rw [HPL.out, if_pos hle]
      have e1 : ((lineL p).2 != 0) = true := by simpa using hle
      have e2 : ((lineL p).2 == 0) = false := by simpa using hle
      clear HPL hle
      generalize lineL p = lp at *
      obtain ⟨ld, le⟩ := lp
      simp only at e1 e2 KL HB
      go_wp2_with (first
        | (go_at_call 31; (refine (HI.out _).mono ?_); rintro e w1 ⟨rfl, rfl⟩)
        | (go_at_call 32; (refine (KL.out _ HO.out.bel).mono ?_); rintro e w2 ⟨y, rfl, -, -, -, hb1⟩; have HB2 := Lib.hid ((HO.out.bel.trans (hb1.mono HO.out.bel.size)).alloc (Nat.le_trans HO.out.bel.size hb1.size) (.cells (a4C y).toArray 36)); clear hb1 KL)
        | ((with_reducible refine gate_st 36 _ _ rfl ?_); refine wl_strn rfl _ _ _ rfl (a4C y).toArray _ _ sizA4 rfl (by simp [a4C, Value.oneCell']) rfl rfl ?_))
      try rw [Exit.noGoto_ret]
      refine bodyPost_ret (results_tmp3 rfl _ _ _) rfl ?_; exact par_bad HB.out HB2.out
    case pos =>
    have HB : Hid (res = parseP (xs.map A4.d ++ [(lineL p).1]) (spl 10 (st.data.toList.drop (k + 1)))) := by show _ = _; rw [HPL.out, if_neg (fun h => h hle)]
    have e1 : ((lineL p).2 != 0) = false := by simpa using hle
    have e2 : ((lineL p).2 == 0) = true := by simpa using hle
    clear HPL hle
    generalize lineL p = lp at *
    obtain ⟨ld, le⟩ := lp
    simp only at e1 e2 KL HB
    go_upto_region 11 with (first
      | (go_at_call 31; (refine (HI.out _).mono ?_); rintro e w1 ⟨rfl, rfl⟩)
      | (go_at_call 32; (refine (KL.out _ HO.out.bel).mono ?_); rintro e w2 ⟨y, rfl, hyd, hyo, hyn, hb1⟩)
      | ((with_reducible refine gate_st 36 _ _ rfl ?_); refine wl_strn rfl _ _ _ rfl (a4C y).toArray _ _ sizA4 rfl (by simp [a4C, Value.oneCell']) rfl rfl ?_))
    have HO2 : Hid (POut w (w2.alloc (.cells (a4C y).toArray 36)) (.slice q xs.length cap) xs) := (HO.out.below hb1).below (below_alloc1 _ _)
    have HY : Hid (OkA (w2.alloc (.cells (a4C y).toArray 36)) y) := hyo.below (below_alloc1 _ _)
    have HF : Hid (∀ a, y.q = some a → y.b ≠ [] → w.heap.size ≤ a.block ∧ (Value.slice q xs.length cap).ownBlock ≠ some a.block) := fun a ha _ => ⟨Nat.le_trans HO.out.bel.size (hyn a ha), fun e => by have := (HO.out.own.lt _ e).2; have := hyn a ha; omega⟩
    have HX : Hid ((w2.alloc (.cells (a4C y).toArray 36)).heap[w2.heap.size]? = some (.cells (a4C y).toArray 36 (0, 0))) := heap_alloc_new _ _
    have HYD := Lib.hid hyd
    clear hb1 hyo hyn hyd HO HI KL e1 e2
    generalize w2.alloc (.cells (a4C y).toArray 36) = W3 at *
    generalize w2.heap.size = g at *
    have c0 : W3.cell? ⟨g, 0, none⟩ = some (.int .i64 y.kind) := by rw [cell_blk HX.out]; rfl
    have c1 : W3.cell? ⟨g, 1, none⟩ = some (.int .i64 y.who) := by rw [cell_blk HX.out]; rfl
    have c2 : W3.cell? ⟨g, 2, none⟩ = some (.int .i64 y.n) := by rw [cell_blk HX.out]; rfl
    have c3 : W3.cell? ⟨g, 3, none⟩ = some (.slice y.q y.b.length y.cap) := by rw [cell_blk HX.out]; rfl
    have hadd : IntKind.i64.wrap ((k : Int) + 1) = (k : Int) + 1 := by simp [IntKind.wrap, IntKind.bits, IntKind.signed]; omega
    have hks1 : (k : Int) + 1 ≤ st.size := by omega
    have hks0 : 0 ≤ (k : Int) + 1 := by omega
    have HO3 : Hid (POut w (W3.alloc (.cells (a4C y).toArray 36)).drew (.slice q xs.length cap) xs) := HO2.out.below ((below_alloc1 _ _).trans ⟨rfl, rfl, rfl, Nat.le_refl _, fun _ _ => rfl⟩)
    have HR : Hid (SlAt a4C 4 (W3.alloc (.cells (a4C y).toArray 36)).drew (some ⟨W3.heap.size, 0, none⟩) [y]) := by
      intro i hi
      obtain rfl : i = 0 := by simp at hi; omega
      exact ⟨W3.heap.size, 0, rfl, lt_heap (heap_alloc_new W3 _), range_whole (w := (W3.alloc (.cells (a4C y).toArray 36)).drew) (t := 36) (fr := (0, 0)) (heap_alloc_new W3 _)⟩
    go_region_law (refine st_if rfl (op_app 22 36 48 (.agg (a4C a40).toArray) Tryd.underlying22 infoA4 rfl (by omega) a4C_len a4C_one (.tmp 36) (.tmp 38) rfl w.heap.size (.slice q xs.length cap) xs (by simp [Act.eval]) HO3.out.own (some ⟨W3.heap.size, 0, none⟩) 1 1 [y] (by simp [Act.eval]) rfl HR.out (fun e => by cases e) (by omega) (by unfold maxLen; omega) HO3.out.bel.size (fun v' wA hoA hgA hvA => ?_)))
    all_goals (simp only [Act.put, List.setIfInBounds_toArray, List.set_cons_zero, List.set_cons_succ, List.getElem_toArray, List.getElem_cons_succ, List.getElem_cons_zero]; go_wp2_with fail; go_roundw)
    all_goals first
      | exact ⟨_, xs ++ [y], rfl, by omega, by rw [List.length_append, List.length_singleton]; omega, HO3.out.snoc ((HY.out.below (below_alloc1 _ _)).below ⟨rfl, rfl, rfl, Nat.le_refl _, fun _ _ => rfl⟩) HF.out hoA hgA hvA, by show _ = _; rw [HBk.out, List.map_append, List.map_cons, List.map_nil, HYD.out]; exact HB.out.symm⟩
      | (simp only [strLen]; exact hsz2)
end Go.Proofs.YtmbbhnbfgcmkgaaDoor
