/- The document's Read. -/
import Derived.Test.YtmbbhnbfgcmkgaaDoorR3
namespace Go.Proofs.YtmbbhnbfgcmkgaaDoor
open Go.RowKit

/-- Where Read stands. -/
structure RSt (g b : Nat) (cur : Array Value) (w W : World) (x : D4) : Prop where
  bel : Below w.heap.size w W
  r : W.heap[w.heap.size]? = some (Obj.cells (d4C d40).toArray 32 (0, 0))
  s : W.heap[b]? = some (Obj.cells cur 9 (0, 0))
  a : W.heap[g]? = some (Obj.cells (d4C x).toArray 32 (0, 0))
  hb : w.heap.size < b
  hg : w.heap.size < g
  ne : g ≠ b
theorem RSt.below {g b : Nat} {cur : Array Value} {w W W' : World} {x : D4} (h : RSt g b cur w W x) (hb : Below W.heap.size W W') : RSt g b cur w W' x :=
  ⟨h.bel.trans (hb.mono h.bel.size), (hb.block _ (lt_heap h.r)).trans h.r, (hb.block _ (lt_heap h.s)).trans h.s, (hb.block _ (lt_heap h.a)).trans h.a, h.hb, h.hg, h.ne⟩
theorem RSt.set {g b : Nat} {cur : Array Value} {w W : World} {x y : D4} (h : RSt g b cur w W x) (i : Nat) (v : Value) (hc : (d4C x).toArray.setIfInBounds i v = (d4C y).toArray) : RSt g b cur w (W.setCell ⟨g, i, none⟩ v) y :=
  have hg := h.hg
  ⟨h.bel.setCell (p := ⟨g, i, none⟩) (by show w.heap.size ≤ g; omega) _, (heap_setCell_other _ (by omega)).trans h.r, (heap_setCell_other _ h.ne.symm).trans h.s, by rw [heap_setCell_self _ h.a, hc], h.hb, h.hg, h.ne⟩
theorem RSt.cells {g b : Nat} {cur : Array Value} {w W : World} {x : D4} (h : RSt g b cur w W x) : W.cell? ⟨g, 0, none⟩ = some (.int .i64 x.kind) ∧ W.cell? ⟨g, 1, none⟩ = some (.int .i64 x.who) ∧ W.cell? ⟨g, 2, none⟩ = some (.int .i64 x.n) ∧ W.cell? ⟨g, 3, none⟩ = some (.string ⟨x.b.toArray⟩) := by
  rw [cell_blk h.a, cell_blk h.a, cell_blk h.a, cell_blk h.a]; exact ⟨rfl, rfl, rfl, rfl⟩
theorem RSt.free {g b : Nat} {cur : Array Value} {w W : World} {x : D4} (h : RSt g b cur w W x) (i : Nat) : W.frozen? ⟨g, i, none⟩ = false := by simp [World.frozen?, h.a]
theorem RSt.word {g b : Nat} {cur : Array Value} {w W : World} {x : D4} (h : RSt g b cur w W x) {i : Nat} {p : List UInt8} (hp : cur[i]? = some (.string ⟨p.toArray⟩)) : W.cell? ⟨b, i, none⟩ = some (.string ⟨p.toArray⟩) := by rw [cell_blk h.s, hp]
theorem own_cur {W : World} {base : Nat} {v : Value} {ws : List (List UInt8)} (h : OwnE encT 9 1 W base v ws) (h0 : ws ≠ []) :
    ∃ (b cap : Nat) (cur : Array Value), v = .slice (some ⟨b, 0, none⟩) ws.length cap ∧ base ≤ b ∧ W.heap[b]? = some (Obj.cells cur 9 (0, 0)) ∧ ∀ (i : Nat) (p : List UInt8), ws[i]? = some p → cur[i]? = some (Value.string ⟨p.toArray⟩) := by
  obtain ⟨_, ⟨_, h3⟩ | ⟨b, cap, cur, rfl, hb, hh, _, _, _, ht⟩⟩ := h
  · exact absurd (List.length_eq_zero_iff.1 h3) h0
  · refine ⟨b, cap, cur, rfl, hb, hh, fun i p hp => ?_⟩
    have hi := (List.getElem?_eq_some_iff.1 hp).1
    have : (cur.toList.take (ws.length * 1))[i]? = some (.string ⟨p.toArray⟩) := by rw [ht, encT_flat]; simp [hp]
    rw [List.getElem?_take_of_lt (by omega)] at this
    simpa using this
set_option maxRecDepth 100000 in
set_option maxHeartbeats 16000000 in
theorem refRead_any (l : List UInt8) (w : World) (hl : l.length ≤ 1000000) :
    Calls Tryd.prog 33 #[.string ⟨l.toArray⟩] w fun e w' => e = .returned (.tuple #[.agg (d4C (lineL l).1).toArray, .int .i64 (lineL l).2]) ∧ Below w.heap.size w w' := by
  have KS : Hid (∀ W, Calls Tryd.prog 43 #[.string ⟨l.toArray⟩] W fun e w' => ∃ v, e = .returned v ∧ OwnE encT 9 1 w' W.heap.size v (spl 32 l) ∧ Below W.heap.size W w') := fun W => refSplit_any l W hl
  have HWl : Hid (∀ p ∈ spl 32 l, p.length ≤ 1000000) := fun p hp => Nat.le_trans (spl_size 32 l p hp) hl
  have HNe : Hid (spl 32 l ≠ []) := spl_ne 32 l
  have HWn : Hid ((spl 32 l).length ≤ 1000001) := by show _ ≤ _; have := spl_len 32 l; omega
  have HE : Hid (lineL l = lineW (spl 32 l)) := rfl
  have HZ : Hid (Below w.heap.size w (w.alloc (.cells (d4C d40).toArray 32))) := below_alloc1 _ _
  have HZr : Hid ((w.alloc (.cells (d4C d40).toArray 32)).heap[w.heap.size]? = some (Obj.cells (d4C d40).toArray 32 (0, 0))) := heap_alloc_new _ _
  have HZs : Hid ((w.alloc (.cells (d4C d40).toArray 32)).heap.size = w.heap.size + 1) := by show _ = _; simp
  generalize spl 32 l = ws at *
  generalize lineL l = res at *
  have hz : (Obj.cells #[Value.int IntKind.i64 0, Value.int IntKind.i64 0, Value.int IntKind.i64 0, Value.string ⟨#[]⟩] 32) = Obj.cells (d4C d40).toArray 32 := rfl
  go_enter Tryd.func33, Tryd.ntmps33
  go_upto_region 1 with fail
  generalize w.alloc (.cells (d4C d40).toArray 32) = W0 at *
  go_upto_region 2 with (go_at_call 43; (refine (KS.out _).mono ?_); rintro e W1 ⟨v, rfl, hown, hb1⟩)
  obtain ⟨b, cap, cur, rfl, hbb, hbh, hcur⟩ := own_cur hown HNe.out
  have HS0 : Hid (RSt W1.heap.size b cur w (W1.alloc (.cells (d4C d40).toArray 32)) d40) := by
    have h1 : w.heap.size < b := by have := HZs.out; omega
    have h2 := lt_heap hbh
    have hba := below_alloc1 W1 (.cells (d4C d40).toArray 32)
    refine ⟨(HZ.out.trans (hb1.mono HZ.out.size)).trans (hba.mono (by omega)), ?_, (hba.block _ h2).trans hbh, heap_alloc_new _ _, h1, by omega, by omega⟩
    exact (hba.block _ (by omega)).trans ((hb1.block _ (lt_heap HZr.out)).trans HZr.out)
  have HCur := Lib.hid hcur
  clear hown hb1 hbb hbh hcur KS HZ HZr HZs
  obtain ⟨p0, r, rfl⟩ : ∃ p0 r, ws = p0 :: r := by
    cases ws with
    | nil => exact absurd rfl HNe.out
    | cons p r => exact ⟨p, r, rfl⟩
  have HP0 : Hid (cur[0]? = some (.string ⟨p0.toArray⟩)) := HCur.out 0 p0 rfl
  have HLn : Hid ((p0 :: r).length = r.length + 1) := rfl
  generalize hnn : (p0 :: r).length = n at *
  have HNn := Lib.hid hnn
  clear hnn HNe
  have hn0 : 0 < n := by have := HLn.out; omega
  have hn0i : (0 : Int) < n := by omega
  go_upto_region 3 with fail
  clear hz
  generalize W1.alloc (.cells (d4C d40).toArray 32) = W2 at *
  generalize W1.heap.size = g at *
  go_wp2_with fail
  go_loopw [6] (fun i wr => ∃ k : Nat, 1 ≤ k ∧ k ≤ 7 ∧ i = .int .i64 k ∧ Hid (RSt g b cur w wr ⟨kpart k p0, 0, 0, []⟩)) (fun i _ => 7 - (intOf i).toNat)
  case atStart => exact ⟨1, Nat.le_refl _, by omega, rfl, by rw [kpart_one]; exact HS0.out⟩
  case round =>
    obtain ⟨k, hk1, hk, rfl, HL⟩ := hrel
    clear HS0
    by_cases hlt : k < 7
    · have hli : (k : Int) ≤ 6 := by omega
      have KW : Hid (∀ W, Calls Tryd.prog 36 #[.int .i64 (k : Int)] W fun e w' => e = .returned (.string ⟨(wordL k).toArray⟩) ∧ Below W.heap.size W w') := fun W => refWord_any k W (by omega) (by omega)
      have hs0 : ∀ d os, (Sort.grow (redrawn wr d) os).cell? ⟨b, 0, none⟩ = some (.string ⟨p0.toArray⟩) := fun d os => (HL.out.below (below_regrown wr d os)).word HP0.out
      have HLg : Hid (∀ d os, RSt g b cur w (Sort.grow (redrawn wr d) os) ⟨kpart k p0, 0, 0, []⟩) := fun d os => HL.out.below (below_regrown wr d os)
      have heq := eqT (wordL k) p0
      by_cases hw : wordL k = p0
      · have HK : Hid (kpart (k + 1) p0 = k) := kpart_hit hk1 (by omega) hw
        rw [decide_eq_true hw] at heq
        clear hw HL HP0
        generalize (⟨(wordL k).toArray⟩ : ByteArray) = wz at *
        generalize (⟨p0.toArray⟩ : ByteArray) = pz at *
        go_upto_region 6 with fail
        refine wp_region_quiet_below (by kernel_rfl) (by kernel_rfl) ?_
        repeat go_big_quiet_step (with_reducible exact rg_call KW.out _ _)
        refine wpQuiet_nil ?_
        rintro _ ⟨⟨dq, osq⟩, rfl⟩
        have HLq := Lib.hid (HLg.out dq osq)
        clear HLg hs0 KW
        generalize Sort.grow (redrawn wr dq) osq = W3 at *
        have hc0 := HLq.out.cells.1
        have hf0 := HLq.out.free 0
        have HL3 : Hid (RSt g b cur w (W3.setCell ⟨g, 0, none⟩ (.int .i64 (k : Int))) ⟨kpart (k + 1) p0, 0, 0, []⟩) := HLq.out.set 0 _ (by rw [HK.out]; rfl)
        go_wp2_with fail
        go_roundw
        case rel => exact ⟨k + 1, by omega, by omega, by go_num, HL3.out⟩
        case measure => simp [intOf]; omega
      · have HK : Hid (kpart (k + 1) p0 = kpart k p0) := kpart_miss hk1 hw
        rw [decide_eq_false hw] at heq
        clear hw HL HP0
        generalize (⟨(wordL k).toArray⟩ : ByteArray) = wz at *
        generalize (⟨p0.toArray⟩ : ByteArray) = pz at *
        go_upto_region 6 with fail
        refine wp_region_quiet_below (by kernel_rfl) (by kernel_rfl) ?_
        repeat go_big_quiet_step (with_reducible exact rg_call KW.out _ _)
        refine wpQuiet_nil ?_
        rintro _ ⟨⟨dq, osq⟩, rfl⟩
        have HLq := Lib.hid (HLg.out dq osq)
        clear HLg hs0 KW
        generalize Sort.grow (redrawn wr dq) osq = W3 at *
        go_wp2_with fail
        go_roundw
        case rel => exact ⟨k + 1, by omega, by omega, by go_num, by rw [HK.out]; exact HLq.out⟩
        case measure => simp [intOf]; omega
    · obtain rfl : k = 7 := by omega
      have hli : ¬ ((7 : Nat) : Int) ≤ 6 := by omega
      rw [kpart_all] at HL
      have hc0 := HL.out.cells.1
      by_cases hk0 : kindL p0 = 0
      · have HR : Hid (res = (d40, 16)) := by show _ = _; rw [HE.out, lineW_cons, if_pos hk0]
        have hkb : (kindL p0 == 0) = true := by rw [hk0]; rfl
        have HG := Lib.hid (setRow_at (cs := (d4C d40).toArray) HL.out.r)
        clear hk0
        generalize kindL p0 = kd at *
        go_wp2_with ((with_reducible refine gate_st 32 _ _ rfl ?_); refine wl_str rfl _ _ _ rfl w.heap.size (d4C d40).toArray (d4C d40).toArray _ sizD4 rfl (by simp [d4C, Value.oneCell']) rfl rfl HL.out.r ?_)
        refine bodyPost_ret (res_rowc_tmp rfl _ _ w.heap.size (d4C d40).toArray _ rfl HG.out Tryd.underlying32 rfl sizD4) rfl ⟨by rw [HR.out]; rfl, setRow_below HL.out.bel (Nat.le_refl _) _⟩
      · obtain ⟨hwd, hk1, hk6⟩ := word_kind hk0
        have HR : Hid (res = if r.length ≠ (usesL (kindL p0)).length then (d40, 3) else argsL ⟨kindL p0, 0, 0, []⟩ (usesL (kindL p0)) r) := by show _ = _; rw [HE.out, lineW_cons, if_neg hk0]
        have hkb : (kindL p0 == 0) = false := by simpa using hk0
        have KU : Hid (∀ W, Calls Tryd.prog 29 #[.int .i64 (kindL p0)] W fun e w' => e = .returned (.tuple #[.bool (uW (kindL p0)), .bool (uN (kindL p0)), .bool (uB (kindL p0))]) ∧ Below W.heap.size W w') := fun W => refUses_any (kindL p0) W
        have hUC := uses_cases (kindL p0)
        have hn2 : n ≤ 1000001 := HWn.out
        clear hwd hk0 HE
        generalize kindL p0 = kd at *
        go_upto_region 11 with (go_at_call 29; (refine (KU.out _).mono ?_); rintro e W3 ⟨rfl, hb3⟩)
        have HL3 := Lib.hid (HL.out.below hb3)
        clear hb3 HL KU hc0
        rcases hUC with ⟨hu, e1, e2, e3⟩ | ⟨hu, e1, e2, e3⟩ | ⟨hu, e1, e2, e3⟩ | ⟨hu, e1, e2, e3⟩
        · rw [e1, e2, e3]
          rw [hu] at HR
          clear e1 e2 e3
          by_cases hn : n = 3
          case neg =>
            have HR2 : Hid (res = (d40, 3)) := by show _ = _; rw [HR.out, if_pos (by have := HLn.out; simp only [List.length_cons, List.length_nil]; omega)]
            have f1 : ((n : Int) != 3) = true := by rw [bne_iff_ne]; omega
            have f2 : ((n : Int) == 3) = false := by rw [beq_eq_false_iff_ne]; omega
            clear HR hn
            have HG := Lib.hid (setRow_at (cs := (d4C d40).toArray) HL3.out.r)
            go_wp2_with (first | ((with_reducible refine gate_st 32 _ _ rfl ?_); refine wl_str rfl _ _ _ rfl w.heap.size (d4C d40).toArray (d4C d40).toArray _ sizD4 rfl (by simp [d4C, Value.oneCell']) rfl rfl HL3.out.r ?_) | (refine ld_D4 rfl _ rfl g 0 d40 rfl (range_whole (by simpa using HL3.out.a)) ?_))
            refine bodyPost_ret (res_rowc_tmp rfl _ _ w.heap.size (d4C d40).toArray _ rfl HG.out Tryd.underlying32 rfl sizD4) rfl ⟨by rw [HR2.out]; rfl, setRow_below HL3.out.bel (Nat.le_refl _) _⟩
          case pos =>
            have HR2 : Hid (res = argsL ⟨kd, 0, 0, []⟩ [119, 98] r) := by show _ = _; rw [HR.out, if_neg (by have := HLn.out; simp only [List.length_cons, List.length_nil]; omega)]
            have f1 : ((n : Int) != 3) = false := by rw [hn]; rfl
            have f2 : ((n : Int) == 3) = true := by rw [hn]; rfl
            obtain ⟨q1, q2, rfl⟩ : ∃ q1 q2, r = [q1, q2] := by
              have hrl := HLn.out
              match r, hrl with
              | [a1, a2], _ => exact ⟨a1, a2, rfl⟩
              | [], h => simp at h; omega
              | [_], h => simp at h; omega
              | _ :: _ :: _ :: t, h => simp at h; omega
            have HQ1 : Hid (cur[1]? = some (.string ⟨q1.toArray⟩)) := HCur.out 1 q1 rfl
            have hl1 : q1.length ≤ 1000000 := HWl.out q1 (by simp)
            have HQ2 : Hid (cur[2]? = some (.string ⟨q2.toArray⟩)) := HCur.out 2 q2 rfl
            have hl2 : q2.length ≤ 1000000 := HWl.out q2 (by simp)
            have hw1 := HL3.out.word HQ1.out
            have g1 : 1 < n := by omega
            have g1i : (1 : Int) < n := by omega
            have g2 : 2 < n := by omega
            have g2i : (2 : Int) < n := by omega
            have KN : Hid (∀ W, Calls Tryd.prog 44 #[.string ⟨q1.toArray⟩, .int .i64 7] W fun e w' => e = .returned (.tuple #[.int .i64 (numL q1 7).1, .int .i64 (numL q1 7).2]) ∧ w' = W) := fun W => refNumber_any q1 7 W hl1
            have HA1 := Lib.hid (arg119 ⟨kd, 0, 0, []⟩ q1)
            have hcw := HL3.out.cells.2.1
            have hcn := HL3.out.cells.2.2.1
            have hcb := HL3.out.cells.2.2.2
            have hfw := HL3.out.free 1
            clear HR hn hl1
            generalize (numL q1 7).1 = nv at *
            generalize (numL q1 7).2 = ne at *
            have HL4 : Hid (RSt g b cur w (W3.setCell ⟨g, 1, none⟩ (.int .i64 nv)) ⟨kd, nv, 0, []⟩) := HL3.out.set 1 _ rfl
            by_cases hne : ne = 0
            case neg =>
              replace HR2 : Hid (res = (d40, ne)) := by show _ = _; rw [HR2.out, args_err (by rw [HA1.out]; exact hne), HA1.out]
              have f3 : (ne == 0) = false := by simpa using hne
              have f4 : (ne != 0) = true := by simpa using hne
              clear hne
              have HG := Lib.hid (setRow_at (cs := (d4C d40).toArray) HL4.out.r)
              go_wp2_with (first | (go_at_call 44; (refine (KN.out _).mono ?_); rintro e W4 ⟨rfl, rfl⟩) | ((with_reducible refine gate_st 32 _ _ rfl ?_); refine wl_str rfl _ _ _ rfl w.heap.size (d4C d40).toArray (d4C d40).toArray _ sizD4 rfl (by simp [d4C, Value.oneCell']) rfl rfl HL4.out.r ?_) | (refine ld_D4 rfl _ rfl g 0 d40 rfl (range_whole (by simpa using HL4.out.a)) ?_))
              refine bodyPost_ret (res_rowc_tmp rfl _ _ w.heap.size (d4C d40).toArray _ rfl HG.out Tryd.underlying32 rfl sizD4) rfl ⟨by rw [HR2.out]; rfl, setRow_below HL4.out.bel (Nat.le_refl _) _⟩
            case pos =>
              subst hne
              have KB : Hid (∀ W, Calls Tryd.prog 45 #[.string ⟨q2.toArray⟩] W fun e w' => e = .returned (.tuple #[.string ⟨(bytesL q2).1.toArray⟩, .int .i64 (bytesL q2).2]) ∧ Below W.heap.size W w') := fun W => refBytes_any q2 W hl2
              have HA2 := Lib.hid (arg98 ⟨kd, nv, 0, []⟩ q2)
              have hw2 := HL4.out.word HQ2.out
              replace HR2 : Hid (res = argsL ⟨kd, nv, 0, []⟩ [98] [q2]) := by show _ = _; rw [HR2.out, args_cons HA1.out]
              generalize (bytesL q2).1 = bv at *
              generalize (bytesL q2).2 = be at *
              by_cases hbe : be = 0
              case neg =>
                replace HR2 : Hid (res = (d40, be)) := by show _ = _; rw [HR2.out, args_err (by rw [HA2.out]; exact hbe), HA2.out]
                have f3 : (be == 0) = false := by simpa using hbe
                have f4 : (be != 0) = true := by simpa using hbe
                clear hbe
                go_upto_region 25 with (first | (go_at_call 44; (refine (KN.out _).mono ?_); rintro e W4 ⟨rfl, rfl⟩) | (go_at_call 45; (refine (KB.out _).mono ?_); rintro e W5 ⟨rfl, hb5⟩; have HL5 := Lib.hid (HL4.out.below hb5); have hc5 := HL5.out.cells.2.2.2; have hf5 := HL5.out.free 3; clear hb5))
                have HL6 : Hid (RSt g b cur w (W5.setCell ⟨g, 3, none⟩ (.string ⟨bv.toArray⟩)) ⟨kd, nv, 0, bv⟩) := HL5.out.set 3 _ rfl
                have HG := Lib.hid (setRow_at (cs := (d4C d40).toArray) HL6.out.r)
                go_wp2_with (first | ((with_reducible refine gate_st 32 _ _ rfl ?_); refine wl_str rfl _ _ _ rfl w.heap.size (d4C d40).toArray (d4C d40).toArray _ sizD4 rfl (by simp [d4C, Value.oneCell']) rfl rfl HL6.out.r ?_) | (refine ld_D4 rfl _ rfl g 0 d40 rfl (range_whole (by simpa using HL6.out.a)) ?_))
                refine bodyPost_ret (res_rowc_tmp rfl _ _ w.heap.size (d4C d40).toArray _ rfl HG.out Tryd.underlying32 rfl sizD4) rfl ⟨by rw [HR2.out]; rfl, setRow_below HL6.out.bel (Nat.le_refl _) _⟩
              case pos =>
                subst hbe
                replace HR2 : Hid (res = (⟨kd, nv, 0, bv⟩, 0)) := by show _ = _; rw [HR2.out, args_cons HA2.out, args_nil]
                go_upto_region 25 with (first | (go_at_call 44; (refine (KN.out _).mono ?_); rintro e W4 ⟨rfl, rfl⟩) | (go_at_call 45; (refine (KB.out _).mono ?_); rintro e W5 ⟨rfl, hb5⟩; have HL5 := Lib.hid (HL4.out.below hb5); have hc5 := HL5.out.cells.2.2.2; have hf5 := HL5.out.free 3; clear hb5))
                have HL6 : Hid (RSt g b cur w (W5.setCell ⟨g, 3, none⟩ (.string ⟨bv.toArray⟩)) ⟨kd, nv, 0, bv⟩) := HL5.out.set 3 _ rfl
                have HG := Lib.hid (setRow_at (cs := (d4C ⟨kd, nv, 0, bv⟩).toArray) HL6.out.r)
                go_wp2_with (first | ((with_reducible refine gate_st 32 _ _ rfl ?_); refine wl_str rfl _ _ _ rfl w.heap.size (d4C ⟨kd, nv, 0, bv⟩).toArray (d4C d40).toArray _ sizD4 rfl (by simp [d4C, Value.oneCell']) rfl rfl HL6.out.r ?_) | (refine ld_D4 rfl _ rfl g 0 ⟨kd, nv, 0, bv⟩ rfl (range_whole (by simpa using HL6.out.a)) ?_))
                refine bodyPost_ret (res_rowc_tmp rfl _ _ w.heap.size (d4C ⟨kd, nv, 0, bv⟩).toArray _ rfl HG.out Tryd.underlying32 rfl sizD4) rfl ⟨by rw [HR2.out]; rfl, setRow_below HL6.out.bel (Nat.le_refl _) _⟩
        · rw [e1, e2, e3]
          rw [hu] at HR
          clear e1 e2 e3
          by_cases hn : n = 2
          case neg =>
            have HR2 : Hid (res = (d40, 3)) := by show _ = _; rw [HR.out, if_pos (by have := HLn.out; simp only [List.length_cons, List.length_nil]; omega)]
            have f1 : ((n : Int) != 2) = true := by rw [bne_iff_ne]; omega
            have f2 : ((n : Int) == 2) = false := by rw [beq_eq_false_iff_ne]; omega
            clear HR hn
            have HG := Lib.hid (setRow_at (cs := (d4C d40).toArray) HL3.out.r)
            go_wp2_with (first | ((with_reducible refine gate_st 32 _ _ rfl ?_); refine wl_str rfl _ _ _ rfl w.heap.size (d4C d40).toArray (d4C d40).toArray _ sizD4 rfl (by simp [d4C, Value.oneCell']) rfl rfl HL3.out.r ?_) | (refine ld_D4 rfl _ rfl g 0 d40 rfl (range_whole (by simpa using HL3.out.a)) ?_))
            refine bodyPost_ret (res_rowc_tmp rfl _ _ w.heap.size (d4C d40).toArray _ rfl HG.out Tryd.underlying32 rfl sizD4) rfl ⟨by rw [HR2.out]; rfl, setRow_below HL3.out.bel (Nat.le_refl _) _⟩
          case pos =>
            have HR2 : Hid (res = argsL ⟨kd, 0, 0, []⟩ [119] r) := by show _ = _; rw [HR.out, if_neg (by have := HLn.out; simp only [List.length_cons, List.length_nil]; omega)]
            have f1 : ((n : Int) != 2) = false := by rw [hn]; rfl
            have f2 : ((n : Int) == 2) = true := by rw [hn]; rfl
            obtain ⟨q1, rfl⟩ : ∃ q1, r = [q1] := by
              have hrl := HLn.out
              match r, hrl with
              | [a1], _ => exact ⟨a1, rfl⟩
              | [], h => simp at h; omega
              | _ :: _ :: t, h => simp at h; omega
            have HQ1 : Hid (cur[1]? = some (.string ⟨q1.toArray⟩)) := HCur.out 1 q1 rfl
            have hl1 : q1.length ≤ 1000000 := HWl.out q1 (by simp)
            have hw1 := HL3.out.word HQ1.out
            have g1 : 1 < n := by omega
            have g1i : (1 : Int) < n := by omega
            have KN : Hid (∀ W, Calls Tryd.prog 44 #[.string ⟨q1.toArray⟩, .int .i64 7] W fun e w' => e = .returned (.tuple #[.int .i64 (numL q1 7).1, .int .i64 (numL q1 7).2]) ∧ w' = W) := fun W => refNumber_any q1 7 W hl1
            have HA1 := Lib.hid (arg119 ⟨kd, 0, 0, []⟩ q1)
            have hcw := HL3.out.cells.2.1
            have hcn := HL3.out.cells.2.2.1
            have hcb := HL3.out.cells.2.2.2
            have hfw := HL3.out.free 1
            clear HR hn hl1
            generalize (numL q1 7).1 = nv at *
            generalize (numL q1 7).2 = ne at *
            have HL4 : Hid (RSt g b cur w (W3.setCell ⟨g, 1, none⟩ (.int .i64 nv)) ⟨kd, nv, 0, []⟩) := HL3.out.set 1 _ rfl
            by_cases hne : ne = 0
            case neg =>
              replace HR2 : Hid (res = (d40, ne)) := by show _ = _; rw [HR2.out, args_err (by rw [HA1.out]; exact hne), HA1.out]
              have f3 : (ne == 0) = false := by simpa using hne
              have f4 : (ne != 0) = true := by simpa using hne
              clear hne
              have HG := Lib.hid (setRow_at (cs := (d4C d40).toArray) HL4.out.r)
              go_wp2_with (first | (go_at_call 44; (refine (KN.out _).mono ?_); rintro e W4 ⟨rfl, rfl⟩) | ((with_reducible refine gate_st 32 _ _ rfl ?_); refine wl_str rfl _ _ _ rfl w.heap.size (d4C d40).toArray (d4C d40).toArray _ sizD4 rfl (by simp [d4C, Value.oneCell']) rfl rfl HL4.out.r ?_) | (refine ld_D4 rfl _ rfl g 0 d40 rfl (range_whole (by simpa using HL4.out.a)) ?_))
              refine bodyPost_ret (res_rowc_tmp rfl _ _ w.heap.size (d4C d40).toArray _ rfl HG.out Tryd.underlying32 rfl sizD4) rfl ⟨by rw [HR2.out]; rfl, setRow_below HL4.out.bel (Nat.le_refl _) _⟩
            case pos =>
              subst hne
              replace HR2 : Hid (res = (⟨kd, nv, 0, []⟩, 0)) := by show _ = _; rw [HR2.out, args_cons HA1.out, args_nil]
              have HG := Lib.hid (setRow_at (cs := (d4C ⟨kd, nv, 0, []⟩).toArray) HL4.out.r)
              go_wp2_with (first | (go_at_call 44; (refine (KN.out _).mono ?_); rintro e W4 ⟨rfl, rfl⟩) | ((with_reducible refine gate_st 32 _ _ rfl ?_); refine wl_str rfl _ _ _ rfl w.heap.size (d4C ⟨kd, nv, 0, []⟩).toArray (d4C d40).toArray _ sizD4 rfl (by simp [d4C, Value.oneCell']) rfl rfl HL4.out.r ?_) | (refine ld_D4 rfl _ rfl g 0 ⟨kd, nv, 0, []⟩ rfl (range_whole (by simpa using HL4.out.a)) ?_))
              refine bodyPost_ret (res_rowc_tmp rfl _ _ w.heap.size (d4C ⟨kd, nv, 0, []⟩).toArray _ rfl HG.out Tryd.underlying32 rfl sizD4) rfl ⟨by rw [HR2.out]; rfl, setRow_below HL4.out.bel (Nat.le_refl _) _⟩
        · rw [e1, e2, e3]
          rw [hu] at HR
          clear e1 e2 e3
          by_cases hn : n = 2
          case neg =>
            have HR2 : Hid (res = (d40, 3)) := by show _ = _; rw [HR.out, if_pos (by have := HLn.out; simp only [List.length_cons, List.length_nil]; omega)]
            have f1 : ((n : Int) != 2) = true := by rw [bne_iff_ne]; omega
            have f2 : ((n : Int) == 2) = false := by rw [beq_eq_false_iff_ne]; omega
            clear HR hn
            have HG := Lib.hid (setRow_at (cs := (d4C d40).toArray) HL3.out.r)
            go_wp2_with (first | ((with_reducible refine gate_st 32 _ _ rfl ?_); refine wl_str rfl _ _ _ rfl w.heap.size (d4C d40).toArray (d4C d40).toArray _ sizD4 rfl (by simp [d4C, Value.oneCell']) rfl rfl HL3.out.r ?_) | (refine ld_D4 rfl _ rfl g 0 d40 rfl (range_whole (by simpa using HL3.out.a)) ?_))
            refine bodyPost_ret (res_rowc_tmp rfl _ _ w.heap.size (d4C d40).toArray _ rfl HG.out Tryd.underlying32 rfl sizD4) rfl ⟨by rw [HR2.out]; rfl, setRow_below HL3.out.bel (Nat.le_refl _) _⟩
          case pos =>
            have HR2 : Hid (res = argsL ⟨kd, 0, 0, []⟩ [110] r) := by show _ = _; rw [HR.out, if_neg (by have := HLn.out; simp only [List.length_cons, List.length_nil]; omega)]
            have f1 : ((n : Int) != 2) = false := by rw [hn]; rfl
            have f2 : ((n : Int) == 2) = true := by rw [hn]; rfl
            obtain ⟨q1, rfl⟩ : ∃ q1, r = [q1] := by
              have hrl := HLn.out
              match r, hrl with
              | [a1], _ => exact ⟨a1, rfl⟩
              | [], h => simp at h; omega
              | _ :: _ :: t, h => simp at h; omega
            have HQ1 : Hid (cur[1]? = some (.string ⟨q1.toArray⟩)) := HCur.out 1 q1 rfl
            have hl1 : q1.length ≤ 1000000 := HWl.out q1 (by simp)
            have hw1 := HL3.out.word HQ1.out
            have g1 : 1 < n := by omega
            have g1i : (1 : Int) < n := by omega
            have KN : Hid (∀ W, Calls Tryd.prog 44 #[.string ⟨q1.toArray⟩, .int .i64 300] W fun e w' => e = .returned (.tuple #[.int .i64 (numL q1 300).1, .int .i64 (numL q1 300).2]) ∧ w' = W) := fun W => refNumber_any q1 300 W hl1
            have HA1 := Lib.hid (arg110 ⟨kd, 0, 0, []⟩ q1)
            have hcw := HL3.out.cells.2.1
            have hcn := HL3.out.cells.2.2.1
            have hcb := HL3.out.cells.2.2.2
            have hfw := HL3.out.free 2
            clear HR hn hl1
            generalize (numL q1 300).1 = nv at *
            generalize (numL q1 300).2 = ne at *
            have HL4 : Hid (RSt g b cur w (W3.setCell ⟨g, 2, none⟩ (.int .i64 nv)) ⟨kd, 0, nv, []⟩) := HL3.out.set 2 _ rfl
            by_cases hne : ne = 0
            case neg =>
              replace HR2 : Hid (res = (d40, ne)) := by show _ = _; rw [HR2.out, args_err (by rw [HA1.out]; exact hne), HA1.out]
              have f3 : (ne == 0) = false := by simpa using hne
              have f4 : (ne != 0) = true := by simpa using hne
              clear hne
              have HG := Lib.hid (setRow_at (cs := (d4C d40).toArray) HL4.out.r)
              go_wp2_with (first | (go_at_call 44; (refine (KN.out _).mono ?_); rintro e W4 ⟨rfl, rfl⟩) | ((with_reducible refine gate_st 32 _ _ rfl ?_); refine wl_str rfl _ _ _ rfl w.heap.size (d4C d40).toArray (d4C d40).toArray _ sizD4 rfl (by simp [d4C, Value.oneCell']) rfl rfl HL4.out.r ?_) | (refine ld_D4 rfl _ rfl g 0 d40 rfl (range_whole (by simpa using HL4.out.a)) ?_))
              refine bodyPost_ret (res_rowc_tmp rfl _ _ w.heap.size (d4C d40).toArray _ rfl HG.out Tryd.underlying32 rfl sizD4) rfl ⟨by rw [HR2.out]; rfl, setRow_below HL4.out.bel (Nat.le_refl _) _⟩
            case pos =>
              subst hne
              replace HR2 : Hid (res = (⟨kd, 0, nv, []⟩, 0)) := by show _ = _; rw [HR2.out, args_cons HA1.out, args_nil]
              have HG := Lib.hid (setRow_at (cs := (d4C ⟨kd, 0, nv, []⟩).toArray) HL4.out.r)
              go_wp2_with (first | (go_at_call 44; (refine (KN.out _).mono ?_); rintro e W4 ⟨rfl, rfl⟩) | ((with_reducible refine gate_st 32 _ _ rfl ?_); refine wl_str rfl _ _ _ rfl w.heap.size (d4C ⟨kd, 0, nv, []⟩).toArray (d4C d40).toArray _ sizD4 rfl (by simp [d4C, Value.oneCell']) rfl rfl HL4.out.r ?_) | (refine ld_D4 rfl _ rfl g 0 ⟨kd, 0, nv, []⟩ rfl (range_whole (by simpa using HL4.out.a)) ?_))
              refine bodyPost_ret (res_rowc_tmp rfl _ _ w.heap.size (d4C ⟨kd, 0, nv, []⟩).toArray _ rfl HG.out Tryd.underlying32 rfl sizD4) rfl ⟨by rw [HR2.out]; rfl, setRow_below HL4.out.bel (Nat.le_refl _) _⟩
        · rw [e1, e2, e3]
          rw [hu] at HR
          clear e1 e2 e3
          by_cases hn : n = 1
          case neg =>
            have HR2 : Hid (res = (d40, 3)) := by show _ = _; rw [HR.out, if_pos (by have := HLn.out; simp only [List.length_cons, List.length_nil]; omega)]
            have f1 : ((n : Int) != 1) = true := by rw [bne_iff_ne]; omega
            have f2 : ((n : Int) == 1) = false := by rw [beq_eq_false_iff_ne]; omega
            clear HR hn
            have HG := Lib.hid (setRow_at (cs := (d4C d40).toArray) HL3.out.r)
            go_wp2_with (first | ((with_reducible refine gate_st 32 _ _ rfl ?_); refine wl_str rfl _ _ _ rfl w.heap.size (d4C d40).toArray (d4C d40).toArray _ sizD4 rfl (by simp [d4C, Value.oneCell']) rfl rfl HL3.out.r ?_) | (refine ld_D4 rfl _ rfl g 0 d40 rfl (range_whole (by simpa using HL3.out.a)) ?_))
            refine bodyPost_ret (res_rowc_tmp rfl _ _ w.heap.size (d4C d40).toArray _ rfl HG.out Tryd.underlying32 rfl sizD4) rfl ⟨by rw [HR2.out]; rfl, setRow_below HL3.out.bel (Nat.le_refl _) _⟩
          case pos =>
            have HR2 : Hid (res = argsL ⟨kd, 0, 0, []⟩ [] r) := by show _ = _; rw [HR.out, if_neg (by have := HLn.out; simp only [List.length_cons, List.length_nil]; omega)]
            have f1 : ((n : Int) != 1) = false := by rw [hn]; rfl
            have f2 : ((n : Int) == 1) = true := by rw [hn]; rfl
            replace HR2 : Hid (res = (⟨kd, 0, 0, []⟩, 0)) := by show _ = _; rw [HR2.out, args_nil]
            clear HR hn
            have HG := Lib.hid (setRow_at (cs := (d4C ⟨kd, 0, 0, []⟩).toArray) HL3.out.r)
            go_wp2_with (first | ((with_reducible refine gate_st 32 _ _ rfl ?_); refine wl_str rfl _ _ _ rfl w.heap.size (d4C ⟨kd, 0, 0, []⟩).toArray (d4C d40).toArray _ sizD4 rfl (by simp [d4C, Value.oneCell']) rfl rfl HL3.out.r ?_) | (refine ld_D4 rfl _ rfl g 0 ⟨kd, 0, 0, []⟩ rfl (range_whole (by simpa using HL3.out.a)) ?_))
            refine bodyPost_ret (res_rowc_tmp rfl _ _ w.heap.size (d4C ⟨kd, 0, 0, []⟩).toArray _ rfl HG.out Tryd.underlying32 rfl sizD4) rfl ⟨by rw [HR2.out]; rfl, setRow_below HL3.out.bel (Nat.le_refl _) _⟩
end Go.Proofs.YtmbbhnbfgcmkgaaDoor
