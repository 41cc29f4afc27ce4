/- line. -/
import Derived.Test.YtmbbhnbfgcmkgaaDoorP6
namespace Go.Proofs.YtmbbhnbfgcmkgaaDoor
open Go.RowKit

def kpart (k : Nat) (p : List UInt8) : Int := if kindL p < k then kindL p else 0
theorem kind_ge (p : List UInt8) : 0 ≤ kindL p ∧ kindL p ≤ 6 := by have := kind_in p; omega
theorem kpart_zero (p : List UInt8) : kpart 0 p = 0 := by have := kind_ge p; unfold kpart; rw [if_neg (by omega)]
theorem kpart_one (p : List UInt8) : kpart 1 p = 0 := by have := kind_ge p; unfold kpart; split <;> omega
theorem kpart_all (p : List UInt8) : kpart 7 p = kindL p := by have := kind_ge p; unfold kpart; rw [if_pos (by omega)]
theorem kpart_hit {p : List UInt8} {k : Nat} (h1 : 1 ≤ k) (h2 : k ≤ 6) (h : wordL k = p) : kpart (k + 1) p = k := by
  have := kind_word k (by omega) (by omega)
  rw [h] at this
  unfold kpart
  rw [this, if_pos (by omega)]
theorem kpart_miss {p : List UInt8} {k : Nat} (h1 : 1 ≤ k) (h : wordL k ≠ p) : kpart (k + 1) p = kpart k p := by
  have hg := kind_ge p
  unfold kpart
  by_cases hk : kindL p = k
  · exfalso
    apply h
    have := (word_kind (p := p) (by omega)).1
    rw [hk] at this; exact this
  · by_cases hl : kindL p < k
    · rw [if_pos hl, if_pos (by omega)]
    · rw [if_neg hl, if_neg (by omega)]
def wordZ (k : Nat) : List UInt8 := if k = 0 then [] else wordL k
theorem wordZ_ix (k : Nat) (h : k < 7) (W : World) : (Instr.index 60 (.agg wordsA) (.int .i64 (k : Int))).run Tryd.prog W = .ok (.string ⟨(wordZ k).toArray⟩) W := by
  obtain rfl | rfl | rfl | rfl | rfl | rfl | rfl : k = 0 ∨ k = 1 ∨ k = 2 ∨ k = 3 ∨ k = 4 ∨ k = 5 ∨ k = 6 := by omega
  all_goals kernel_rfl
theorem eqT (x y : List UInt8) : ((⟨x.toArray⟩ : ByteArray).toList == (⟨y.toArray⟩ : ByteArray).toList) = decide (x = y) := by
  rw [ByteArray.toList_eq, ByteArray.toList_eq, Bool.eq_iff_iff]; simp
theorem siz1 : (Tryd.prog.info? 9).map (·.size) = some 1 := by kernel_rfl
/-- Where line stands. -/
structure LSt (m : Nat) (w W : World) (ws : List (List UInt8)) (x : A4) : Prop where
  bel : Below w.heap.size w W
  r : W.heap[w.heap.size]? = some (Obj.cells (a4C a40).toArray 36 (0, 0))
  s : W.heap[w.heap.size + 1]? = some (Obj.cells (ws.flatMap encT).toArray 9 (0, 0))
  a : W.heap[w.heap.size + 2]? = some (Obj.cells (a4C x).toArray 36 (0, 0))
  ok : OkA W x
  new : ∀ a, x.q = some a → m < a.block
  ge : w.heap.size + 2 ≤ m
theorem LSt.below {m : Nat} {w W W' : World} {ws : List (List UInt8)} {x : A4} (h : LSt m w W ws x) (hb : Below W.heap.size W W') : LSt m w W' ws x :=
  ⟨h.bel.trans (hb.mono h.bel.size), (hb.block _ (lt_heap h.r)).trans h.r, (hb.block _ (lt_heap h.s)).trans h.s, (hb.block _ (lt_heap h.a)).trans h.a, h.ok.below hb, h.new, h.ge⟩
theorem LSt.kind {m : Nat} {w W : World} {ws : List (List UInt8)} {x : A4} (h : LSt m w W ws x) (k : Int) : LSt m w (W.setCell ⟨w.heap.size + 2, 0, none⟩ (.int .i64 k)) ws { x with kind := k } :=
  have hg := h.ge
  ⟨h.bel.setCell (p := ⟨w.heap.size + 2, 0, none⟩) (by show w.heap.size ≤ w.heap.size + 2; omega) _, (heap_setCell_other _ (by omega)).trans h.r, (heap_setCell_other _ (by omega)).trans h.s, by rw [heap_setCell_self _ h.a]; rfl,
    (h.ok.sameB (y := { x with kind := k }) rfl rfl rfl).of_blocks (by simp [World.setCell]) (fun a ha => heap_setCell_other _ (by have := h.new a ha; omega)), h.new, h.ge⟩
theorem LSt.next {it : Nat} {w W : World} {ws : List (List UInt8)} {x : A4} (h : LSt it w W ws x) (hit : w.heap.size + 2 < it) (o : Obj) : LSt it w (putB W it o) ws x :=
  ⟨putB_below h.bel it o (by omega), (putB_other _ _ _ _ (by omega)).trans h.r, (putB_other _ _ _ _ (by omega)).trans h.s, (putB_other _ _ _ _ (by omega)).trans h.a,
   h.ok.of_blocks (by rw [putB_size]; exact Nat.le_refl _) (fun a ha => putB_other _ _ _ _ (by have := h.new a ha; omega)), h.new, h.ge⟩
theorem LSt.turn {m : Nat} {w W W' : World} {ws : List (List UInt8)} {x y : A4} (h : LSt m w W ws x) (ht : Turn [w.heap.size + 2] W W') (ha : W'.heap[w.heap.size + 2]? = some (Obj.cells (a4C y).toArray 36 (0, 0))) (hy : OkA W' y) (hn : ∀ a, y.q = some a → m < a.block) : LSt m w W' ws y :=
  ⟨h.bel.trans (ht.below (fun k hk => by simp at hk; omega) h.bel.size), (ht.block _ (lt_heap h.r) (by simp)).trans h.r, (ht.block _ (lt_heap h.s) (by simp)).trans h.s, ha, hy, hn, h.ge⟩
theorem LSt.word {m : Nat} {w W : World} {ws : List (List UInt8)} {x : A4} (h : LSt m w W ws x) (i : Nat) (hi : i < ws.length) : W.cell? ⟨w.heap.size + 1, i, none⟩ = some (.string ⟨ws[i].toArray⟩) := by
  rw [cell_blk h.s]; exact encT_get ws i hi
set_option maxRecDepth 100000 in
set_option maxHeartbeats 8000000 in
theorem line_any (l : List UInt8) (w : World) (hl : l.length ≤ 1000000) (hmx : MX w) :
    Calls Tryd.prog 32 #[.string ⟨l.toArray⟩] w fun e w' => ∃ y : A4, e = .returned (.tuple #[.agg (a4C y).toArray, .int .i64 (lineL l).2]) ∧ y.d = (lineL l).1 ∧ OkA w' y ∧ (∀ a, y.q = some a → w.heap.size ≤ a.block) ∧ Below w.heap.size w w' := by
  have KS : Hid (∀ W, Below w.heap.size w W → Calls Tryd.prog 39 #[.string ⟨l.toArray⟩, .string ⟨#[32]⟩] W fun e w' => e = .returned (.slice (some ⟨W.heap.size, 0, none⟩) (spl 32 l).length (spl 32 l).length) ∧ w' = W.alloc (.cells ((spl 32 l).flatMap encT).toArray 9)) := fun W hW => split_any l W (by omega) (hmx.below hW)
  have HWl : Hid (∀ p ∈ spl 32 l, p.length ≤ 1000000) := fun p hp => Nat.le_trans (spl_size 32 l p hp) hl
  have HNe : Hid (spl 32 l ≠ []) := spl_ne 32 l
  have HWn : Hid ((spl 32 l).length ≤ 1000001) := by show _ ≤ _; have := spl_len 32 l; omega
  have HE : Hid (lineL l = lineW (spl 32 l)) := rfl
  have HZ := below_alloc1 w (.cells (a4C a40).toArray 36)
  generalize spl 32 l = ws at *
  generalize lineL l = res at *
  clear hmx
  obtain ⟨p0, r, rfl⟩ : ∃ p0 r, ws = p0 :: r := by
    cases ws with
    | nil => exact absurd rfl HNe.out
    | cons p r => exact ⟨p, r, rfl⟩
  clear HNe
  have hlen : (p0 :: r).length = r.length + 1 := rfl
  have HL0 : Hid (LSt (w.heap.size + 2) w (((w.alloc (.cells (a4C a40).toArray 36)).alloc (.cells ((p0 :: r).flatMap encT).toArray 9)).alloc (.cells (a4C a40).toArray 36)) (p0 :: r) a40) :=
    ⟨(below_alloc2 _ _ _).alloc (by simp; omega) _, by rw [heap_alloc_old _ _ (by simp; omega)]; exact heap_alloc2_old _ _ _, by rw [heap_alloc_old _ _ (by simp)]; exact heap_alloc2_new _ _ _, by
      have := heap_alloc_new ((w.alloc (.cells (a4C a40).toArray 36)).alloc (.cells ((p0 :: r).flatMap encT).toArray 9)) (.cells (a4C a40).toArray 36); simpa using this, ⟨SlAt.nil _ _, Nat.le_refl _, Nat.zero_le _, fun _ => rfl⟩, (fun a h => by cases h), Nat.le_refl _⟩
  generalize hrow : ((p0 :: r).flatMap encT).toArray = row at *
  generalize hnn : (p0 :: r).length = n at *
  have HRow := Lib.hid hrow
  have HNn := Lib.hid hnn
  have HLn := Lib.hid hlen
  clear hrow hnn hlen
  go_enter Tryd.func32, Tryd.ntmps32
  go_upto_region 3 with (first
    | (go_at_call 39; (refine (KS.out _ HZ).mono ?_); rintro e W1 ⟨rfl, rfl⟩)
    | ((with_reducible refine gate_st 36 _ _ rfl ?_); refine wl_strn rfl _ _ _ rfl #[.int .i64 0, .int .i64 0, .int .i64 0, .slice none 0 0] _ _ sizA4 rfl (by simp [Value.oneCell']) rfl rfl ?_))
  simp only [Nat.add_assoc, Nat.reduceAdd]
  rw [show (Obj.cells #[Value.int IntKind.i64 0, Value.int IntKind.i64 0, Value.int IntKind.i64 0, Value.slice none 0 0] 36) = Obj.cells (a4C a40).toArray 36 from rfl]
  generalize ((w.alloc (.cells (a4C a40).toArray 36)).alloc (.cells row 9)).alloc (.cells (a4C a40).toArray 36) = W1 at *
  go_wp2_with (go_at_call 24; (refine (words_any _).mono ?_); rintro e W2 ⟨rfl, hb2⟩; have HL1 := Lib.hid (HL0.out.below hb2); clear hb2 HL0)
  go_loopw [17] (fun i wr => ∃ k : Nat, k ≤ 7 ∧ i = .int .i64 k ∧ Hid (LSt (w.heap.size + 2) w wr (p0 :: r) ⟨kpart k p0, 0, 0, none, 0, []⟩)) (fun i _ => 7 - (intOf i).toNat)
  case atStart => exact ⟨0, Nat.zero_le _, rfl, by rw [kpart_zero]; exact HL1.out⟩
  case round =>
    obtain ⟨k, hk, rfl, HL⟩ := hrel
    clear HL1
    by_cases hlt : k < 7
    · have hli : (k : Int) < 7 := by omega
      have hix := fun W => wordZ_ix k hlt W
      have hs0 : wr.cell? ⟨w.heap.size + 1, 0, none⟩ = some (.string ⟨p0.toArray⟩) := HL.out.word 0 (by simp)
      have hc0 : wr.cell? ⟨w.heap.size + 2, 0, none⟩ = some (.int .i64 (kpart k p0)) := by rw [cell_blk HL.out.a]; rfl
      have hf0 : wr.frozen? ⟨w.heap.size + 2, 0, none⟩ = false := by simp [World.frozen?, HL.out.a]
      have heq := eqT (wordZ k) p0
      have hn0 : 0 < n := by have := HLn.out; omega
      have hn0i : (0 : Int) < n := by omega
      by_cases h0 : k = 0
      · have HN : Hid (kpart (k + 1) p0 = kpart k p0) := by show _ = _; rw [h0, kpart_zero, kpart_one]
        have h0i : ¬ (0 : Int) < k := by omega
        clear h0
        go_wp2_with fail
        go_roundw
        case rel => exact ⟨k + 1, by omega, by go_num, by rw [HN.out]; exact HL.out⟩
        case measure => simp [intOf]; omega
      · have h0i : (0 : Int) < k := by omega
        by_cases hw : wordL k = p0
        · have hwz : decide (wordZ k = p0) = true := by unfold wordZ; rw [if_neg h0, hw]; simp
          rw [hwz] at heq
          have HL2 : Hid (LSt (w.heap.size + 2) w (wr.setCell ⟨w.heap.size + 2, 0, none⟩ (.int .i64 (k : Int))) (p0 :: r) ⟨kpart (k + 1) p0, 0, 0, none, 0, []⟩) := by
            show LSt _ _ _ _ _; rw [kpart_hit (by omega) (by omega) hw]; exact HL.out.kind (k : Int)
          clear HL hwz hw
          generalize (⟨(wordZ k).toArray⟩ : ByteArray) = wz at *
          generalize (⟨p0.toArray⟩ : ByteArray) = pz at *
          go_wp2_with fail
          go_roundw
          case rel => exact ⟨k + 1, by omega, by go_num, HL2.out⟩
          case measure => simp [intOf]; omega
        · have hwz : decide (wordZ k = p0) = false := by unfold wordZ; rw [if_neg h0]; simpa using hw
          rw [hwz] at heq
          have HN : Hid (kpart (k + 1) p0 = kpart k p0) := kpart_miss (by omega) hw
          clear hwz hw
          generalize (⟨(wordZ k).toArray⟩ : ByteArray) = wz at *
          generalize (⟨p0.toArray⟩ : ByteArray) = pz at *
          go_wp2_with fail
          go_roundw
          case rel => exact ⟨k + 1, by omega, by go_num, by rw [HN.out]; exact HL.out⟩
          case measure => simp [intOf]; omega
    · obtain rfl : k = 7 := by omega
      rw [kpart_all] at HL
      have hc0 : wr.cell? ⟨w.heap.size + 2, 0, none⟩ = some (.int .i64 (kindL p0)) := by rw [cell_blk HL.out.a]; rfl
      by_cases hk0 : kindL p0 = 0
      · have HR : Hid (res = (d40, 16)) := by show _ = _; rw [HE.out]; rw [lineW_cons, if_pos hk0]
        have hkb : (kindL p0 == 0) = true := by rw [hk0]; rfl
        have HG := Lib.hid (setRow_at (cs := (a4C a40).toArray) HL.out.r)
        clear hk0
        generalize kindL p0 = kd at *
        go_wp2_with ((with_reducible refine gate_st 36 _ _ rfl ?_); refine wl_str rfl _ _ _ rfl w.heap.size (a4C a40).toArray (a4C a40).toArray _ sizA4 rfl (by simp [a4C, Value.oneCell']) rfl rfl HL.out.r ?_)
        refine bodyPost_ret (res_rowc_tmp rfl _ _ w.heap.size (a4C a40).toArray _ rfl HG.out Tryd.underlying36 rfl sizA4) rfl ⟨a40, by rw [HR.out]; rfl, by rw [HR.out]; rfl, ⟨SlAt.nil _ _, Nat.le_refl _, Nat.zero_le _, fun _ => rfl⟩, (fun a h => by cases h), setRow_below HL.out.bel (Nat.le_refl _) _⟩
      · obtain ⟨hwd, hk1, hk6⟩ := word_kind hk0
        have HR : Hid (res = if r.length ≠ (usesL (kindL p0)).length then (d40, 3) else argsL ⟨kindL p0, 0, 0, []⟩ (usesL (kindL p0)) r) := by show _ = _; rw [HE.out]; rw [lineW_cons, if_neg hk0]
        have hkb : (kindL p0 == 0) = false := by simpa using hk0
        have KU : Hid (∀ W, Calls Tryd.prog 25 #[.int .i64 (kindL p0)] W fun e w' => e = .returned (.string ⟨(usesL (kindL p0)).toArray⟩) ∧ Below W.heap.size W w') := fun W => uses_any (kindL p0) W
        have HUI := Lib.hid (uses_in (kindL p0))
        have HUl : (usesL (kindL p0)).length ≤ 2 := usesL_len _
        clear hwd hk0
        generalize kindL p0 = kd at *
        generalize usesL kd = u at *
        have hus : (⟨u.toArray⟩ : ByteArray).size = u.length := ba_size u
        have hn2 : n ≤ 1000001 := HWn.out
        have hmf : ∀ (fn : Fn) (first cap : Array Value) (W : World), (Instr.makeFunc fn first cap).run Tryd.prog W = .ok (.func fn first cap) W := fun _ _ _ _ => rfl
        have HWg : Hid (∀ j (h : j < (p0 :: r).length), ((p0 :: r)[j]).length ≤ 1000000) := fun j h => HWl.out _ (List.getElem_mem h)
        have hn1 : 1 ≤ n := by have := HLn.out; omega
        have hni : ((n : Int) - 1) = (r.length : Int) := by have := HLn.out; omega
        have HHi : Hid (((n : Int) - 1) = (r.length : Int)) := hni
        by_cases hru : r.length = u.length
        · have HR2 : Hid (res = argsL ⟨kd, 0, 0, []⟩ u r) := by show _ = _; rw [HR.out, if_neg (fun h => h hru)]
          have e1 : (((n : Int) - 1) != (u.length : Int)) = false := by rw [HHi.out, hru]; simp
          have e2 : (((n : Int) - 1) == (u.length : Int)) = true := by rw [HHi.out, hru]; simp
          have HN : Hid (n = u.length + 1) := by show _ = _; rw [HLn.out, hru]
          have HD0 : Hid (argsL (A4.d ⟨kd, 0, 0, none, 0, []⟩) (u.drop 0) ((p0 :: r).drop (0 + 1)) = res) := HR2.out.symm
          clear HR HR2 HE HWl HWn hru hni HHi HLn HRow hk1 hk6 hlt
          generalize p0 :: r = ws at *
          go_wp2_with (go_at_call 25; (refine (KU.out _).mono ?_); rintro e W3 ⟨rfl, hb3⟩; have HL3 := Lib.hid (HL.out.below hb3); clear hb3 HL KU)
          have HI : Hid ((W3.iter ⟨u.toArray⟩ 0).heap[W3.heap.size]? = some (.stringIter ⟨u.toArray⟩ 0)) := World.iter_heap _ _ _
          have hit3 : w.heap.size + 2 < W3.heap.size := lt_heap HL3.out.a
          have HS : Hid (LSt W3.heap.size w (W3.iter ⟨u.toArray⟩ 0) ws ⟨kd, 0, 0, none, 0, []⟩) := by
            have := HL3.out.below ((Below.refl W3.heap.size W3).alloc (Nat.le_refl _) (.stringIter ⟨u.toArray⟩ 0))
            exact ⟨this.bel, this.r, this.s, this.a, this.ok, (fun a h => by cases h), by omega⟩
          have HIT := Lib.hid hit3
          clear HL3 hit3
          generalize W3.iter ⟨u.toArray⟩ 0 = W4 at *
          generalize W3.heap.size = it at *
          go_loopw [12] (fun _ wr => ∃ (pos : Nat) (y : A4), pos ≤ u.length ∧ Hid (LSt it w wr ws y) ∧ Hid (wr.heap[it]? = some (.stringIter ⟨u.toArray⟩ pos)) ∧ Hid (argsL y.d (u.drop pos) (ws.drop (pos + 1)) = res)) (fun _ wr => u.length - wr.iterPos it)
          case atStart => exact ⟨0, _, Nat.zero_le _, HS.out, HI.out, HD0.out⟩
          case round =>
            obtain ⟨pos, y, hpos, HS1, HI1, HD⟩ := hrel
            clear HS HI HD0
            by_cases hlt : pos < u.length
            · have hwlen : ws.length = n := HNn.out
              have hc : u[pos]? = some u[pos] := List.getElem?_eq_getElem hlt
              have hci := Lib.hid (HUI.out _ (List.getElem_mem hlt))
              have hpn : pos + 1 < ws.length := by rw [hwlen, HN.out]; omega
              have HDu : Hid (u.drop pos = u[pos] :: u.drop (pos + 1)) := List.drop_eq_getElem_cons hlt
              have HDw : Hid (ws.drop (pos + 1) = ws[pos + 1] :: ws.drop (pos + 2)) := List.drop_eq_getElem_cons hpn
              have hpl : (ws[pos + 1]).length ≤ 1000000 := HWg.out _ hpn
              rw [HDu.out, HDw.out] at HD
              have HS2 := Lib.hid (HS1.out.next HIT.out (.stringIter ⟨u.toArray⟩ (pos + 1)))
              have hwc : (putB wr it (.stringIter ⟨u.toArray⟩ (pos + 1))).cell? ⟨w.heap.size + 1, pos + 1, none⟩ = some (.string ⟨(ws[pos + 1]).toArray⟩) := HS2.out.word _ hpn
              generalize u[pos] = c at *
              generalize ws[pos + 1] = p at *
              have hnx := fun ty => runS_next (P := Tryd.prog) wr it ⟨u.toArray⟩ pos ty c HI1.out (by simpa using hc) (by rcases hci.out with h | h | h <;> (rw [h]; decide))
              have HI2 : Hid ((putB wr it (.stringIter ⟨u.toArray⟩ (pos + 1))).heap[it]? = some (.stringIter ⟨u.toArray⟩ (pos + 1))) := putB_same _ _ _ _ HI1.out
              have HM : Hid (u.length - (pos + 1) < u.length - wr.iterPos it) := by show _ < _; rw [iterPos_at HI1.out]; omega
              have hpn2 : pos + 1 < n := by rw [← hwlen]; exact hpn
              have hpi : (pos : Int) + 1 < n := by omega
              have HSz : Hid (it < (putB wr it (.stringIter ⟨u.toArray⟩ (pos + 1))).heap.size) := lt_heap HI2.out
              clear hc HS1 HI1 HDu HDw hwlen hpn
              generalize putB wr it (.stringIter ⟨u.toArray⟩ (pos + 1)) = W5 at *
              have KR : Hid (Calls Tryd.prog 40 #[.int .i32 (c.toNat : Int), .string ⟨p.toArray⟩, .pointer (some ⟨w.heap.size + 2, 0, none⟩)] W5 fun e w' => ∃ y' : A4, e = .returned (.int .i64 (argL y.d c p).2) ∧ y'.d = (argL y.d c p).1 ∧ w'.heap[w.heap.size + 2]? = some (Obj.cells (a4C y').toArray 36 (0, 0)) ∧ OkA w' y' ∧ (∀ a, y'.q = some a → it < a.block) ∧ Turn [w.heap.size + 2] W5 w') :=
                read_any y c p (w.heap.size + 2) it W5 (by have := HIT.out; omega) HSz.out hci.out hpl HS2.out.a HS2.out.ok HS2.out.new
              by_cases her : (argL y.d c p).2 = 0
              · have HD2 : Hid (argsL (argL y.d c p).1 (u.drop (pos + 1)) (ws.drop (pos + 2)) = res) := by show _ = _; rw [← HD.out, args_cons (Prod.ext rfl her)]
                have e3 : ((argL y.d c p).2 != 0) = false := by simpa using her
                have e4 : ((argL y.d c p).2 == 0) = true := by simpa using her
                clear HD her
                generalize argL y.d c p = ar at *
                obtain ⟨ad, ae⟩ := ar
                simp only at e3 e4 KR HD2
                go_wp2_with (go_at_call 40; (refine KR.out.mono ?_); rintro e W6 ⟨y', rfl, hyd, ha, hok, hnw, htn⟩; have HS3 := Lib.hid (HS2.out.turn htn ha hok hnw); have HI3 : Hid (W6.heap[it]? = some (.stringIter ⟨u.toArray⟩ (pos + 1))) := (htn.block _ HSz.out (by have := HIT.out; simp; omega)).trans HI2.out; have HYD := Lib.hid hyd; clear hyd ha hok hnw htn HS2 HI2 KR hwc)
                go_roundw
                case rel => exact ⟨pos + 1, y', by omega, HS3.out, HI3.out, by rw [HYD.out]; exact HD2.out⟩
                case measure => rw [iterPos_at HI3.out]; exact HM.out
              · have HR : Hid (res = (d40, (argL y.d c p).2)) := by show _ = _; rw [← HD.out, args_err her]
                have e3 : ((argL y.d c p).2 != 0) = true := by simpa using her
                have e4 : ((argL y.d c p).2 == 0) = false := by simpa using her
                clear HD her
                generalize argL y.d c p = ar at *
                obtain ⟨ad, ae⟩ := ar
                simp only at e3 e4 KR HR
                go_wp2_with (first
                  | (go_at_call 40; (refine KR.out.mono ?_); rintro e W6 ⟨y', rfl, hyd, ha, hok, hnw, htn⟩; have HS3 := Lib.hid (HS2.out.turn htn ha hok hnw); have HG := Lib.hid (setRow_at (cs := (a4C a40).toArray) HS3.out.r); clear hyd ha hok hnw htn HS2 HI2 KR hwc)
                  | ((with_reducible refine gate_st 36 _ _ rfl ?_); refine wl_str rfl _ _ _ rfl w.heap.size (a4C a40).toArray (a4C a40).toArray _ sizA4 rfl (by simp [a4C, Value.oneCell']) rfl rfl HS3.out.r ?_))
                refine bodyPost_ret (res_rowc_tmp rfl _ _ w.heap.size (a4C a40).toArray _ rfl HG.out Tryd.underlying36 rfl sizA4) rfl ⟨a40, by rw [HR.out]; rfl, by rw [HR.out]; rfl, ⟨SlAt.nil _ _, Nat.le_refl _, Nat.zero_le _, fun _ => rfl⟩, (fun a h => by cases h), setRow_below HS3.out.bel (Nat.le_refl _) _⟩
            · obtain rfl : pos = u.length := by omega
              have hnx := fun ty => runS_end (P := Tryd.prog) wr it ⟨u.toArray⟩ u.length ty HI1.out (by rw [hus]; omega)
              have HR : Hid (res = (y.d, 0)) := by show _ = _; rw [← HD.out, List.drop_length, args_nil]
              have HG := Lib.hid (setRow_at (cs := (a4C y).toArray) HS1.out.r)
              go_wp2_with (first
                | (refine ld_A4 rfl _ rfl (w.heap.size + 2) 0 y rfl (range_whole (by simpa using HS1.out.a)) ?_)
                | ((with_reducible refine gate_st 36 _ _ rfl ?_); refine wl_str rfl _ _ _ rfl w.heap.size (a4C y).toArray (a4C a40).toArray _ sizA4 rfl (by simp [a4C, Value.oneCell']) rfl rfl HS1.out.r ?_))
              refine bodyPost_ret (res_rowc_tmp rfl _ _ w.heap.size (a4C y).toArray _ rfl HG.out Tryd.underlying36 rfl sizA4) rfl ⟨y, by rw [HR.out]; rfl, by rw [HR.out], HS1.out.ok.of_blocks (by simp) (fun a ha => setRow_other _ _ _ _ (by have h1 := HS1.out.new a ha; have h2 := HIT.out; omega)), (fun a ha => by have h1 := HS1.out.new a ha; have h2 := HIT.out; omega), setRow_below HS1.out.bel (Nat.le_refl _) _⟩
        · have HR2 : Hid (res = (d40, 3)) := by show _ = _; rw [HR.out, if_pos hru]
          have e1 : (((n : Int) - 1) != (u.length : Int)) = true := by rw [HHi.out]; simp; omega
          have e2 : (((n : Int) - 1) == (u.length : Int)) = false := by rw [HHi.out]; simp; omega
          clear HR HE HWl HWn hru hni HHi HLn HRow hk1 hk6 hlt
          go_wp2_with (first
            | (go_at_call 25; (refine (KU.out _).mono ?_); rintro e W3 ⟨rfl, hb3⟩; have HL3 := Lib.hid (HL.out.below hb3); have HG := Lib.hid (setRow_at (cs := (a4C a40).toArray) HL3.out.r); clear hb3 HL KU)
            | ((with_reducible refine gate_st 36 _ _ rfl ?_); refine wl_str rfl _ _ _ rfl w.heap.size (a4C a40).toArray (a4C a40).toArray _ sizA4 rfl (by simp [a4C, Value.oneCell']) rfl rfl HL3.out.r ?_))
          refine bodyPost_ret (res_rowc_tmp rfl _ _ w.heap.size (a4C a40).toArray _ rfl HG.out Tryd.underlying36 rfl sizA4) rfl ⟨a40, by rw [HR2.out]; rfl, by rw [HR2.out]; rfl, ⟨SlAt.nil _ _, Nat.le_refl _, Nat.zero_le _, fun _ => rfl⟩, (fun a h => by cases h), setRow_below HL3.out.bel (Nat.le_refl _) _⟩
end Go.Proofs.YtmbbhnbfgcmkgaaDoor
