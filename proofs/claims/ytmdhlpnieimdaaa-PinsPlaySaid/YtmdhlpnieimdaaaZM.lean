/- PinsPlay: the walk. -/
import Derived.Test.YtmdhlpnieimdaaaZL
namespace Go.Proofs.Ytmdhlpnieimdaaa
open Go.ChangeShapes Go.WideShapes Go.ChangeAt Go.RowKit Go.Deep

theorem cellBP {B : Nat} {w w' : World} (hb : Below B w w') {b i : Nat} (h : b < B) : w'.cell? ⟨b, i, none⟩ = w.cell? ⟨b, i, none⟩ := hb.cell (p := ⟨b, i, none⟩) h
set_option maxRecDepth 100000 in
set_option maxHeartbeats 8000000 in
theorem PinsPlay_walkI (q : Option Addr) (n c t : Nat) (w : World) (hq : ActsIn w q n) (hc : n ≤ c) (hm : c ≤ maxLen) :
    Calls Try.prog 5 #[.slice q n c, .int .u64 (t : Int)] w fun e w' => e = .returned (.bool true) ∧ Below w.heap.size w w' := by
  unfold maxLen at hm
  have hz := zero27
  have hz2 := zero43
  have HA := Lib.hid hq
  have HT0 : Hid (TabP (w.alloc (.cells freshC 27)) w.heap.size PS.empty none) := fresh_tab w
  have HB0 : Hid (Below w.heap.size w (w.alloc (.cells freshC 27))) := below_alloc1 _ _
  have HS0 : Hid ((w.alloc (.cells freshC 27)).heap.size = w.heap.size + 1) := by show _ = _; simp
  clear hq
  go_enter Try.func5, Try.ntmps5
  go_upto_region 2 with fail
  generalize w.alloc (.cells freshC 27) = W0 at *
  have HP1 : Hid (PPI w (W0.alloc (.cells (dC 0 zL) 43)) w.heap.size PS.empty none 0 zL) := ⟨HT0.out.below (below_alloc1 _ _), by rw [← HS0.out]; exact heap_alloc_new _ _, HB0.out.trans ((below_alloc1 _ _).mono HB0.out.size), fun r e => by cases e⟩
  clear HT0 HB0
  go_wp2_with fail
  rw [HS0.out]
  generalize W0.alloc (.cells (dC 0 zL) 43) = W1 at *
  go_loopw [7] (fun vi wr => ∃ (k : Nat) (o : Option Nat) (s : PS), k ≤ n ∧ k ≤ 100 ∧ vi = .int .i64 k ∧ Hid (PPI w wr w.heap.size s o s.used s.times)) (fun vi _ => n - (intOf vi).toNat)
  case atStart => exact ⟨0, none, PS.empty, by omega, by omega, rfl, HP1.out⟩
  case round =>
    obtain ⟨k, o, s, hk, hk100, rfl, HP⟩ := hrel
    clear HP1 HS0
    by_cases hgo : k < n ∧ k < 100
    · obtain ⟨hlt, hl100⟩ := hgo
      have hlt' : (k : Int) < n := by omega
      have hl100' : (k : Int) < 100 := by omega
      obtain ⟨b, ob, kd, id, tm, rfl, hb, hk0, hk1, hk2⟩ := HA.out k hlt
      rw [← cellBP HP.out.b hb] at hk0 hk1 hk2
      go_upto_region 7 with fail
      have HA2 : Hid (ActAt (wr.alloc (.cells #[.int .i64 kd, .int .i64 id, .int .u64 (tm : Int)] 29)) wr.heap.size kd id tm) := heap_alloc_new _ _
      have HP2 : Hid (PPI w (wr.alloc (.cells #[.int .i64 kd, .int .i64 id, .int .u64 (tm : Int)] 29)) w.heap.size s o s.used s.times) := HP.out.below (below_alloc1 _ _)
      have hba : wr.heap.size ≠ w.heap.size + 1 := by have := lt_heap HP.out.d; omega
      have HOK := Lib.hid HP.out.t.2
      have hl := HP.out.t.2.hl
      clear HP hk0 hk1 hk2
      generalize wr.alloc (.cells #[.int .i64 kd, .int .i64 id, .int .u64 (tm : Int)] 29) = W2 at *
      generalize wr.heap.size = ba at *
      by_cases hkd : kd = 0
      · subst hkd
        have ha0 := HA2.out.c0
        have ha1 := HA2.out.c1
        have KR : Hid (∀ W, Calls Try.prog 13 #[.agg (dC s.used s.times), .int .i64 id] W fun e w' => e = .returned (.tuple #[.agg (dC (s.un id).used (s.un id).times), .bool (hasL s.used id)]) ∧ Below W.heap.size W w') := fun W => refUnpin_any HOK.out id W
        have KU : Hid (∀ W u ts, PPI w W w.heap.size s o u ts → Calls Try.prog 7 #[.pointer (some ⟨w.heap.size, 0, none⟩), .slice (some ⟨W.heap.size, 0, none⟩) 2 2] (W.alloc (.cells #[.int .i64 id, .int .i64 id] 3)) fun e w' => e = .returned (.int .i64 (if hasL s.used id then 1 else 0 : Nat)) ∧ PPI w w' w.heap.size (s.un id) o u ts) := fun W u ts h => h.unpin id
        have KS : Hid (∀ W o', TabP W w.heap.size (s.un id) o' → Calls Try.prog 15 #[.pointer (some ⟨w.heap.size, 0, none⟩), .agg (dC (s.un id).used (s.un id).times), .int .u64 (t : Int)] W fun e w' => e = .returned (.bool true) ∧ Below W.heap.size W w') := fun W o' h => same_any w.heap.size t (s.un id) o' W h
        have hl2 := (PS.un_ok HOK.out id).hl
        clear HOK
        generalize hasL s.used id = bb at *
        generalize hs2 : s.un id = s2 at *
        clear hs2
        go_upto_region 10 with (first
          | ((with_reducible refine gate_ld 43 (.tmp 6) rfl ?_); refine wl_ldr rfl 43 _ rfl (w.heap.size + 1) 0 (dL s.used s.times) _ Try.underlying43 rfl (by rw [siz43, dL_len _ hl]) rfl HP2.out.d.range ?_)
          | (go_at_call 13; (refine (KR.out _).mono ?_); rintro e w3 ⟨rfl, hb3⟩; have HP3 := Lib.hid (HP2.out.below hb3); have HA3 := Lib.hid (HA2.out.below hb3); clear hb3)
          | ((with_reducible refine gate_st 43 (.tmp 9) (.tmp 39) rfl ?_); refine wl_strK rfl 43 _ _ rfl w3.heap.size (dC s2.used s2.times) _ 43 (by rw [siz43, dC_size _ hl2]) (by rw [dC_size _ hl2, dC_size _ zL_len]) (dC_one _ _) rfl rfl (heap_alloc_new _ _) (fun w5 hd5 ht5 => ?_); have HP5 := Lib.hid (HP3.out.newRow ht5).1; have HA5 := Lib.hid (HA3.out.below (HP3.out.newRow ht5).2); have HD5 := Lib.hid hd5; clear hd5 ht5)
          | ((with_reducible refine gate_ld 43 (.tmp 9) rfl ?_); refine wl_ldr rfl 43 _ rfl w3.heap.size 0 (dL s2.used s2.times) _ Try.underlying43 rfl (by rw [siz43, dL_len _ hl2]) rfl (range_whole HD5.out) ?_)
          | ((with_reducible refine gate_st 43 (.tmp 6) (.tmp 41) rfl ?_); refine wl_strK rfl 43 _ _ rfl (w.heap.size + 1) (dC s2.used s2.times) _ 43 (by rw [siz43, dC_size _ hl2]) (by rw [dC_size _ hl2, dC_size _ hl]) (dC_one _ _) rfl rfl HP5.out.d (fun w6 hd6 ht6 => ?_); have HP6 := Lib.hid (HP5.out.doc ht6 hd6); have HA6 := Lib.hid (HA5.out.doc ht6 hba); clear hd6 ht6))
        clear HP2 HA2 HP3 HA3 HP5 HA5 HD5 KR
        have ha1' := HA6.out.c1
        cases bb with
        | true =>
          go_wp2_with (first
            | (go_at_call 7; (refine (KU.out _ _ _ HP6.out).mono ?_); rintro e w7 ⟨rfl, hp7⟩)
            | ((with_reducible refine gate_ld 43 (.tmp 6) rfl ?_); refine wl_ldr rfl 43 _ rfl (w.heap.size + 1) 0 (dL s2.used s2.times) _ Try.underlying43 rfl (by rw [siz43, dL_len _ hl2]) rfl hp7.d.range ?_)
            | (go_at_call 15; (refine (KS.out _ o hp7.t).mono ?_); rintro e w8 ⟨rfl, hb8⟩))
          have HP8 := Lib.hid (hp7.below hb8)
          clear hp7 hb8
          go_roundw
          case rel => exact ⟨k + 1, o, s2, by omega, by omega, by go_num, HP8.out⟩
          case measure => simp [intOf]; omega
        | false =>
          go_wp2_with (first
            | (go_at_call 7; (refine (KU.out _ _ _ HP6.out).mono ?_); rintro e w7 ⟨rfl, hp7⟩)
            | ((with_reducible refine gate_ld 43 (.tmp 6) rfl ?_); refine wl_ldr rfl 43 _ rfl (w.heap.size + 1) 0 (dL s2.used s2.times) _ Try.underlying43 rfl (by rw [siz43, dL_len _ hl2]) rfl hp7.d.range ?_)
            | (go_at_call 15; (refine (KS.out _ o hp7.t).mono ?_); rintro e w8 ⟨rfl, hb8⟩))
          have HP8 := Lib.hid (hp7.below hb8)
          clear hp7 hb8
          go_roundw
          case rel => exact ⟨k + 1, o, s2, by omega, by omega, by go_num, HP8.out⟩
          case measure => simp [intOf]; omega
      · have hkd2 : (kd == 0) = false := by simpa using hkd
        have ha0 := HA2.out.c0
        have ha2 := HA2.out.c2
        obtain ⟨x, y, s2, hl2, hr, hp⟩ := pin_both (w := w) (tp := w.heap.size) (o := o) HOK.out tm
        have KR := Lib.hid hr
        have KU := Lib.hid hp
        have KS : Hid (∀ W o', TabP W w.heap.size s2 o' → Calls Try.prog 15 #[.pointer (some ⟨w.heap.size, 0, none⟩), .agg (dC s2.used s2.times), .int .u64 (t : Int)] W fun e w' => e = .returned (.bool true) ∧ Below W.heap.size W w') := fun W o' h => same_any w.heap.size t s2 o' W h
        clear HOK hr hp
        go_upto_region 17 with (first
          | ((with_reducible refine gate_ld 43 (.tmp 6) rfl ?_); refine wl_ldr rfl 43 _ rfl (w.heap.size + 1) 0 (dL s.used s.times) _ Try.underlying43 rfl (by rw [siz43, dL_len _ hl]) rfl HP2.out.d.range ?_)
          | (go_at_call 14; (refine (KR.out _).mono ?_); rintro e w3 ⟨rfl, hb3⟩; have HP3 := Lib.hid (HP2.out.below hb3); have HA3 := Lib.hid (HA2.out.below hb3); clear hb3)
          | ((with_reducible refine gate_st 43 (.tmp 12) (.tmp 56) rfl ?_); refine wl_strK rfl 43 _ _ rfl w3.heap.size (dC s2.used s2.times) _ 43 (by rw [siz43, dC_size _ hl2]) (by rw [dC_size _ hl2, dC_size _ zL_len]) (dC_one _ _) rfl rfl (heap_alloc_new _ _) (fun w5 hd5 ht5 => ?_); have HP5 := Lib.hid (HP3.out.newRow ht5).1; have HA5 := Lib.hid (HA3.out.below (HP3.out.newRow ht5).2); have HD5 := Lib.hid hd5; clear hd5 ht5)
          | ((with_reducible refine gate_ld 43 (.tmp 12) rfl ?_); refine wl_ldr rfl 43 _ rfl w3.heap.size 0 (dL s2.used s2.times) _ Try.underlying43 rfl (by rw [siz43, dL_len _ hl2]) rfl (range_whole HD5.out) ?_)
          | ((with_reducible refine gate_st 43 (.tmp 6) (.tmp 59) rfl ?_); refine wl_strK rfl 43 _ _ rfl (w.heap.size + 1) (dC s2.used s2.times) _ 43 (by rw [siz43, dC_size _ hl2]) (by rw [dC_size _ hl2, dC_size _ hl]) (dC_one _ _) rfl rfl HP5.out.d (fun w6 hd6 ht6 => ?_); have HP6 := Lib.hid (HP5.out.doc ht6 hd6); have HA6 := Lib.hid (HA5.out.doc ht6 hba); clear hd6 ht6))
        clear HP2 HA2 HP3 HA3 HP5 HA5 HD5 KR
        have ha2' := HA6.out.c2
        go_wp2_with (first
          | (go_at_call 8; (refine (KU.out _ _ _ HP6.out).mono ?_); rintro e w7 ⟨rfl, o', hp7⟩)
          | ((with_reducible refine gate_ld 43 (.tmp 6) rfl ?_); refine wl_ldr rfl 43 _ rfl (w.heap.size + 1) 0 (dL s2.used s2.times) _ Try.underlying43 rfl (by rw [siz43, dL_len _ hl2]) rfl hp7.d.range ?_)
          | (go_at_call 15; (refine (KS.out _ o' hp7.t).mono ?_); rintro e w8 ⟨rfl, hb8⟩))
        have HP8 := Lib.hid (hp7.below hb8)
        clear hp7 hb8
        go_roundw
        case rel => exact ⟨k + 1, o', s2, by omega, by omega, by go_num, HP8.out⟩
        case measure => simp [intOf]; omega
    · have HPb := Lib.hid HP.out.b
      rcases (show k = n ∨ (k = 100 ∧ (100 : Int) < n) by omega) with rfl | ⟨rfl, hlt'⟩
      all_goals
        go_wp2_with (go_at_call 11; (refine (known_any _).mono ?_); rintro e w4 ⟨rfl, hb4⟩; have HB9 : Hid (Below w.heap.size w w4) := HPb.out.trans (hb4.mono HPb.out.size))
        go_ret
        exact ⟨rfl, HB9.out⟩
end Go.Proofs.Ytmdhlpnieimdaaa
