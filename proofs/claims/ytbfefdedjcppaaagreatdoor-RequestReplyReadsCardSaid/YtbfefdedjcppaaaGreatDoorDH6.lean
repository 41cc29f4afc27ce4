/- The document's Reader: a number read. -/
import Derived.Test.YtbfefdedjcppaaaGreatDoorRF
namespace Go.Proofs.YtbfefdedjcppaaaGreatDoor
set_option maxRecDepth 100000
set_option maxHeartbeats 8000000
open Go.RowKit
theorem rread3_any (q : Option Addr) (n c N : Nat) (l : List UInt8) (s : ByteArray) (w : World) (h : RdOk w q n c l) (hN : N < 2 ^ 64) : Calls Tryz.prog 55 #[.agg #[.slice q n c, .int .i64 0], .agg #[.int .i64 3, .int .u64 (N : Int), .string s]] w (RdP q n c (numK N l) (numE N l) (.int .u64 (numV N l : Nat)) ⟨#[]⟩ w) := by
 have H := Lib.hid h
 have HS0 := Lib.hid (RfSt.start w #[.slice q n c, .int .i64 0] #[.int .i64 3, .int .u64 (N : Int), .string s])
 have KR : Hid (∀ W, Below w.heap.size w W → Calls Tryz.prog 106 #[.slice q n c] W fun e w' => e = .returned (.tuple #[.int .u64 ((readS l).1 : Nat), .int .i64 ((readS l).2.1 : Nat), .int .i64 ((readS l).2.2 : Nat)]) ∧ W = w') := fun W hW => refReadSmall_any q l n c W h.ln h.nc h.cm (h.sl.below hW)
 have hnc := h.nc
 have hcm := h.cm
 unfold maxLen at hcm
 have hln := h.ln
 have HE0 : Hid (numE N l = if (readS l).2.2 ≠ 0 then (readS l).2.2 else if N < (readS l).1 then 5 else 0) := rfl
 have HSs : Hid (numV N l = if numE N l = 0 then (readS l).1 else 0) := rfl
 have HNn : Hid (numK N l = if numE N l = 0 then (readS l).2.1 else 0) := rfl
 have HL : Hid ((readS l).2.2 = 0 → (readS l).2.1 ≤ n ∧ 0 < (readS l).2.1 ∧ (readS l).1 < 2 ^ 64) := fun h => by
   have h1 := readS_le h
   have h2 := readS_pos h
   exact ⟨by omega, h2, h1.2⟩
 clear h hln
 generalize (readS l).1 = rv at *
 generalize (readS l).2.1 = rk at *
 generalize (readS l).2.2 = re at *
 have K : ∀ e', numE N l = e' → Hid (numE N l = e') := fun _ h => h
 by_cases he : re = 0
 · obtain ⟨hrk, hrk0, hrv⟩ := HL.out he
   rw [if_neg (by omega)] at HE0
   subst he
   clear HL
   by_cases hmv : N < rv
   · have HE := K 5 (by rw [HE0.out, if_pos hmv])
     rw [HE.out, if_neg (by omega)] at HSs HNn
     rw [HE.out, HSs.out, HNn.out]
     have hmv' : (N : Int) < (rv : Int) := by omega
     clear K HE0 HE HSs HNn hmv
     have KF := Lib.hid (fun W => rfail_any q n c 0 5 W)
     go_enter Tryz.func55, Tryz.ntmps55
     go_upto_region 15 with fail
     generalize (((w.alloc (.cells #[.slice q n c, .int .i64 0] 101)).alloc (.cells #[.int .i64 3, .int .u64 (N : Int), .string s] 134)).alloc (.cells #[.slice none 0 0, .int .i64 0] 101)).alloc (.cells #[.int .i64 1, .int .i64 2, .int .i64 8] 3) = W1 at *
     have cs1 : W1.cell? ⟨w.heap.size, 0, none⟩ = some (.slice q n c) := by rw [cell_blk HS0.out.rd]; rfl
     have cN : W1.cell? ⟨w.heap.size + 1, 1, none⟩ = some (.int .u64 (N : Int)) := by rw [cell_blk HS0.out.fl]; rfl
     have cK : W1.cell? ⟨w.heap.size + 1, 0, none⟩ = some (.int .i64 3) := by rw [cell_blk HS0.out.fl]; rfl
     have KR1 := Lib.hid (KR.out W1 HS0.out.bel)
     go_wp2_with (first
       | (go_at_call 106; (refine KR1.out.mono ?_); rintro e w2 ⟨rfl, rfl⟩)
       | ((with_reducible refine gate_ld 101 _ rfl ?_); refine wl_ldr rfl 101 _ rfl w.heap.size 0 [.slice q n c, .int .i64 0] _ Tryz.underlying101 rfl (by rw [sizRdr]; rfl) rfl (range_whole HS0.out.rd) ?_)
       | (go_at_call 105; (refine (KF.out _).mono ?_); rintro e W2 ⟨rfl, hb2⟩; have HS2 := Lib.hid (HS0.out.below hb2); clear hb2)
       | ((with_reducible refine gate_st 101 _ _ rfl ?_); refine wl_str rfl 101 _ _ rfl (w.heap.size + 1 + 1) #[.slice q n c, .int .i64 (5 : Nat)] #[.slice none 0 0, .int .i64 0] _ (by rw [sizRdr]; rfl) rfl (by rw [← Array.all_toList]; rfl) rfl rfl HS2.out.res ?_))
     have hb : Below w.heap.size w (W2.setRow (w.heap.size + 1 + 1) #[.slice q n c, .int .i64 (5 : Nat)]) := setRow_below HS2.out.bel (by omega) _
     refine bodyPost_ret (res_rowc_tmp2 (P := Tryz.prog) (T := 101) (T' := 101) (t := 5) (s := 6) rfl _ _ (w.heap.size + 1 + 1) #[.slice q n c, .int .i64 (5 : Nat)] (0, 0) rfl (setRow_at HS2.out.res) Tryz.underlying101 rfl (by rw [sizRdr]; rfl)) rfl ⟨by rw [tq_zero]; rfl, hb⟩
   · have HE := K 0 (by rw [HE0.out, if_neg hmv])
     rw [HE.out, if_pos rfl] at HSs HNn
     rw [HE.out, HSs.out, HNn.out]
     have hmv' : ¬ (N : Int) < (rv : Int) := by omega
     have hkn' : (rk : Int) ≤ n := by omega
     have hkc : (rk : Int) ≤ c := by omega
     have hkvn : rk ≤ n := hrk
     obtain ⟨b, o, rfl, hb, _⟩ := H.out.sl 0 (by rw [H.out.ln]; omega)
     clear K HE0 HE HSs HNn hmv
     go_enter Tryz.func55, Tryz.ntmps55
     go_upto_region 15 with fail
     generalize (((w.alloc (.cells #[.slice (some ⟨b, o, none⟩) n c, .int .i64 0] 101)).alloc (.cells #[.int .i64 3, .int .u64 (N : Int), .string s] 134)).alloc (.cells #[.slice none 0 0, .int .i64 0] 101)).alloc (.cells #[.int .i64 1, .int .i64 2, .int .i64 8] 3) = W1 at *
     have cs1 : W1.cell? ⟨w.heap.size, 0, none⟩ = some (.slice (some ⟨b, o, none⟩) n c) := by rw [cell_blk HS0.out.rd]; rfl
     have cN : W1.cell? ⟨w.heap.size + 1, 1, none⟩ = some (.int .u64 (N : Int)) := by rw [cell_blk HS0.out.fl]; rfl
     have cK : W1.cell? ⟨w.heap.size + 1, 0, none⟩ = some (.int .i64 3) := by rw [cell_blk HS0.out.fl]; rfl
     have KR1 := Lib.hid (KR.out W1 HS0.out.bel)
     by_cases hcap : c = rk
     · have hz2 : n = rk := by omega
       subst hz2
       subst hcap
       go_wp2_with (first
         | (go_at_call 106; (refine KR1.out.mono ?_); rintro e w2 ⟨rfl, rfl⟩)
         | ((with_reducible refine gate_st 22 _ _ rfl ?_); refine wl_st1G rfl 22 sizBy _ _ rfl w.heap.size 0 (.slice (some ⟨b, o, none⟩) 0 0) rfl (by first | rfl | simp [Act.eval] | (simp [Act.eval]; omega)) rfl [.slice (some ⟨b, o, none⟩) c c, .int .i64 0] [.slice (some ⟨b, o, none⟩) 0 0, .int .i64 0] _ HS0.out.rd (by simp) rfl (fun W2 h1 h2 => ?_); have HS2 := Lib.hid (HS0.out.turned h1 h2); clear h1 h2; try simp only [Act.put])
         | ((with_reducible refine gate_ld 101 _ rfl ?_); refine wl_ldr rfl 101 _ rfl w.heap.size 0 [.slice (some ⟨b, o, none⟩) 0 0, .int .i64 0] _ Tryz.underlying101 rfl (by rw [sizRdr]; rfl) rfl (range_whole HS2.out.rd) ?_)
         | ((with_reducible refine gate_st 101 _ _ rfl ?_); refine wl_str rfl 101 _ _ rfl (w.heap.size + 1 + 1) #[.slice (some ⟨b, o, none⟩) 0 0, .int .i64 0] #[.slice none 0 0, .int .i64 0] _ (by rw [sizRdr]; rfl) rfl (by rw [← Array.all_toList]; rfl) rfl rfl HS2.out.res ?_))
       have hbx : Below w.heap.size w (W2.setRow (w.heap.size + 1 + 1) #[.slice (some ⟨b, o, none⟩) 0 0, .int .i64 0]) := setRow_below HS2.out.bel (by omega) _
       refine bodyPost_ret (res_rowc_tmp2 (P := Tryz.prog) (T := 101) (T' := 101) (t := 5) (s := 6) rfl _ _ (w.heap.size + 1 + 1) #[.slice (some ⟨b, o, none⟩) 0 0, .int .i64 0] (0, 0) rfl (setRow_at HS2.out.res) Tryz.underlying101 rfl (by rw [sizRdr]; rfl)) rfl ⟨by rw [tq_cap, Nat.sub_self]; rfl, hbx⟩
     · have hcap3 : ¬ (c : Int) = (rk : Int) := by omega
       go_wp2_with (first
         | (go_at_call 106; (refine KR1.out.mono ?_); rintro e w2 ⟨rfl, rfl⟩)
         | ((with_reducible refine gate_st 22 _ _ rfl ?_); refine wl_st1G rfl 22 sizBy _ _ rfl w.heap.size 0 (.slice (some ⟨b, o + rk, none⟩) (n - rk) (c - rk)) rfl (by first | rfl | simp [Act.eval] | (simp [Act.eval]; omega)) rfl [.slice (some ⟨b, o, none⟩) n c, .int .i64 0] [.slice (some ⟨b, o + rk, none⟩) (n - rk) (c - rk), .int .i64 0] _ HS0.out.rd (by simp) rfl (fun W2 h1 h2 => ?_); have HS2 := Lib.hid (HS0.out.turned h1 h2); clear h1 h2; try simp only [Act.put])
         | ((with_reducible refine gate_ld 101 _ rfl ?_); refine wl_ldr rfl 101 _ rfl w.heap.size 0 [.slice (some ⟨b, o + rk, none⟩) (n - rk) (c - rk), .int .i64 0] _ Tryz.underlying101 rfl (by rw [sizRdr]; rfl) rfl (range_whole HS2.out.rd) ?_)
         | ((with_reducible refine gate_st 101 _ _ rfl ?_); refine wl_str rfl 101 _ _ rfl (w.heap.size + 1 + 1) #[.slice (some ⟨b, o + rk, none⟩) (n - rk) (c - rk), .int .i64 0] #[.slice none 0 0, .int .i64 0] _ (by rw [sizRdr]; rfl) rfl (by rw [← Array.all_toList]; rfl) rfl rfl HS2.out.res ?_))
       have hbx : Below w.heap.size w (W2.setRow (w.heap.size + 1 + 1) #[.slice (some ⟨b, o + rk, none⟩) (n - rk) (c - rk), .int .i64 0]) := setRow_below HS2.out.bel (by omega) _
       refine bodyPost_ret (res_rowc_tmp2 (P := Tryz.prog) (T := 101) (T' := 101) (t := 5) (s := 6) rfl _ _ (w.heap.size + 1 + 1) #[.slice (some ⟨b, o + rk, none⟩) (n - rk) (c - rk), .int .i64 0] (0, 0) rfl (setRow_at HS2.out.res) Tryz.underlying101 rfl (by rw [sizRdr]; rfl)) rfl ⟨by rw [tq_mid b o c rk (by omega) hcap]; rfl, hbx⟩
 · have HE := K re (by rw [HE0.out, if_pos he])
   rw [HE.out, if_neg he] at HSs HNn
   rw [HE.out, HSs.out, HNn.out]
   have he' : ((re : Int) != 0) = true := by simpa using he
   clear K HE0 HE HSs HNn HL he
   have KF := Lib.hid (fun W => rfail_any q n c 0 re W)
   go_enter Tryz.func55, Tryz.ntmps55
   go_upto_region 15 with fail
   generalize (((w.alloc (.cells #[.slice q n c, .int .i64 0] 101)).alloc (.cells #[.int .i64 3, .int .u64 (N : Int), .string s] 134)).alloc (.cells #[.slice none 0 0, .int .i64 0] 101)).alloc (.cells #[.int .i64 1, .int .i64 2, .int .i64 8] 3) = W1 at *
   have cs1 : W1.cell? ⟨w.heap.size, 0, none⟩ = some (.slice q n c) := by rw [cell_blk HS0.out.rd]; rfl
   have cN : W1.cell? ⟨w.heap.size + 1, 1, none⟩ = some (.int .u64 (N : Int)) := by rw [cell_blk HS0.out.fl]; rfl
   have cK : W1.cell? ⟨w.heap.size + 1, 0, none⟩ = some (.int .i64 3) := by rw [cell_blk HS0.out.fl]; rfl
   have KR1 := Lib.hid (KR.out W1 HS0.out.bel)
   go_wp2_with (first
     | (go_at_call 106; (refine KR1.out.mono ?_); rintro e w2 ⟨rfl, rfl⟩)
     | ((with_reducible refine gate_ld 101 _ rfl ?_); refine wl_ldr rfl 101 _ rfl w.heap.size 0 [.slice q n c, .int .i64 0] _ Tryz.underlying101 rfl (by rw [sizRdr]; rfl) rfl (range_whole HS0.out.rd) ?_)
     | (go_at_call 105; (refine (KF.out _).mono ?_); rintro e W2 ⟨rfl, hb2⟩; have HS2 := Lib.hid (HS0.out.below hb2); clear hb2)
     | ((with_reducible refine gate_st 101 _ _ rfl ?_); refine wl_str rfl 101 _ _ rfl (w.heap.size + 1 + 1) #[.slice q n c, .int .i64 (re : Nat)] #[.slice none 0 0, .int .i64 0] _ (by rw [sizRdr]; rfl) rfl (by rw [← Array.all_toList]; rfl) rfl rfl HS2.out.res ?_))
   have hb : Below w.heap.size w (W2.setRow (w.heap.size + 1 + 1) #[.slice q n c, .int .i64 (re : Nat)]) := setRow_below HS2.out.bel (by omega) _
   refine bodyPost_ret (res_rowc_tmp2 (P := Tryz.prog) (T := 101) (T' := 101) (t := 5) (s := 6) rfl _ _ (w.heap.size + 1 + 1) #[.slice q n c, .int .i64 (re : Nat)] (0, 0) rfl (setRow_at HS2.out.res) Tryz.underlying101 rfl (by rw [sizRdr]; rfl)) rfl ⟨by rw [tq_zero]; rfl, hb⟩
end Go.Proofs.YtbfefdedjcppaaaGreatDoor
