/- law 26: RequestReplyReads: the walk. -/
import Derived.Test.YtbfefdedjcppaaaGreatDoorTL6
import Derived.Test.YtbfefdedjcppaaaGreatDoorPB7
import Derived.Test.YtbfefdedjcppaaaGreatDoorDZ6
namespace Go.Proofs.YtbfefdedjcppaaaGreatDoor
set_option maxRecDepth 100000
set_option maxHeartbeats 8000000
open Go.RowKit Go.Deep
structure TrSt (w W : World) (g5 g : Nat) (x : RpD) (u v : Value) : Prop where
 bel : Below w.heap.size w W
 a : W.heap[g5]? = some (.cells (ryC x u).toArray 59 (0, 0))
 b : W.heap[g]? = some (.cells (ryC x v).toArray 72 (0, 0))
theorem TrSt.below {w W W' : World} {g5 g : Nat} {x : RpD} {u v : Value} (h : TrSt w W g5 g x u v) (hb : Below W.heap.size W W') : TrSt w W' g5 g x u v :=
 ⟨h.bel.trans (hb.mono h.bel.size), (hb.block _ (lt_heap h.a)).trans h.a, (hb.block _ (lt_heap h.b)).trans h.b⟩
theorem ryC_oneS (x : RpD) (q : Option Addr) (n c : Nat) : (ryC x (.slice q n c)).toArray.all (·.oneCell') = true := by
 rw [← Array.all_toList]; exact ryC_one x _ rfl
theorem RequestReplyReads_walkI (q : Option Addr) (n c : Nat) (l : List UInt8) (w : World) (h : RdOk w q n c l) (hmx : MX w) :
   Calls Tryz.prog 5 #[.slice q n c] w fun e w' => e = .returned (.bool true) ∧ Below w.heap.size w w' := by
 obtain ⟨m, hm, hml⟩ : ∃ m : Nat, min (n : Int) 1300 = (m : Int) ∧ m = min n 1300 := ⟨_, by omega, rfl⟩
 have hnc := h.nc
 have hcm := h.cm
 have hmc : ¬ (c : Int) < m := by omega
 have hmc' : m ≤ c := by omega
 have HR : Hid (RdOk w q m c (l.take m)) := ⟨by rw [List.length_take, h.ln]; omega, hmc', h.cm, slAt_take h.sl m, fun e => ⟨by have := (h.nil e).1; omega, (h.nil e).2⟩⟩
 have hl13 : (l.take m).length ≤ 4096 := by rw [List.length_take]; omega
 have hm13 : m ≤ 1300 := by omega
 generalize l.take m = l1 at *
 obtain ⟨b1, b2, b3⟩ := parse_both l1
 have b4 := prsV_ok hl13
 have b5 := prsV_16 hl13
 have b6 := fun h => parse_prints (l := l1) h hl13
 have KR : Hid (∀ W, Below w.heap.size w W → Calls Tryz.prog 15 #[.slice q m c] W fun e w' => ∃ (q3 : Option Addr) (c3 : Nat), e = .returned (.tuple #[.agg (ryC (prsD l1) (.slice q3 (prsV l1).length c3)).toArray, .int .i64 (prsE l1 : Nat)]) ∧ SlAt evC 28 w' q3 (prsV l1) ∧ Below W.heap.size W w') := fun W hW => by
   refine (rqParse_any q m c l1 W HR.out.ln (HR.out.sl.below hW) HR.out.nil (by omega) (hmx.below hW)).mono ?_
   rintro e w' ⟨v, rfl, ho, hb⟩
   obtain ⟨q3, c3, rfl⟩ := ho.slice
   exact ⟨q3, c3, rfl, ho.slat evC_len, hb⟩
 have KD : Hid (∀ W, Below w.heap.size w W → Calls Tryz.prog 16 #[.slice q m c] W fun e w' => ∃ (q3 : Option Addr) (c3 : Nat), e = .returned (.tuple #[.agg (ryC (prsD l1) (.slice q3 (prsV l1).length c3)).toArray, .int .i64 (prsE l1 : Nat)]) ∧ SlAt evD 28 w' q3 (prsV l1) ∧ Below W.heap.size W w') := fun W hW => by
   refine (refParse26_any q m c l1 W ⟨HR.out.ln, HR.out.nc, HR.out.cm, HR.out.sl.below hW, HR.out.nil⟩).mono ?_
   rintro e w' ⟨v, rfl, ho, hb⟩
   rw [← b3] at ho
   obtain ⟨q3, c3, rfl⟩ := ho.slice
   rw [← b1, ← b2]
   exact ⟨q3, c3, rfl, ho.slat evD_len, hb⟩
 have KO : Hid (∀ (q3 q4 : Option Addr) (c3 c4 : Nat) (W : World), SlAt evC 28 W q3 (prsV l1) → SlAt evD 28 W q4 (prsV l1) → Calls Tryz.prog 17 #[.agg (ryC (prsD l1) (.slice q3 (prsV l1).length c3)).toArray, .agg (ryC (prsD l1) (.slice q4 (prsV l1).length c4)).toArray] W fun e w' => e = .returned (.bool true) ∧ Below W.heap.size W w') := fun q3 q4 c3 c4 W h1 h2 => told26_any (prsD l1) q3 q4 c3 c4 _ (prsV l1) W rfl h1 h2 (by omega)
 have KK : Hid (∀ W, Below w.heap.size w W → Calls Tryz.prog 10 #[] W fun e w' => e = .returned (.bool true) ∧ Below W.heap.size W w') := fun W hW => known26_any W (hmx.below hW)
 have KB : Hid (prsE l1 = 0 → ∀ (q3 : Option Addr) (c3 : Nat) (W : World), Below w.heap.size w W → SlAt evC 28 W q3 (prsV l1) → Calls Tryz.prog 18 #[.agg (ryC (prsD l1) (.slice q3 (prsV l1).length c3)).toArray] W fun e w' => ∃ (q2 : Option Addr) (c2 : Nat), e = .returned (.tuple #[.slice q2 m c2, .int .i64 0]) ∧ SlAt byteC 1 w' q2 l1 ∧ Below W.heap.size W w') := fun hk q3 c3 W hW hs => by
   obtain ⟨f1, f2, f3, f4⟩ := b6 hk
   refine (print_any (prsD l1) q3 _ c3 (prsV l1) W rfl hs f3 (hmx.below hW)).mono ?_
   rintro e w' ⟨v, rfl, ho, hb⟩
   rw [f2] at ho
   rw [f1]
   obtain ⟨q2, c2, rfl⟩ := ho.slice
   exact ⟨q2, c2, by rw [HR.out.ln]; rfl, ho.slat byteC_len, hb⟩
 have KS : Hid (∀ (q2 : Option Addr) (c2 : Nat) (W : World), Below w.heap.size w W → SlAt byteC 1 W q2 l1 → Calls Tryz.prog 12 #[.slice q m c, .slice q2 m c2] W fun e w' => e = .returned (.bool true) ∧ Below W.heap.size W w') := fun q2 c2 W hW hs => sameSelf_any q q2 m c c2 l1 W HR.out.ln (HR.out.sl.below hW) hs (by omega)
 clear hmx h hl13 hml b1 b2 b3 b4 b6
 generalize prsE l1 = k at *
 generalize prsD l1 = x at *
 generalize prsV l1 = es at *
 generalize es.length = ne at *
 have HB0 : Hid (Below w.heap.size w w) := Below.refl _ _
 clear HR b5
 have hkk : ((k : Int) != (k : Int)) = false := by simp
 go_enter Tryz.func5, Tryz.ntmps5
 go_upto_region 3 with (first
   | (go_at_call 15; (refine (KR.out _ (Below.refl _ _)).mono ?_); rintro e W2 ⟨q3, c3, rfl, hs2, hb2⟩; have HB2 := Lib.hid hb2; have HE2 := Lib.hid hs2; clear hb2 hs2)
   | ((with_reducible refine gate_st 59 _ _ rfl ?_); refine wl_strn rfl _ _ _ rfl (ryC x (.slice q3 ne c3)).toArray #[Value.int IntKind.i64 0, Value.string ⟨#[]⟩, Value.int IntKind.u8 0, Value.int IntKind.u8 0, Value.int IntKind.u8 0, Value.int IntKind.u8 0, Value.int IntKind.u8 0, Value.int IntKind.u8 0, Value.int IntKind.u8 0, Value.int IntKind.u8 0, Value.int IntKind.u8 0, Value.int IntKind.u8 0, Value.int IntKind.i64 0, Value.int IntKind.i64 0, Value.slice none 0 0] _ (by rw [sizRy, List.size_toArray, ryC_len]) (by rw [List.size_toArray, ryC_len]; rfl) (ryC_oneS _ _ _ _) (by simp [Act.eval]) rfl ?_))
 have HA5 : Hid ((W2.alloc (.cells (ryC x (.slice q3 ne c3)).toArray 59)).heap[W2.heap.size]? = some (.cells (ryC x (.slice q3 ne c3)).toArray 59 (0, 0))) := heap_alloc_new _ _
 have hb5 : Below W2.heap.size W2 (W2.alloc (.cells (ryC x (.slice q3 ne c3)).toArray 59)) := below_alloc1 _ _
 have HE5 := Lib.hid (HE2.out.below hb5)
 have HB5 := Lib.hid (HB2.out.trans (hb5.mono HB2.out.size))
 generalize W2.alloc (.cells (ryC x (.slice q3 ne c3)).toArray 59) = W3 at *
 generalize W2.heap.size = g3 at *
 clear HB2 HE2 hb5
 go_upto_region 4 with (first
   | (go_at_call 16; (refine (KD.out _ HB5.out).mono ?_); rintro e W4 ⟨q4, c4, rfl, hs2, hb2⟩; have HB4 := Lib.hid hb2; have HD4 := Lib.hid hs2; clear hb2 hs2)
   | ((with_reducible refine gate_st 72 _ _ rfl ?_); refine wl_strn rfl _ _ _ rfl (ryC x (.slice q4 ne c4)).toArray #[Value.int IntKind.i64 0, Value.string ⟨#[]⟩, Value.int IntKind.u8 0, Value.int IntKind.u8 0, Value.int IntKind.u8 0, Value.int IntKind.u8 0, Value.int IntKind.u8 0, Value.int IntKind.u8 0, Value.int IntKind.u8 0, Value.int IntKind.u8 0, Value.int IntKind.u8 0, Value.int IntKind.u8 0, Value.int IntKind.i64 0, Value.int IntKind.i64 0, Value.slice none 0 0] _ (by rw [sizRy26, List.size_toArray, ryC_len]) (by rw [List.size_toArray, ryC_len]; rfl) (ryC_oneS _ _ _ _) (by simp [Act.eval]) rfl ?_))
 have HB6 := Lib.hid (HB5.out.trans (HB4.out.mono HB5.out.size))
 have hb6 : Below W4.heap.size W4 (W4.alloc (.cells (ryC x (.slice q4 ne c4)).toArray 72)) := below_alloc1 _ _
 have HD6 := Lib.hid (HD4.out.below hb6)
 have HE6 := Lib.hid ((HE5.out.below HB4.out).below hb6)
 have HS : Hid (TrSt w (W4.alloc (.cells (ryC x (.slice q4 ne c4)).toArray 72)) g3 W4.heap.size x (.slice q3 ne c3) (.slice q4 ne c4)) := ⟨HB6.out.alloc HB6.out.size _, (by
   have h1 := (HB4.out.block _ (lt_heap HA5.out)).trans HA5.out
   exact (heap_alloc_old _ _ (lt_heap h1)).trans h1), heap_alloc_new _ _⟩
 generalize W4.alloc (.cells (ryC x (.slice q4 ne c4)).toArray 72) = W5 at *
 generalize W4.heap.size = g5 at *
 clear HB4 HB5 HB6 HA5 KR KD hb6 HD4 HE5
 have hl3 := lt_heap HS.out.a
 have hl5 := lt_heap HS.out.b
 have HRa := Lib.hid (range_whole HS.out.a)
 have HRb := Lib.hid (range_whole HS.out.b)
 have KT := Lib.hid (KO.out _ _ c3 c4 _ HE6.out HD6.out)
 clear KO
 go_upto_region 6 with (first
   | ((with_reducible refine gate_ld 59 (.tmp 3) rfl ?_); refine wl_ldr rfl 59 _ rfl g3 0 (ryC x (.slice q3 ne c3)) _ Tryz.underlying59 rfl (by rw [sizRy, ryC_len]) rfl HRa.out ?_)
   | ((with_reducible refine gate_ld 72 (.tmp 5) rfl ?_); refine wl_ldr rfl 72 _ rfl g5 0 (ryC x (.slice q4 ne c4)) _ Tryz.underlying72 rfl (by rw [sizRy26, ryC_len]) rfl HRb.out ?_)
   | (go_at_call 17; (refine KT.out.mono ?_); rintro e W6 ⟨rfl, hb2⟩; have HB6 := Lib.hid hb2; clear hb2))
 have HS2 := Lib.hid (HS.out.below HB6.out)
 have HE7 := Lib.hid (HE6.out.below HB6.out)
 clear KT HS HRa HRb hl3 hl5 HD6 HE6 HB6
 have HRa := Lib.hid (range_whole HS2.out.a)
 by_cases hk0 : k = 0
 · subst hk0
   have KB1 := Lib.hid (KB.out rfl q3 c3 W6 HS2.out.bel HE7.out)
   clear KB
   go_wp2_with (first
     | ((with_reducible refine gate_ld 59 (.tmp 3) rfl ?_); refine wl_ldr rfl 59 _ rfl g3 0 (ryC x (.slice q3 ne c3)) _ Tryz.underlying59 rfl (by rw [sizRy, ryC_len]) rfl HRa.out ?_)
     | (go_at_call 18; (refine KB1.out.mono ?_); rintro e W7 ⟨q2, c2, rfl, hs7, hb7⟩; have HS7 := Lib.hid hs7; have HB7 := Lib.hid (HS2.out.bel.trans (hb7.mono HS2.out.bel.size)); clear hs7 hb7)
     | (go_at_call 10; (refine (KK.out _ HB7.out).mono ?_); rintro e W8 ⟨rfl, hb8⟩; have HB8 := Lib.hid (HB7.out.trans (hb8.mono HB7.out.size)); have HS8 := Lib.hid (HS7.out.below hb8); clear hb8)
     | (go_at_call 12; (refine (KS.out _ _ _ HB8.out HS8.out).mono ?_); rintro e W9 ⟨rfl, hb9⟩; have HB9 := Lib.hid (HB8.out.trans (hb9.mono HB8.out.size)); clear hb9))
   go_ret
   exact ⟨rfl, HB9.out⟩
 · have hkI : ((k : Int) == 0) = false := by simp; omega
   have hkI' : ¬ (k : Int) = 0 := by omega
   have hkI2 : ((k : Int) != 0) = true := by simp; omega
   clear KB hk0
   go_wp2_with (first
     | (go_at_call 10; (refine (KK.out _ HS2.out.bel).mono ?_); rintro e W8 ⟨rfl, hb8⟩; have HB8 := Lib.hid (HS2.out.bel.trans (hb8.mono HS2.out.bel.size)); clear hb8))
   go_ret
   exact ⟨rfl, HB8.out⟩
end Go.Proofs.YtbfefdedjcppaaaGreatDoor
