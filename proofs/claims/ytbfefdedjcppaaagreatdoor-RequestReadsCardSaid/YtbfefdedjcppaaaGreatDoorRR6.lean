/- law 26: RequestReads: the walk. -/
import Derived.Test.YtbfefdedjcppaaaGreatDoorRI
import Derived.Test.YtbfefdedjcppaaaGreatDoorEL6
namespace Go.Proofs.YtbfefdedjcppaaaGreatDoor
open Go.RowKit Go.Deep

/-- What was read, by both sides. -/
theorem reads_both (l : List UInt8) (hl : l.length ≤ 1300) : ∃ (r : RqD) (k : Nat), readC l = rqC r ∧ dC l = docC r ∧ readE l = k ∧ dE l = k ∧ (k ≠ 0 → r = zeroQ) ∧
    (k = 0 → 0 ≤ r.verb ∧ 0 ≤ r.op.n0 ∧ bareQ r = r ∧ OkQ r ∧ r.op.text.size ≤ 1200 ∧ (wReq r).2 = 0 ∧ endW (wReq r) = l) := by
  have h1 := (reads_plain l).1
  by_cases he : readE l = 0
  · obtain ⟨r, h2, h3, h4⟩ := reads_back l hl he
    exact ⟨r, 0, h2, h3, he, h1 ▸ he, fun h => absurd rfl h, fun _ => h4⟩
  · refine ⟨zeroQ, readE l, ?_, ?_, rfl, h1.symm, fun _ => rfl, fun h => absurd h he⟩
    · unfold readC; rw [if_neg he, z59_rq]
    · unfold dC; rw [if_neg (h1 ▸ he), rdZ_doc]
theorem builtZ59 : Tryz.prog.built 36 [] = some z59.toArray := by kernel_rfl
theorem builtZq : Tryz.prog.built 36 [] = some (rqC zeroQ).toArray := by rw [builtZ59, z59_rq]
theorem neqZq (w : World) : (binOp .neq 36 (.agg (rqC zeroQ).toArray) (.agg (rqC zeroQ).toArray)).run Tryz.prog w = .ok (.bool false) w := by
  have := neqZ59 w
  rwa [z59_rq] at this
/-- The law's two variables. -/
structure RrSt (w W : World) (g5 g : Nat) (r : RqD) : Prop where
  bel : Below w.heap.size w W
  a : W.heap[g5]? = some (.cells (rqC r).toArray 36 (0, 0))
  b : W.heap[g]? = some (.cells (docC r).toArray 46 (0, 0))
theorem RrSt.below {w W W' : World} {g5 g : Nat} {r : RqD} (h : RrSt w W g5 g r) (hb : Below W.heap.size W W') : RrSt w W' g5 g r :=
  ⟨h.bel.trans (hb.mono h.bel.size), (hb.block _ (lt_heap h.a)).trans h.a, (hb.block _ (lt_heap h.b)).trans h.b⟩
set_option maxRecDepth 100000 in
set_option maxHeartbeats 8000000 in
theorem RequestReads_walkI (q : Option Addr) (n c : Nat) (l : List UInt8) (w : World) (h : RdOk w q n c l) (hmx : MX w) :
    Calls Tryz.prog 3 #[.slice q n c] w fun e w' => e = .returned (.bool true) ∧ Below w.heap.size w w' := by
  obtain ⟨m, hm, hml⟩ : ∃ m : Nat, min (n : Int) 1300 = (m : Int) ∧ m = min n 1300 := ⟨_, by omega, rfl⟩
  have hnc := h.nc
  have hcm := h.cm
  have hmc : ¬ (c : Int) < m := by omega
  have hmc' : m ≤ c := by omega
  have HR : Hid (RdOk w q m c (l.take m)) := ⟨by rw [List.length_take, h.ln]; omega, hmc', h.cm, slAt_take h.sl m, fun e => ⟨by have := (h.nil e).1; omega, (h.nil e).2⟩⟩
  have hl13 : (l.take m).length ≤ 1300 := by rw [List.length_take]; omega
  have hm13 : m ≤ 1300 := by omega
  obtain ⟨r, k, hr1, hr2, hr3, hr4, hr5, hr6⟩ := reads_both (l.take m) hl13
  generalize l.take m = l1 at *
  have KR : Hid (∀ W, Below w.heap.size w W → Calls Tryz.prog 7 #[.slice q m c] W fun e w' => e = .returned (.tuple #[.agg (rqC r).toArray, .int .i64 (k : Int)]) ∧ Below W.heap.size W w') := fun W hW => by
    have := read_any q m c l1 W HR.out.ln (HR.out.sl.below hW) HR.out.nil (by omega) (hmx.below hW)
    rw [hr1, hr3] at this; exact this
  have KD : Hid (∀ W, Below w.heap.size w W → Calls Tryz.prog 8 #[.slice q m c] W fun e w' => e = .returned (.tuple #[.agg (docC r).toArray, .int .i64 (k : Int)]) ∧ Below W.heap.size W w') := fun W hW => by
    have := refRead26_any q m c l1 W ⟨HR.out.ln, HR.out.nc, HR.out.cm, HR.out.sl.below hW, HR.out.nil⟩
    unfold RdQP at this
    rw [hr2, hr4] at this; exact this
  have KO : Hid (∀ W, Calls Tryz.prog 9 #[.agg (rqC r).toArray] W fun e w' => e = .returned (.agg (docC r).toArray) ∧ Below W.heap.size W w') := fun W => of26_any r W
  have KK : Hid (∀ W, Below w.heap.size w W → Calls Tryz.prog 10 #[] W fun e w' => e = .returned (.bool true) ∧ Below W.heap.size W w') := fun W hW => known26_any W (hmx.below hW)
  have KB : Hid (k = 0 → ∀ W, Below w.heap.size w W → Calls Tryz.prog 11 #[.agg (rqC r).toArray] W fun e w' => ∃ (q2 : Option Addr) (c2 : Nat), e = .returned (.tuple #[.slice q2 m c2, .int .i64 0]) ∧ SlAt byteC 1 w' q2 l1 ∧ Below W.heap.size W w') := fun hk W hW => by
    obtain ⟨f1, f2, f3, f4, f5, f6, f7⟩ := hr6 hk
    refine (bytes_any r W f1 f2 (by rw [f3]; exact f4) (by rw [f3]; exact f2) (by rw [f3]; exact f5) (hmx.below hW)).mono ?_
    rintro e w' ⟨v, rfl, ho, hb⟩
    rw [f3, f7] at ho
    rw [f3, f6]
    obtain ⟨q2, c2, rfl⟩ := ho.slice
    exact ⟨q2, c2, by rw [HR.out.ln]; rfl, ho.slat byteC_len, hb⟩
  have KS : Hid (∀ (q2 : Option Addr) (c2 : Nat) (W : World), Below w.heap.size w W → SlAt byteC 1 W q2 l1 → Calls Tryz.prog 12 #[.slice q m c, .slice q2 m c2] W fun e w' => e = .returned (.bool true) ∧ Below W.heap.size W w') := fun q2 c2 W hW hs => sameSelf_any q q2 m c c2 l1 W HR.out.ln (HR.out.sl.below hW) hs (by omega)
  clear hr1 hr2 hr3 hr4 hr6 hmx h hl13 hml
  have HZ5 := Lib.hid hr5
  have HB0 : Hid (Below w.heap.size w w) := Below.refl _ _
  clear hr5 HR
  go_enter Tryz.func3, Tryz.ntmps3
  go_upto_region 3 with (first
    | (go_at_call 7; (refine (KR.out _ (Below.refl _ _)).mono ?_); rintro e W2 ⟨rfl, hb2⟩; have HB2 := Lib.hid hb2; clear hb2)
    | ((with_reducible refine gate_st 36 _ _ rfl ?_); refine wl_strn rfl _ _ _ rfl (rqC r).toArray #[Value.int IntKind.i64 0, Value.int IntKind.i64 0, Value.int IntKind.i64 0, Value.int IntKind.i64 0, Value.int IntKind.i64 0, Value.int IntKind.i64 0, Value.int IntKind.i64 0, Value.int IntKind.i64 0, Value.int IntKind.i64 0, Value.int IntKind.i64 0, Value.int IntKind.u8 0, Value.int IntKind.u8 0, Value.int IntKind.u8 0, Value.int IntKind.u8 0, Value.int IntKind.u8 0, Value.int IntKind.u8 0, Value.int IntKind.u8 0, Value.int IntKind.u8 0, Value.int IntKind.u8 0, Value.int IntKind.u8 0, Value.int IntKind.u8 0, Value.int IntKind.u8 0, Value.int IntKind.u8 0, Value.int IntKind.u8 0, Value.int IntKind.u8 0, Value.int IntKind.u8 0, Value.int IntKind.u8 0, Value.int IntKind.u8 0, Value.int IntKind.u8 0, Value.int IntKind.u8 0, Value.int IntKind.u8 0, Value.int IntKind.u8 0, Value.string ⟨#[]⟩, Value.int IntKind.u8 0, Value.int IntKind.u8 0, Value.int IntKind.u8 0, Value.int IntKind.u8 0, Value.int IntKind.u8 0, Value.int IntKind.u8 0, Value.int IntKind.u8 0, Value.int IntKind.u8 0, Value.int IntKind.u8 0, Value.int IntKind.u8 0, Value.int IntKind.u8 0, Value.int IntKind.u8 0, Value.int IntKind.u8 0, Value.int IntKind.u8 0, Value.int IntKind.u8 0, Value.int IntKind.u8 0, Value.int IntKind.u8 0, Value.int IntKind.u8 0, Value.int IntKind.u8 0, Value.int IntKind.u8 0, Value.int IntKind.u8 0, Value.int IntKind.u8 0, Value.int IntKind.u8 0, Value.int IntKind.u8 0, Value.int IntKind.u8 0, Value.int IntKind.i64 0] _ (by rw [sizRq, List.size_toArray, rqC_len]) (by rw [List.size_toArray, rqC_len]; rfl) (by rw [← Array.all_toList]; exact rqC_one _) (by simp [Act.eval]) rfl ?_))
  have HA5 : Hid ((W2.alloc (.cells (rqC r).toArray 36)).heap[W2.heap.size]? = some (.cells (rqC r).toArray 36 (0, 0))) := heap_alloc_new _ _
  have HB5 := Lib.hid (HB2.out.alloc HB2.out.size (.cells (rqC r).toArray 36))
  generalize W2.alloc (.cells (rqC r).toArray 36) = W3 at *
  generalize W2.heap.size = g3 at *
  clear HB2
  go_upto_region 4 with (first
    | (go_at_call 8; (refine (KD.out _ HB5.out).mono ?_); rintro e W4 ⟨rfl, hb2⟩; have HB4 := Lib.hid hb2; clear hb2)
    | ((with_reducible refine gate_st 46 _ _ rfl ?_); refine wl_strn rfl _ _ _ rfl (docC r).toArray #[Value.int IntKind.i64 0, Value.int IntKind.i64 0, Value.int IntKind.i64 0, Value.int IntKind.i64 0, Value.int IntKind.i64 0, Value.int IntKind.i64 0, Value.int IntKind.i64 0, Value.int IntKind.i64 0, Value.int IntKind.i64 0, Value.int IntKind.i64 0, Value.int IntKind.u8 0, Value.int IntKind.u8 0, Value.int IntKind.u8 0, Value.int IntKind.u8 0, Value.int IntKind.u8 0, Value.int IntKind.u8 0, Value.int IntKind.u8 0, Value.int IntKind.u8 0, Value.int IntKind.u8 0, Value.int IntKind.u8 0, Value.int IntKind.u8 0, Value.int IntKind.u8 0, Value.int IntKind.u8 0, Value.int IntKind.u8 0, Value.int IntKind.u8 0, Value.int IntKind.u8 0, Value.int IntKind.u8 0, Value.int IntKind.u8 0, Value.int IntKind.u8 0, Value.int IntKind.u8 0, Value.int IntKind.u8 0, Value.int IntKind.u8 0, Value.string ⟨#[]⟩, Value.int IntKind.i64 0, Value.int IntKind.i64 0, Value.int IntKind.i64 0, Value.int IntKind.u8 0, Value.int IntKind.u8 0, Value.int IntKind.u8 0, Value.int IntKind.u8 0, Value.int IntKind.u8 0, Value.int IntKind.u8 0, Value.int IntKind.u8 0, Value.int IntKind.u8 0, Value.int IntKind.u8 0, Value.int IntKind.u8 0, Value.int IntKind.u8 0, Value.int IntKind.u8 0, Value.int IntKind.u8 0, Value.int IntKind.u8 0, Value.int IntKind.u8 0, Value.int IntKind.u8 0, Value.int IntKind.u8 0, Value.int IntKind.u8 0, Value.int IntKind.u8 0, Value.int IntKind.u8 0, Value.int IntKind.u8 0, Value.int IntKind.u8 0, Value.int IntKind.i64 0] _ (by rw [sizRD, List.size_toArray, docC_len]) (by rw [List.size_toArray, docC_len]; rfl) (by rw [← Array.all_toList]; exact docC_one _) (by simp [Act.eval]) rfl ?_))
  have HB6 := Lib.hid (HB5.out.trans (HB4.out.mono HB5.out.size))
  have HS : Hid (RrSt w (W4.alloc (.cells (docC r).toArray 46)) g3 W4.heap.size r) := ⟨HB6.out.alloc HB6.out.size _, (by
    have h1 := (HB4.out.block _ (lt_heap HA5.out)).trans HA5.out
    exact (heap_alloc_old _ _ (lt_heap h1)).trans h1), heap_alloc_new _ _⟩
  generalize W4.alloc (.cells (docC r).toArray 46) = W5 at *
  generalize W4.heap.size = g5 at *
  clear HB4 HB5 HB6 HA5 KR KD
  have hl3 := lt_heap HS.out.a
  have hl5 := lt_heap HS.out.b
  have HRa := Lib.hid (range_whole HS.out.a)
  have HRb := Lib.hid (range_whole HS.out.b)
  by_cases hk0 : k = 0
  · subst hk0
    have HKB := Lib.hid (KB.out rfl)
    clear KB HZ5
    refine wp_region_quiet_below (by kernel_rfl) (by kernel_rfl) ?_
    repeat (first
      | go_big_quiet_skip
      | (refine wq_ldr rfl 36 (.tmp 3) rfl g3 0 (rqC r) _ Tryz.underlying36 rfl (by rw [sizRq, rqC_len]) rfl HRa.out hl3 ?_; simp only [Act.put, List.setIfInBounds_toArray, List.set_cons_zero, List.set_cons_succ])
      | (refine wq_ldr rfl 46 (.tmp 5) rfl g5 0 (docC r) _ Tryz.underlying46 rfl (by rw [sizRD, docC_len]) rfl HRb.out hl5 ?_; simp only [Act.put, List.setIfInBounds_toArray, List.set_cons_zero, List.set_cons_succ])
      | (refine wq_val (.bool false) rfl (fun w' => exec_neqG w' 46 (.tmp 32) (.tmp 33) rfl (docC r).toArray (docC r).toArray false rfl rfl (run_eqGuard_agg _ .neq 46 _ _ _ _ (by kernel_rfl)) (neqDoc w' r)) ?_; simp only [Act.put, List.setIfInBounds_toArray, List.set_cons_zero, List.set_cons_succ])
      | go_big_quiet_step (with_reducible exact rg_call KO.out _ _))
    refine wpQuiet_nil ?_
    rintro _ ⟨⟨dq, osq⟩, rfl⟩
    have HS2 := Lib.hid (HS.out.below (below_regrown W5 dq osq))
    generalize Sort.grow (redrawn W5 dq) osq = W6 at *
    clear HS HRa HRb hl3 hl5 KO
    have HRa := Lib.hid (range_whole HS2.out.a)
    have KB1 := Lib.hid (HKB.out W6 HS2.out.bel)
    go_wp2_with (first
      | ((with_reducible refine gate_ld 36 (.tmp 3) rfl ?_); refine wl_ldr rfl 36 _ rfl g3 0 (rqC r) _ Tryz.underlying36 rfl (by rw [sizRq, rqC_len]) rfl HRa.out ?_)
      | (go_at_call 11; (refine KB1.out.mono ?_); rintro e W7 ⟨q2, c2, rfl, hs7, hb7⟩; have HS7 := Lib.hid hs7; have HB7 := Lib.hid (HS2.out.bel.trans (hb7.mono HS2.out.bel.size)); clear hs7 hb7)
      | (go_at_call 10; (refine (KK.out _ HB7.out).mono ?_); rintro e W8 ⟨rfl, hb8⟩; have HB8 := Lib.hid (HB7.out.trans (hb8.mono HB7.out.size)); have HS8 := Lib.hid (HS7.out.below hb8); clear hb8)
      | (go_at_call 12; (refine (KS.out _ _ _ HB8.out HS8.out).mono ?_); rintro e W9 ⟨rfl, hb9⟩; have HB9 := Lib.hid (HB8.out.trans (hb9.mono HB8.out.size)); clear hb9))
    go_ret
    exact ⟨rfl, HB9.out⟩
  · obtain rfl : r = zeroQ := HZ5.out hk0
    have hkI : ((k : Int) == 0) = false := by simp; omega
    have hkI' : ¬ (k : Int) = 0 := by omega
    have hkI2 : ((k : Int) != 0) = true := by simp; omega
    clear KB HZ5 KO hk0
    refine wp_region_quiet_below (by kernel_rfl) (by kernel_rfl) ?_
    repeat (first
      | go_big_quiet_skip
      | (refine wq_ldr rfl 36 (.tmp 3) rfl g3 0 (rqC zeroQ) _ Tryz.underlying36 rfl (by rw [sizRq, rqC_len]) rfl HRa.out hl3 ?_; simp only [Act.put, List.setIfInBounds_toArray, List.set_cons_zero, List.set_cons_succ])
      | (refine wq_bd _ rfl 36 [] rfl [] rfl (rqC zeroQ).toArray builtZq ?_; simp only [Act.put, List.setIfInBounds_toArray, List.set_cons_zero, List.set_cons_succ])
      | (refine wq_val (.bool false) rfl (fun w' => exec_neqG w' 36 (.tmp 41) (.tmp 42) rfl (rqC zeroQ).toArray (rqC zeroQ).toArray false rfl rfl (run_eqGuard_agg _ .neq 36 _ _ _ _ (by kernel_rfl)) (neqZq w')) ?_; simp only [Act.put, List.setIfInBounds_toArray, List.set_cons_zero, List.set_cons_succ])
      | go_big_quiet_step (fail))
    refine wpQuiet_nil ?_
    rintro _ ⟨⟨dq, osq⟩, rfl⟩
    have HS2 := Lib.hid (HS.out.below (below_regrown W5 dq osq))
    generalize Sort.grow (redrawn W5 dq) osq = W6 at *
    clear HS HRa HRb hl3 hl5
    go_wp2_with (first
      | (go_at_call 10; (refine (KK.out _ HS2.out.bel).mono ?_); rintro e W8 ⟨rfl, hb8⟩; have HB8 := Lib.hid (HS2.out.bel.trans (hb8.mono HS2.out.bel.size)); clear hb8))
    go_ret
    exact ⟨rfl, HB8.out⟩
end Go.Proofs.YtbfefdedjcppaaaGreatDoor
