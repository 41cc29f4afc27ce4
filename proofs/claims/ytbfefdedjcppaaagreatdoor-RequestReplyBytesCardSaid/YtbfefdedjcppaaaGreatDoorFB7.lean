/- A document's fields: one, text, tagged. -/
import Derived.Test.YtbfefdedjcppaaaGreatDoorDK6
import Derived.Test.YtbfefdedjcppaaaGreatDoorRF
namespace Go.Proofs.YtbfefdedjcppaaaGreatDoor
set_option maxRecDepth 100000
set_option maxHeartbeats 4000000
open Go.RowKit
structure Fd where
 k : Nat
 n : Nat
 s : ByteArray
def fdC (x : Fd) : List Value := [.int .i64 (x.k : Int), .int .u64 (x.n : Int), .string x.s]
theorem fdC_len (x : Fd) : (fdC x).length = 3 := rfl
theorem fdC_one (x : Fd) : (fdC x).all (·.oneCell') = true := rfl
theorem wrap_u64n {n : Nat} (h : n < 2 ^ 64) : IntKind.u64.wrap (n : Int) = (n : Int) := by
 simp [IntKind.wrap, IntKind.bits, IntKind.signed]; omega
theorem bldF0 (n : Nat) : Tryz.prog.built 134 [(0, .int .i64 0), (1, .int .u64 (n : Int))] = some (fdC ⟨0, n, ⟨#[]⟩⟩).toArray := by kernel_rfl
theorem bldF3 (n : Nat) : Tryz.prog.built 134 [(0, .int .i64 3), (1, .int .u64 (n : Int))] = some (fdC ⟨3, n, ⟨#[]⟩⟩).toArray := by kernel_rfl
theorem bldF4 (s : ByteArray) : Tryz.prog.built 134 [(0, .int .i64 4), (2, .string s)] = some (fdC ⟨4, 0, s⟩).toArray := by kernel_rfl
theorem one_any (n : Nat) (w : World) (hn : n < 2 ^ 63) : Calls Tryz.prog 65 #[.int .i64 (n : Int)] w fun e w' => e = .returned (.agg (fdC ⟨0, n, ⟨#[]⟩⟩).toArray) ∧ Below w.heap.size w w' := by
 have hw : IntKind.u64.wrap (n : Int) = (n : Int) := wrap_u64n (by omega)
 go_enter Tryz.func65, Tryz.ntmps65
 go_wp2_with (first
   | ((with_reducible refine gate_bd 134 _ rfl ?_); refine wl_bd rfl _ [(0, .const (.int .i64 0)), (1, .tmp 4)] rfl [(0, .int .i64 0), (1, .int .u64 (n : Int))] rfl (fdC ⟨0, n, ⟨#[]⟩⟩).toArray (bldF0 n) ?_)
   | ((with_reducible refine gate_st 134 _ _ rfl ?_); refine wl_strn rfl 134 _ _ rfl (fdC ⟨0, n, ⟨#[]⟩⟩).toArray #[Value.int .i64 0, Value.int .u64 0, Value.string ⟨#[]⟩] _ (by rw [sizFld]; rfl) rfl (by rw [← Array.all_toList]; rfl) (by first | rfl | simp [Act.eval, Act.put]) rfl ?_))
 refine bodyPost_ret (res_rowc (P := Tryz.prog) (T := 134) (T' := 134) rfl _ _ w.heap.size (fdC ⟨0, n, ⟨#[]⟩⟩).toArray (0, 0) rfl (heap_alloc_new _ _) Tryz.underlying134 rfl (by rw [sizFld]; rfl)) rfl ⟨rfl, below_alloc1 _ _⟩
theorem text26_any (s : ByteArray) (w : World) : Calls Tryz.prog 66 #[.string s] w fun e w' => e = .returned (.agg (fdC ⟨4, 0, s⟩).toArray) ∧ Below w.heap.size w w' := by
 go_enter Tryz.func66, Tryz.ntmps66
 go_wp2_with (first
   | ((with_reducible refine gate_bd 134 _ rfl ?_); refine wl_bd rfl _ [(0, .const (.int .i64 4)), (2, .tmp 3)] rfl [(0, .int .i64 4), (2, .string s)] rfl (fdC ⟨4, 0, s⟩).toArray (bldF4 s) ?_)
   | ((with_reducible refine gate_st 134 _ _ rfl ?_); refine wl_strn rfl 134 _ _ rfl (fdC ⟨4, 0, s⟩).toArray #[Value.int .i64 0, Value.int .u64 0, Value.string ⟨#[]⟩] _ (by rw [sizFld]; rfl) rfl (by rw [← Array.all_toList]; rfl) (by first | rfl | simp [Act.eval, Act.put]) rfl ?_))
 refine bodyPost_ret (res_rowc (P := Tryz.prog) (T := 134) (T' := 134) rfl _ _ w.heap.size (fdC ⟨4, 0, s⟩).toArray (0, 0) rfl (heap_alloc_new _ _) Tryz.underlying134 rfl (by rw [sizFld]; rfl)) rfl ⟨rfl, below_alloc1 _ _⟩
def tgT (b : List UInt8) : List UInt8 := if rightT b = true then plainL b else []
theorem text5_plain {b : List UInt8} (hb : b.length = 10) (h : oB b = true) : text5 (oR b) = plainL b := by
 have hl := lang_empty hb h
 unfold oB at h
 unfold oR at hl ⊢
 cases ho : ofT b with
 | none => rw [ho] at h; cases h
 | some t =>
   have ht := of_some hb ho
   rw [ho] at hl
   subst ht
   have hl2 : (fT b).lang.isEmpty = decide (b = z10k) := hl
   show text5 (fT b) = _
   unfold text5 plainL
   by_cases hz : b = z10k
   · rw [decide_eq_true hz, List.isEmpty_iff] at hl2
     rw [if_pos hl2, if_pos (show b = tag0 from hz)]
   · rw [decide_eq_false hz] at hl2
     rw [if_neg (fun e => by rw [e] at hl2; cases hl2), if_neg (show ¬ b = tag0 from hz)]
theorem tgT_pos {b : List UInt8} (hb : b.length = 10) (h : rightT b = true) : tgT b ≠ [] := by
 unfold tgT
 rw [if_pos h]
 unfold plainL
 split
 · decide
 · rename_i h0
   rw [right_of hb] at h
   have hl := lang_empty hb h
   intro e
   unfold textT at e
   have e1 : (fT b).lang = [] := (List.append_eq_nil_iff.1 (List.append_eq_nil_iff.1 e).1).1
   cases ho : ofT b with
   | none => rw [ho] at h; cases h
   | some t =>
     have ht := of_some hb ho
     subst ht
     have hl2 : (fT b).lang.isEmpty = decide (b = z10k) := by unfold oR at hl; rw [ho] at hl; exact hl
     rw [e1] at hl2
     exact h0 (of_decide_eq_true hl2.symm)
theorem oR_small {b : List UInt8} (hb : b.length = 10) : (oR b).lang.length ≤ 32 ∧ (oR b).script.length ≤ 32 ∧ (oR b).region.length ≤ 32 := by
 unfold oR
 cases ho : ofT b with
 | none => exact ⟨Nat.zero_le _, Nat.zero_le _, Nat.zero_le _⟩
 | some t =>
   have ht := of_some hb ho
   subst ht
   have := fT_small hb
   exact ⟨by show (fT b).lang.length ≤ _; omega, by show (fT b).script.length ≤ _; omega, by show (fT b).region.length ≤ _; omega⟩
theorem tagged_any (b : List UInt8) (w : World) (hb : b.length = 10) : Calls Tryz.prog 64 #[.agg (bC b)] w fun e w' => e = .returned (.string ⟨(tgT b).toArray⟩) ∧ Below w.heap.size w w' := by
 have KO : Hid (∀ W, Calls Tryz.prog 114 #[.agg (bC b)] W fun e w' => e = .returned (.tuple #[.agg (tC (oR b)), .bool (oB b)]) ∧ Below W.heap.size W w') := fun W => refOf5_any b W hb
 have KT : Hid (∀ W, Calls Tryz.prog 103 #[.agg (tC (oR b))] W fun e w' => e = .returned (.string ⟨(text5 (oR b)).toArray⟩) ∧ Below W.heap.size W w') := fun W => by
   obtain ⟨h1, h2, h3⟩ := oR_small hb
   exact text_any5 _ W h1 h2 h3
 have hrB : rightT b = oB b := right_of hb
 have HG := Lib.hid (heap_alloc_new w (.cells (bC b) 40))
 have HB := Lib.hid (below_alloc1 w (.cells (bC b) 40))
 have HL := Lib.hid hb
 have HLl : Hid ((bC b).toList.length = 10) := by show _ = _; simp [bC, hb]
 have HP : Hid (oB b = true → text5 (oR b) = plainL b) := fun h => text5_plain hb h
 have HT : Hid (tgT b = if oB b = true then plainL b else []) := by show _ = _; unfold tgT; rw [hrB]
 clear hb hrB
 go_enter Tryz.func64, Tryz.ntmps64
 go_upto_region 1 with fail
 generalize w.alloc (.cells (bC b) 40) = W1 at *
 go_upto_region 2 with (first
   | ((with_reducible refine gate_ld 40 _ rfl ?_); refine wl_ldr rfl 40 _ rfl w.heap.size 0 (bC b).toList _ Tryz.underlying40 rfl (by rw [siz10A, HLl.out]) rfl (range_whole HG.out) ?_)
   | (go_at_call 114; (refine (KO.out _).mono ?_); rintro e W5 ⟨rfl, hb5⟩; have HB5 := Lib.hid (HB.out.trans ((hb5.trans ((below_alloc1 W5 (.cells (tC (oR b)) 181)).mono hb5.size)).mono HB.out.size)); have HGt : Hid ((W5.alloc (.cells (tC (oR b)) 181)).heap[W5.heap.size]? = some (.cells (tC (oR b)) 181 (0, 0))) := heap_alloc_new _ _; clear hb5)
   | ((with_reducible refine gate_st 181 _ _ rfl ?_); refine wl_strn rfl _ _ _ rfl (tC (oR b)) #[Value.string ⟨#[]⟩, Value.string ⟨#[]⟩, Value.string ⟨#[]⟩] _ (by kernel_rfl) rfl (tC_one _) (by simp [Act.eval]) rfl ?_))
 generalize W5.alloc (.cells (tC (oR b)) 181) = W6 at *
 generalize W5.heap.size = g at *
 cases ho : oB b with
 | true =>
   go_wp2_with (first
     | ((with_reducible refine gate_ld 181 _ rfl ?_); refine wl_ldr rfl 181 _ rfl g 0 (tC (oR b)).toList _ Tryz.underlying181 rfl (by rw [siz23]; rfl) rfl (range_whole HGt.out) ?_)
     | (go_at_call 103; (refine (KT.out _).mono ?_); rintro e W7 ⟨rfl, hb⟩; have HB7 := Lib.hid (HB5.out.trans (hb.mono HB5.out.size)); clear hb))
   go_ret
   exact ⟨by rw [HT.out, if_pos ho, HP.out ho]; rfl, HB7.out⟩
 | false =>
   go_wp2_with fail
   go_ret
   exact ⟨by rw [HT.out, if_neg (by rw [ho]; decide)]; rfl, HB5.out⟩
end Go.Proofs.YtbfefdedjcppaaaGreatDoor
