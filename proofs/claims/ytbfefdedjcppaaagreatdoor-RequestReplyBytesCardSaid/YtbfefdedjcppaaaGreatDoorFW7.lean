/- vulgateref03.Write: fields with room enough. -/
import Derived.Test.YtbfefdedjcppaaaGreatDoorFC7
namespace Go.Proofs.YtbfefdedjcppaaaGreatDoor
set_option maxRecDepth 100000
set_option maxHeartbeats 8000000
open Go.RowKit
def fdsB (l : List Fd) : List UInt8 := l.flatMap fdB
theorem fdsB_take {l : List Fd} {k : Nat} (h : k < l.length) : fdsB (l.take (k + 1)) = fdsB (l.take k) ++ fdB l[k] := by
 unfold fdsB
 rw [List.take_succ_eq_append_getElem h, List.flatMap_append]; simp
theorem fdsB_part {l : List Fd} {k : Nat} (h : k < l.length) : (fdsB (l.take k)).length + (fdB l[k]).length ≤ (fdsB l).length := by
 have e : l = l.take k ++ (l[k] :: l.drop (k + 1)) := by rw [← List.drop_eq_getElem_cons h, List.take_append_drop]
 have e2 : fdsB l = fdsB (l.take k) ++ (fdB l[k] ++ fdsB (l.drop (k + 1))) := by
   conv => lhs; rw [e]
   unfold fdsB
   rw [List.flatMap_append, List.flatMap_cons]
 rw [e2, List.length_append, List.length_append]; omega
theorem exec_ixF {o : Oper} {a : Act} {w : World} (x y : Operand) (ho : o.op = .indexAddr 146 x y) (b f : Nat) (n c j : Nat) (hx : a.eval x = .slice (some ⟨b, f, none⟩) n c) (hy : a.eval y = .int .i64 (j : Int)) (hj : j < n) : (execOp a.eval o).run Tryz.prog w = .ok (.value (.pointer (some ⟨b, f + j * 3, none⟩))) w := by
 have hq := sizFld
 cases hq2 : Tryz.prog.info? 134 with
 | none => simp [hq2] at hq
 | some i =>
   have hs : i.size = 3 := by simpa [hq2] using hq
   unfold execOp
   simp only [ho, hx, hy]
   simp [go_sem, Tryz.underlying146, sizeOf, typeInfo, hq2, hs, hj]
theorem fld_any (x : Fd) (h : OkF x) (W : World) : Calls Tryz.prog 115 #[.agg (fdC x).toArray] W fun e w' => ∃ v, e = .returned v ∧ OwnE byteC 5 1 w' W.heap.size v (fdB x) ∧ Below W.heap.size W w' := by
 obtain ⟨k, n, s⟩ := x
 obtain ⟨hk, hn, hs⟩ := h
 have hk : k = 0 ∨ k = 3 ∨ k = 4 := hk
 rcases hk with rfl | rfl | rfl
 · exact fldB0_any n s W hn
 · exact fldB3_any n s W hn
 · exact fldB4_any n s W hs
theorem write03_any (q : Option Addr) (n c : Nat) (l : List Fd) (w : World) (hn : l.length = n) (hq : SlAt fdC 3 w q l) (hok : ∀ x ∈ l, OkF x) (hsz : (fdsB l).length ≤ 4096) (hn2 : n ≤ 100000) :
   Calls Tryz.prog 68 #[.slice q n c, .int .i64 4096] w fun e w' => ∃ v, e = .returned (.tuple #[v, .int .i64 0]) ∧ OwnE byteC 5 1 w' w.heap.size v (fdsB l) ∧ Below w.heap.size w w' := by
 have HQ := Lib.hid hq
 have HOK := Lib.hid hok
 have HL := Lib.hid hsz
 have HN := Lib.hid hn
 clear hq hok hsz hn
 go_enter Tryz.func68, Tryz.ntmps68
 go_upto_region 5 with fail
 go_loopw [7, 6, 8] (fun i u bb wr => ∃ k : Nat, k ≤ n ∧ i = .int .i64 (k : Int) ∧ Hid (OwnE byteC 5 1 wr w.heap.size u (fdsB (l.take k))) ∧ Hid (Below w.heap.size w wr)) (fun i _ _ _ => n - (intOf i).toNat)
 case atStart => exact ⟨0, Nat.zero_le _, rfl, OwnE.nil _ _, Below.refl _ _⟩
 case round =>
   obtain ⟨k, hk, rfl, HO, HB⟩ := hrel
   by_cases hlt : k < n
   · have hlt' : (k : Int) < (n : Int) := by omega
     have hle : k < l.length := by rw [HN.out]; exact hlt
     obtain ⟨b0, o0, rfl, hb0, hr0⟩ := (HQ.out.below HB.out) k hle
     have HR := Lib.hid hr0
     have HT := Lib.hid (fdsB_take hle)
     have hp := fdsB_part hle
     have hL := HL.out
     have KE : Hid (∀ W, Calls Tryz.prog 115 #[.agg (fdC l[k]).toArray] W fun e w' => ∃ v, e = .returned v ∧ OwnE byteC 5 1 w' W.heap.size v (fdB l[k]) ∧ Below W.heap.size W w') := fun W => fld_any _ (HOK.out _ (List.getElem_mem hle)) W
     clear hr0
     generalize l[k] = x0 at *
     generalize fdsB (l.take k) = xs0 at *
     obtain ⟨q1, c1, rfl⟩ := HO.out.slice
     have hsub : IntKind.i64.wrap ((4096 : Int) - (xs0.length : Int)) = ((4096 - xs0.length : Nat) : Int) := by simp [IntKind.wrap, IntKind.bits, IntKind.signed]; omega
     generalize hys : fdB x0 = ys at *
     have hgt : ¬ ((4096 - xs0.length : Nat) : Int) < (ys.length : Int) := by omega
     go_upto_region 8 with (first
       | ((with_reducible refine gate_op (.indexAddr 146 (.tmp 17) (.tmp 18)) rfl ?_); refine wl_val rfl (.pointer (some ⟨b0, o0 + k * 3, none⟩)) (exec_ixF (.tmp 17) (.tmp 18) rfl b0 o0 n c k rfl rfl hlt) ?_)
       | ((with_reducible refine gate_ld 134 _ rfl ?_); refine wl_ldr rfl 134 _ rfl b0 (o0 + k * 3) (fdC x0) _ Tryz.underlying134 rfl (by rw [sizFld]; rfl) rfl HR.out ?_)
       | (go_at_call 115; (refine (KE.out _).mono ?_); rintro e W2 ⟨v, rfl, ho, hb⟩; have HO2 := Lib.hid ho; have HB2 := Lib.hid hb; clear ho hb))
     obtain ⟨q2, c2, rfl⟩ := HO2.out.slice
     have HOb := Lib.hid (HO.out.below HB2.out)
     have HBb := Lib.hid (HB.out.trans (HB2.out.mono HB.out.size))
     have HS2 := Lib.hid (HO2.out.slat byteC_len)
     have HC2 : Hid (q2 = none → c2 = 0) := fun h => HO2.out.none_cap h
     go_upto_region 6 with (at_builtin; (refine wl_appO rfl 22 5 1 (.int .u8 0) Tryz.underlying22 infoU8 rfl (by omega) byteC_len byteC_one (.tmp 29) (.tmp 30) rfl w.heap.size (.slice q1 xs0.length c1) xs0 rfl HOb.out q2 ys.length c2 ys rfl rfl HS2.out HC2.out (by omega) (by unfold maxLen; omega) (HBb.out.size) ?_); intro v3 w3 h1 h2 h3; have HO3 := Lib.hid h1; have HB3 : Hid (Below w.heap.size w w3) := HBb.out.trans (grown_below h2 (fun g hg => (HOb.out.lt g hg).1) HBb.out.size); clear h1 h2 h3)
     go_wp2_with fail
     go_roundw
     case rel => exact ⟨k + 1, by omega, by simp, by rw [HT.out]; exact HO3.out, HB3.out⟩
     case measure => simp [intOf]; omega
   · obtain rfl : k = n := by omega
     have hlt2 : ¬ (k : Int) < (k : Int) := by omega
     go_wp2_with fail
     refine bodyPost_ret (results_tmp2 rfl _ _ _) rfl ?_
     exact ⟨_, rfl, by have h := HO.out; rwa [List.take_of_length_le (by rw [HN.out]; exact Nat.le_refl _)] at h, HB.out⟩
end Go.Proofs.YtbfefdedjcppaaaGreatDoor
