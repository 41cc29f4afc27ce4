/- request.Parse's closures, and event's first: a text, a number. -/
import Derived.Test.YtbfefdedjcppaaaGreatDoorKG6
namespace Go.Proofs.YtbfefdedjcppaaaGreatDoor
set_option maxRecDepth 100000
set_option maxHeartbeats 4000000
open Go.RowKit
theorem numV_le (most : Nat) (l : List UInt8) : numV most l ≤ most := by
 unfold numV numE
 by_cases h1 : (readS l).2.2 ≠ 0
 · rw [if_pos h1, if_neg h1]; omega
 · rw [if_neg h1]
   by_cases h2 : most < (readS l).1
   · rw [if_pos h2, if_neg (by decide)]; omega
   · rw [if_neg h2, if_pos rfl]; omega
theorem siz60n : (Tryz.prog.info? 60).map (·.size) = some 1 := by kernel_rfl
theorem ptext1_any (br bf bt b4 : Nat) (cs : List Value) (T : TypeId) (l : List UInt8) (w : World) (h : FAt w br bf l 0 0) (hb : BoxIs w b4 (.pointer (some ⟨bf, 0, none⟩)) 84)
   (ht : w.heap[bt]? = some (.cells cs.toArray T (0, 0))) (hlen : 1 + 1 ≤ cs.length) (hbt : br < bt ∧ bt ≠ bf) :
   Calls Tryz.prog 47 #[.pointer (some ⟨b4, 0, none⟩), .pointer (some ⟨bt, 0, none⟩)] w
     (Reads br bf [br, bf, bt] (l.drop (textN 1200 l)) (textE 1200 l) 0 (fun w' => w'.heap[bt]? = some (.cells (RowIn cs 1 [.string ⟨(textS 1200 l).toArray⟩]).toArray T (0, 0))) w) := by
 unfold BoxIs at hb
 have hbx := (cell1 hb).1
 have hfx := (cell2 h.at_).1
 have HF := Lib.hid h
 have HT := Lib.hid ht
 have HL := Lib.hid hlen
 have HBT := Lib.hid hbt
 have KB : Hid (Calls Tryz.prog 48 #[.pointer (some ⟨br, 0, none⟩), .int .i64 1200] w (ReadP (br + 1) br l (textN 1200 l) (textE 1200 l) (.string ⟨(textS 1200 l).toArray⟩) w)) := rtext_any (br + 1) br l 1200 (by omega) w h.rd
 clear h hb ht hlen hbt
 go_enter Tryz.func47, Tryz.ntmps47
 go_wp2_with (first
   | (go_at_call 48; (refine KB.out.mono ?_); rintro e w1 ⟨rfl, hr1, ht1⟩; have HR1 := Lib.hid hr1; have HT1 := Lib.hid ht1; have HC1 : Hid (w1.heap[bt]? = some (.cells cs.toArray T (0, 0))) := (ht1.block bt (lt_heap HT.out) (by have := HBT.out.1; simp; omega)).trans HT.out; clear hr1 ht1)
   | ((with_reducible refine gate_st 9 _ _ rfl ?_); refine wl_st1G rfl 9 siz9n _ _ rfl bt 1 (.string ⟨(textS 1200 l).toArray⟩) rfl rfl rfl cs (RowIn cs 1 [.string ⟨(textS 1200 l).toArray⟩]) T HC1.out HL.out rfl (fun w2 h1 h2 => ?_); have HC2 := Lib.hid h1; have HT2 := Lib.hid h2; clear h1 h2; try simp only [Act.put]))
 go_ret
 have hbf := HF.out.lt
 have hbr := HBT.out
 have hle := HF.out.rd.le
 refine ⟨rfl, ⟨HR1.out.below (HT2.out.below (fun k hk => by simp at hk; omega) (Nat.le_trans hle HT1.out.size)), hbf, ?_⟩, ?_, HC2.out⟩
 · exact (HT2.out.block bf (Nat.lt_of_lt_of_le (lt_heap HF.out.at_) HT1.out.size) (by simp; omega)).trans ((HT1.out.block bf (lt_heap HF.out.at_) (by simp; omega)).trans HF.out.at_)
 · exact (HT1.out.mono (fun k _ hk => by simp at hk; simp [hk])).trans (HT2.out.mono (fun k _ hk => by simp at hk; simp [hk]))
theorem pnum2_any (br bf bt b4 : Nat) (cs : List Value) (T : TypeId) (l : List UInt8) (w : World) (h : FAt w br bf l 0 0) (hb : BoxIs w b4 (.pointer (some ⟨bf, 0, none⟩)) 84)
   (ht : w.heap[bt]? = some (.cells cs.toArray T (0, 0))) (hlen : 13 + 1 ≤ cs.length) (hbt : br < bt ∧ bt ≠ bf) :
   Calls Tryz.prog 50 #[.pointer (some ⟨b4, 0, none⟩), .pointer (some ⟨bt, 0, none⟩)] w
     (Reads br bf [br, bf, bt] (l.drop (numK 4294967295 l)) (numE 4294967295 l) 0 (fun w' => w'.heap[bt]? = some (.cells (RowIn cs 13 [.int .i64 (numV 4294967295 l : Nat)]).toArray T (0, 0))) w) := by
 unfold BoxIs at hb
 have hbx := (cell1 hb).1
 have hfx := (cell2 h.at_).1
 have HF := Lib.hid h
 have HT := Lib.hid ht
 have HL := Lib.hid hlen
 have HBT := Lib.hid hbt
 have KB : Hid (Calls Tryz.prog 51 #[.pointer (some ⟨br, 0, none⟩), .int .u64 4294967295] w (ReadP (br + 1) br l (numK 4294967295 l) (numE 4294967295 l) (.int .u64 (numV 4294967295 l : Nat)) w)) := rnumber_any (br + 1) br l 4294967295 w h.rd
 clear h hb ht hlen hbt
 have hwr : IntKind.i64.wrap ((numV 4294967295 l : Nat) : Int) = ((numV 4294967295 l : Nat) : Int) := by
   have := numV_le 4294967295 l
   rw [IntKind.wrap_i64]; omega
 go_enter Tryz.func50, Tryz.ntmps50
 go_wp2_with (first
   | (go_at_call 51; (refine KB.out.mono ?_); rintro e w1 ⟨rfl, hr1, ht1⟩; have HR1 := Lib.hid hr1; have HT1 := Lib.hid ht1; have HC1 : Hid (w1.heap[bt]? = some (.cells cs.toArray T (0, 0))) := (ht1.block bt (lt_heap HT.out) (by have := HBT.out.1; simp; omega)).trans HT.out; clear hr1 ht1)
   | ((with_reducible refine gate_st 3 _ _ rfl ?_); refine wl_st1G rfl 3 siz3n _ _ rfl bt 13 (.int .i64 (numV 4294967295 l : Nat)) rfl rfl rfl cs (RowIn cs 13 [.int .i64 (numV 4294967295 l : Nat)]) T HC1.out HL.out rfl (fun w2 h1 h2 => ?_); have HC2 := Lib.hid h1; have HT2 := Lib.hid h2; clear h1 h2; try simp only [Act.put]))
 go_ret
 have hbf := HF.out.lt
 have hbr := HBT.out
 have hle := HF.out.rd.le
 refine ⟨rfl, ⟨HR1.out.below (HT2.out.below (fun k hk => by simp at hk; omega) (Nat.le_trans hle HT1.out.size)), hbf, ?_⟩, ?_, HC2.out⟩
 · exact (HT2.out.block bf (Nat.lt_of_lt_of_le (lt_heap HF.out.at_) HT1.out.size) (by simp; omega)).trans ((HT1.out.block bf (lt_heap HF.out.at_) (by simp; omega)).trans HF.out.at_)
 · exact (HT1.out.mono (fun k _ hk => by simp at hk; simp [hk])).trans (HT2.out.mono (fun k _ hk => by simp at hk; simp [hk]))
theorem eat1_any (br bf bt b4 : Nat) (cs : List Value) (T : TypeId) (l : List UInt8) (w : World) (h : FAt w br bf l 0 0) (hb : BoxIs w b4 (.pointer (some ⟨bf, 0, none⟩)) 84)
   (ht : w.heap[bt]? = some (.cells cs.toArray T (0, 0))) (hlen : 0 + 1 ≤ cs.length) (hbt : br < bt ∧ bt ≠ bf) :
   Calls Tryz.prog 99 #[.pointer (some ⟨b4, 0, none⟩), .pointer (some ⟨bt, 0, none⟩)] w
     (Reads br bf [br, bf, bt] (l.drop (numK 18446744073709551615 l)) (numE 18446744073709551615 l) 0 (fun w' => w'.heap[bt]? = some (.cells (RowIn cs 0 [.int .u64 (numV 18446744073709551615 l : Nat)]).toArray T (0, 0))) w) := by
 unfold BoxIs at hb
 have hbx := (cell1 hb).1
 have hfx := (cell2 h.at_).1
 have HF := Lib.hid h
 have HT := Lib.hid ht
 have HL := Lib.hid hlen
 have HBT := Lib.hid hbt
 have KB : Hid (Calls Tryz.prog 51 #[.pointer (some ⟨br, 0, none⟩), .int .u64 18446744073709551615] w (ReadP (br + 1) br l (numK 18446744073709551615 l) (numE 18446744073709551615 l) (.int .u64 (numV 18446744073709551615 l : Nat)) w)) := rnumber_any (br + 1) br l 18446744073709551615 w h.rd
 clear h hb ht hlen hbt
 go_enter Tryz.func99, Tryz.ntmps99
 go_wp2_with (first
   | (go_at_call 51; (refine KB.out.mono ?_); rintro e w1 ⟨rfl, hr1, ht1⟩; have HR1 := Lib.hid hr1; have HT1 := Lib.hid ht1; have HC1 : Hid (w1.heap[bt]? = some (.cells cs.toArray T (0, 0))) := (ht1.block bt (lt_heap HT.out) (by have := HBT.out.1; simp; omega)).trans HT.out; clear hr1 ht1)
   | ((with_reducible refine gate_st 60 _ _ rfl ?_); refine wl_st1G rfl 60 siz60n _ _ rfl bt 0 (.int .u64 (numV 18446744073709551615 l : Nat)) rfl rfl rfl cs (RowIn cs 0 [.int .u64 (numV 18446744073709551615 l : Nat)]) T HC1.out HL.out rfl (fun w2 h1 h2 => ?_); have HC2 := Lib.hid h1; have HT2 := Lib.hid h2; clear h1 h2; try simp only [Act.put]))
 go_ret
 have hbf := HF.out.lt
 have hbr := HBT.out
 have hle := HF.out.rd.le
 refine ⟨rfl, ⟨HR1.out.below (HT2.out.below (fun k hk => by simp at hk; omega) (Nat.le_trans hle HT1.out.size)), hbf, ?_⟩, ?_, HC2.out⟩
 · exact (HT2.out.block bf (Nat.lt_of_lt_of_le (lt_heap HF.out.at_) HT1.out.size) (by simp; omega)).trans ((HT1.out.block bf (lt_heap HF.out.at_) (by simp; omega)).trans HF.out.at_)
 · exact (HT1.out.mono (fun k _ hk => by simp at hk; simp [hk])).trans (HT2.out.mono (fun k _ hk => by simp at hk; simp [hk]))
end Go.Proofs.YtbfefdedjcppaaaGreatDoor
