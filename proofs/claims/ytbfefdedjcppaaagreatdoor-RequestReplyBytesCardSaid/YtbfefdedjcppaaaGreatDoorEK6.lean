/- event's second closure: a key's bytes. -/
import Derived.Test.YtbfefdedjcppaaaGreatDoorEP6
namespace Go.Proofs.YtbfefdedjcppaaaGreatDoor
set_option maxRecDepth 100000
set_option maxHeartbeats 8000000
open Go.RowKit
def gotA (l : List UInt8) (k : Nat) : List UInt8 := gotB l k ++ List.replicate (25 - k) 0
theorem gotA_len (l : List UInt8) {k : Nat} (h : k ≤ 25) : (gotA l k).length = 25 := by unfold gotA; rw [List.length_append, gotB_len, List.length_replicate]; omega
theorem gotA_all (l : List UInt8) : gotA l 25 = gotB l 25 := by unfold gotA; simp
theorem gotA_zero (l : List UInt8) : gotA l 0 = List.replicate 25 0 := by unfold gotA; rw [gotB_zero]; rfl
theorem gotA_step (l : List UInt8) {k : Nat} (h : k < 25) : (bC (gotA l k)).toList.take k ++ [Value.int .u8 ((l.getD k 0).toNat : Int)] ++ (bC (gotA l k)).toList.drop (k + 1) = (bC (gotA l (k + 1))).toList := by
 have e := rowB (gotA l k) [l.getD k 0] k
 refine e.trans ?_
 congr 2
 unfold gotA
 rw [gotB_step, List.take_left' (gotB_len l k), show 25 - k = (25 - (k + 1)) + 1 by omega, List.replicate_succ, List.drop_append, List.drop_eq_nil_of_le (by rw [gotB_len]; simp), gotB_len]
 simp
structure EkSt (w W : World) (br bf bt b4 g : Nat) (cs : List Value) (T : TypeId) (l : List UInt8) (k : Nat) : Prop where
 rd : RdAt W (br + 1) br (l.drop k) (endE l k)
 f_ : W.heap[bf]? = some (.cells #[.pointer (some ⟨br, 0, none⟩), .int .i64 ((0 : Nat) : Int)] 88 (0, 0))
 q_ : W.heap[bt]? = some (.cells cs.toArray T (0, 0))
 b_ : BoxIs W b4 (.pointer (some ⟨bf, 0, none⟩)) 84
 a_ : W.heap[g]? = some (.cells (bC (gotA l k)) 108 (0, 0))
 tn : Turn [br] w W
 ne : br < bf ∧ br < bt ∧ br < b4 ∧ bf < g ∧ bt < g ∧ b4 < g ∧ w.heap.size ≤ g
theorem EkSt.byte {w W w' : World} {br bf bt b4 g k : Nat} {cs : List Value} {T : TypeId} {l : List UInt8} (h : EkSt w W br bf bt b4 g cs T l k) (hr : RdAt w' (br + 1) br (l.drop (k + 1)) (endE l (k + 1))) (ht : Turn [br] W w') :
   w'.heap[g]? = some (.cells (bC (gotA l k)) 108 (0, 0)) ∧ (∀ W2, W2.heap[g]? = some (.cells (bC (gotA l (k + 1))) 108 (0, 0)) → Turn [g] w' W2 → EkSt w W2 br bf bt b4 g cs T l (k + 1)) := by
 have hk : ∀ x, x < W.heap.size → x ≠ br → w'.heap[x]? = W.heap[x]? := fun x hx a => ht.block x hx (by simpa using a)
 have hn := h.ne
 refine ⟨(hk _ (lt_heap h.a_) (by omega)).trans h.a_, fun W2 h1 h2 => ?_⟩
 have hs := ht.size
 have hj : ∀ x, x < W.heap.size → x ≠ br → x ≠ g → W2.heap[x]? = W.heap[x]? := fun x hx a b => (h2.block x (by omega) (by simpa using b)).trans (hk x hx a)
 refine ⟨hr.below (h2.below (fun k hk => by simp at hk; omega) hr.le), (hj _ (lt_heap h.f_) (by omega) (by omega)).trans h.f_, (hj _ (lt_heap h.q_) (by omega) (by omega)).trans h.q_, (hj _ (lt_heap h.b_) (by omega) (by omega)).trans h.b_, h1, ?_, hn⟩
 have ht2 := h.tn.trans ht
 refine ⟨h2.os.trans ht2.os, h2.tape.trans ht2.tape, h2.output.trans ht2.output, Nat.le_trans ht2.size h2.size, fun x hx hnm => ?_⟩
 have := h.tn.size
 exact (h2.block x (by have := ht2.size; omega) (by simp; omega)).trans (ht2.block x hx hnm)
theorem ekey1_any (br bf bt b4 : Nat) (cs : List Value) (T : TypeId) (l : List UInt8) (w : World) (h : FAt w br bf l 0 0) (hb : BoxIs w b4 (.pointer (some ⟨bf, 0, none⟩)) 84)
   (ht : w.heap[bt]? = some (.cells cs.toArray T (0, 0))) (hlen : 26 ≤ cs.length) (hbt : br < bt ∧ bt ≠ bf) (hb4 : br < b4) (hmx : MX w) (hg : 0 < br) :
   Calls Tryz.prog 100 #[.pointer (some ⟨b4, 0, none⟩), .pointer (some ⟨bt, 0, none⟩)] w
     (Reads br bf [br, bf, bt] (l.drop 25) (endE l 25) (rdKe (gotB l 25)) (fun w' => w'.heap[bt]? = some (.cells (RowIn cs 1 (bC (rdK (gotB l 25))).toList).toArray T (0, 0))) w) := by
 have HB1 : Below w.heap.size w (w.alloc (.cells (bC (List.replicate 25 0)) 108)) := below_alloc1 _ _
 have HS0 : Hid (EkSt w (w.alloc (.cells (bC (List.replicate 25 0)) 108)) br bf bt b4 w.heap.size cs T l 0) :=
   ⟨by rw [List.drop_zero]; exact h.rd.below (HB1.mono h.rd.le), (HB1.block _ (lt_heap h.at_)).trans h.at_, (HB1.block _ (lt_heap ht)).trans ht, (HB1.block _ (lt_heap hb)).trans hb, by rw [gotA_zero]; exact heap_alloc_new _ _, Turn.of_below HB1, ⟨h.lt, hbt.1, hb4, lt_heap h.at_, lt_heap ht, lt_heap hb, Nat.le_refl _⟩⟩
 have KR : Hid (∀ W, Turn [br] w W → Calls Tryz.prog 101 #[.agg (bC (gotB l 25))] W fun e w' => e = .returned (.tuple #[.agg (bC (rdK (gotB l 25))), .int .i64 (rdKe (gotB l 25) : Nat)]) ∧ Below W.heap.size W w') := fun W hW => keyRead_any _ W (gotB_len l 25) (hmx.turn hW (fun k hk => by simp at hk; omega))
 have HL := Lib.hid hlen
 have HBT := Lib.hid hbt
 have HLk : Hid ((rdK (gotB l 25)).length = 25) := by
   show _ = _
   unfold rdK
   split
   · exact gotB_len l 25
   · rfl
 clear h hb ht hlen hbt hb4 hmx hg HB1
 go_enter Tryz.func100, Tryz.ntmps100
 go_upto_region 2 with fail
 rw [show (Obj.cells #[Value.int .u8 0, .int .u8 0, .int .u8 0, .int .u8 0, .int .u8 0, .int .u8 0, .int .u8 0, .int .u8 0, .int .u8 0, .int .u8 0, .int .u8 0, .int .u8 0, .int .u8 0, .int .u8 0, .int .u8 0, .int .u8 0, .int .u8 0, .int .u8 0, .int .u8 0, .int .u8 0, .int .u8 0, .int .u8 0, .int .u8 0, .int .u8 0, .int .u8 0] 108) = Obj.cells (bC (List.replicate 25 0)) 108 from rfl]
 generalize w.alloc (.cells (bC (List.replicate 25 0)) 108) = W1 at *
 generalize hgs : w.heap.size = g at *
 have HGS := Lib.hid hgs
 clear hgs
 go_wp2_with fail
 go_loopw [4, 7] (fun s i wr => (∃ u : Value, s = u) ∧ ∃ k : Nat, k ≤ 25 ∧ i = .int .i64 (k : Int) ∧ Hid (EkSt w wr br bf bt b4 g cs T l k)) (fun _ i _ => 25 - (intOf i).toNat)
 case atStart => exact ⟨⟨_, rfl⟩, 0, Nat.zero_le _, rfl, HS0.out⟩
 case round =>
   obtain ⟨_, k, hk, rfl, HS1⟩ := hrel
   clear HS0
   by_cases hlt : k < 25
   · have hlt' : (k : Int) < 25 := by omega
     have hlk : k < 25 := hlt
     have hk0 : ¬ (k : Int) < 0 := by omega
     have hbx := (cell1 HS1.out.b_).1
     have hbf := (cell2 HS1.out.f_).1
     have KB := Lib.hid (byteAt_any (br + 1) br l k wr HS1.out.rd)
     have HST := Lib.hid (gotA_step l hlt)
     generalize l.getD k 0 = x at *
     go_wp2_with (first
       | (go_at_call 29; (refine KB.out.mono ?_); rintro e w2 ⟨rfl, hr2, ht2⟩; have HE2 := Lib.hid (HS1.out.byte hr2 ht2); clear hr2 ht2)
       | ((with_reducible refine gate_st 5 _ _ rfl ?_); refine wl_st1G rfl 5 siz5u _ _ rfl g k (.int .u8 (x.toNat : Int)) (by first | rfl | simp [Act.eval]) rfl rfl (bC (gotA l k)).toList (bC (gotA l (k + 1))).toList 108 HE2.out.1 (by simp [bC, gotA_len l (Nat.le_of_lt hlk)]; omega) HST.out (fun W3 h1 h2 => ?_); have HS3 := Lib.hid (HE2.out.2 W3 h1 h2); clear h1 h2; try simp only [Act.put]))
     go_roundw
     case rel => exact ⟨⟨_, rfl⟩, k + 1, by omega, by simp, HS3.out⟩
     case measure => simp [intOf]; omega
   · obtain rfl : k = 25 := by omega
     have HA : Hid (wr.heap[g]? = some (.cells (bC (gotB l 25)) 108 (0, 0))) := by have := HS1.out.a_; rwa [gotA_all] at this
     have HQ := Lib.hid HS1.out.q_
     have HRd := Lib.hid HS1.out.rd
     have HFf := Lib.hid HS1.out.f_
     have KR1 := Lib.hid (KR.out wr HS1.out.tn)
     have HTn := Lib.hid HS1.out.tn
     have HNe := Lib.hid HS1.out.ne
     have hlg : (gotB l 25).length = 25 := gotB_len l 25
     have HLg := Lib.hid hlg
     clear HS1 KR hlg hk
     generalize hke : rdKe (gotB l 25) = ke at *
     generalize hkk : rdK (gotB l 25) = kk at *
     have HKE := Lib.hid hke
     have HKK := Lib.hid hkk
     clear hke hkk
     generalize hgk : gotB l 25 = gk at *
     have HGK := Lib.hid hgk
     clear hgk
     go_wp2_with (first
       | ((with_reducible refine gate_ld 108 _ rfl ?_); refine wl_ldr rfl 108 _ rfl g 0 (bC gk).toList _ Tryz.underlying108 rfl (by rw [Kx.siz25]; simp [bC, HLg.out]) rfl (range_whole (by simpa using HA.out)) ?_)
       | (go_at_call 101; (refine KR1.out.mono ?_); rintro e w4 ⟨rfl, hb4⟩; have HB4 := Lib.hid hb4; clear hb4)
       | ((with_reducible refine gate_st 32 (.tmp 5) _ rfl ?_); refine wl_strn rfl _ _ _ rfl (bC kk) #[Value.int IntKind.u8 0, Value.int IntKind.u8 0, Value.int IntKind.u8 0, Value.int IntKind.u8 0, Value.int IntKind.u8 0, Value.int IntKind.u8 0, Value.int IntKind.u8 0, Value.int IntKind.u8 0, Value.int IntKind.u8 0, Value.int IntKind.u8 0, Value.int IntKind.u8 0, Value.int IntKind.u8 0, Value.int IntKind.u8 0, Value.int IntKind.u8 0, Value.int IntKind.u8 0, Value.int IntKind.u8 0, Value.int IntKind.u8 0, Value.int IntKind.u8 0, Value.int IntKind.u8 0, Value.int IntKind.u8 0, Value.int IntKind.u8 0, Value.int IntKind.u8 0, Value.int IntKind.u8 0, Value.int IntKind.u8 0, Value.int IntKind.u8 0] _ (by rw [sizKey, bC_size, HLk.out]) (by rw [bC_size, HLk.out]; rfl) (bC_one _) (by simp [Act.eval]) rfl ?_)
       | ((with_reducible refine gate_ld 32 (.tmp 5) rfl ?_); refine wl_ldr rfl 32 _ rfl w4.heap.size 0 (bC kk).toList _ Tryz.underlying32 rfl (by rw [sizKey]; simp [bC, HLk.out]) rfl (range_whole (by simpa using heap_alloc_new w4 (.cells (bC kk) 32))) ?_)
       | ((with_reducible refine gate_st 32 (.tmp 24) _ rfl ?_); refine wl_stR rfl 32 _ _ rfl bt 1 (bC kk).toList (by rw [sizKey]; simp [bC, HLk.out]) rfl (by simp [Act.eval]) (bC_oneL kk) cs T (((below_alloc1 w4 _).block _ (Nat.lt_of_lt_of_le (lt_heap HQ.out) HB4.out.size)).trans ((HB4.out.block _ (lt_heap HQ.out)).trans HQ.out)) (by simp [bC, HLk.out]; have := HL.out; omega) (fun w5 h1 h2 => ?_); have HW5 := Lib.hid h1; have HT5 := Lib.hid h2; clear h1 h2; try simp only [Act.put]))
     go_ret
     have hne := HNe.out
     have hbt := HBT.out
     have hB : Below wr.heap.size wr (w4.alloc (.cells (bC kk) 32)) := HB4.out.trans ((below_alloc1 w4 _).mono HB4.out.size)
     have hle := HRd.out.le
     refine ⟨by rw [HGK.out, HKE.out]; rfl, ⟨(HRd.out.below (hB.mono hle)).below (HT5.out.below (fun k hk => by simp at hk; omega) (Nat.le_trans hle hB.size)), hne.1, ?_⟩, ?_, by show w5.heap[bt]? = some (.cells (RowIn cs 1 (bC (rdK (gotB l 25))).toList).toArray T (0, 0)); rw [HGK.out, HKK.out]; exact HW5.out⟩
     · exact (HT5.out.block bf (Nat.lt_of_lt_of_le (lt_heap HFf.out) hB.size) (by simp; omega)).trans ((hB.block bf (lt_heap HFf.out)).trans HFf.out)
     · exact ((HTn.out.mono (fun k _ hk => by simp at hk; simp [hk])).trans (Turn.of_below hB)).trans (HT5.out.mono (fun k _ hk => by simp at hk; simp [hk]))
end Go.Proofs.YtbfefdedjcppaaaGreatDoor
