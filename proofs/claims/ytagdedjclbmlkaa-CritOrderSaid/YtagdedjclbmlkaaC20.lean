/- The bytes of a prefix. -/
import Derived.Test.YtagdedjclbmlkaaC19
import Derived.Test.YtagdedjclbmlkaaKX
import Derived.Lib.SliceRun
namespace Go.Proofs.Ytagdedjclbmlkaa
open Go.RowKit

theorem infoU8 : (Try.prog.info? 5).map (fun i => (i.zero, i.size, i.bytes)) = some (some (.int .u8 0), 1, 1) := by kernel_rfl
theorem run_eqnil (w : World) (a : Addr) (n c : Nat) : (binOp .eql 109 (.slice (some a) n c) (.slice none 0 0)).run Try.prog w = .ok (.bool false) w := by
  exact Lib.run_eql_slice_nil w 109 5 (some a) n c 0 0 Try.underlying109
set_option maxRecDepth 100000 in
theorem clone_any (w : World) (b o n c : Nat) (l : List UInt8) (hn : l.length = n) (hn25 : n ≤ 25) (hq : SlAt enc1 1 w (some ⟨b, o, none⟩) l) :
    Calls Try.prog 61 #[.slice (some ⟨b, o, none⟩) n c] w fun e w' => ∃ v, e = .returned v ∧ OwnE enc1 5 1 w' w.heap.size v l ∧ Below w.heap.size w w' := by
  have HQ := Lib.hid hq
  have HL := Lib.hid hn
  have HB := Lib.hid (below_alloc1 w (.cells #[] 5))
  have HO : Hid (OwnE enc1 5 1 (w.alloc (.cells #[] 5)) w.heap.size (.slice (some ⟨w.heap.size, 0, none⟩) 0 0) []) := ⟨by simp, .inr ⟨w.heap.size, 0, #[], rfl, Nat.le_refl _, heap_alloc_new _ _, by simp, by unfold maxLen; omega, rfl, rfl⟩⟩
  have he := fun W => run_eqnil W ⟨b, o, none⟩ n c
  clear hq hn
  go_enter Try.func61, Try.ntmps61
  go_upto_region 3 with fail
  go_wp2_with (first
    | ((with_reducible refine gate_op (.call { callee := .builtin .append, args := #[.tmp 5, .tmp 6], argTypes := #[109, 109] }) rfl ?_); refine wl_appO (enc := enc1) (k := 1) rfl 109 5 1 _ Try.underlying109 infoU8 rfl (by omega) enc1_len (fun x u hu => by simp [enc1] at hu; subst hu; rfl) (.tmp 5) (.tmp 6) rfl w.heap.size _ [] rfl HO.out _ n c l rfl HL.out (HQ.out.below HB.out) (fun e => by cases e) (by simp; omega) (by unfold maxLen; simp; omega) (by simp) (fun v' w2 ho hg _ => ?_)))
  clear he
  go_ret
  refine ⟨v', rfl, ho, HB.out.grown hg (by simp) (fun g e => ?_)⟩
  have : w.heap.size = g := by simpa [Value.ownBlock, Act.eval, Act.put] using e
  omega
/-- The bytes that all keys of a prefix begin with. -/
def preB (k : List UInt8) (d : Int) : List UInt8 := if depOk d then k.take (cutN d) else []
theorem preB_len (k : List UInt8) (d : Int) (hk : k.length = 25) : (preB k d).length ≤ 25 := by
  unfold preB
  split
  · rw [List.length_take]; omega
  · simp
theorem cutK_take (k : List UInt8) (d : Int) (hk : k.length = 25) : (cutK k d).take (cutN d) = k.take (cutN d) := by
  have := cutN_le d
  unfold cutK
  rw [List.take_append_of_le_length (by simp [hk]; omega), List.take_take, Nat.min_self]
theorem frAt_own {w : World} {v : Value} {base : Nat} {l : List UInt8} (h : OwnE enc1 5 1 w base v l) : ∃ q c, v = .slice q l.length c ∧ FrAt w q l := by
  obtain ⟨h1, ⟨rfl, h2⟩ | ⟨g, cap, cur, rfl, hg, hh, hc, hm, hs, ht⟩⟩ := h
  · exact ⟨none, 0, by rw [h2], .inl (List.length_eq_zero_iff.1 h2)⟩
  · refine ⟨_, cap, rfl, .inr ⟨g, 0, cur, rfl, hh, ?_⟩⟩
    rw [← enc1_flat, ← ht]
    intro j u hu
    rw [Nat.zero_add, cell_blk hh]
    have hj := (List.getElem?_eq_some_iff.1 hu).1
    rw [List.getElem?_take_of_lt (by rw [List.length_take] at hj; omega)] at hu
    simpa using hu
set_option maxRecDepth 100000 in
set_option maxHeartbeats 4000000 in
theorem pbytes_any (k : List UInt8) (d : Int) (w : World) (hk : k.length = 25) :
    Calls Try.prog 46 #[.agg (pC k d).toArray] w fun e w' => ∃ q c, e = .returned (.slice q (preB k d).length c) ∧ FrAt w' q (preB k d) ∧ Below w.heap.size w w' := by
  have HK := Lib.hid hk
  have HB := Lib.hid (below_alloc1 w (.cells (pC k d).toArray 63))
  have HP := Lib.hid (heap_alloc_new w (.cells (pC k d).toArray 63))
  have KR := Lib.hid (fun W => right_any k d W hk)
  have KC := Lib.hid (fun W => cut_any k d W hk)
  clear hk
  by_cases hd : depOk d = true
  · have hb := of_decide_eq_true hd
    have HPl : Hid (preB k d = k.take (cutN d)) := if_pos hd
    rw [hd] at KR
    go_enter Try.func46, Try.ntmps46
    go_upto_region 1 with fail
    generalize w.alloc (.cells (pC k d).toArray 63) = W1 at *
    go_upto_region 3 with (first
      | ((with_reducible refine gate_ld 63 (.tmp 1) rfl ?_); refine wl_ldr rfl 63 _ rfl w.heap.size 0 (pC k d) _ Try.underlying63 rfl (by rw [sizPre, pC_len HK.out]) rfl (range_whole (by simpa using HP.out)) ?_)
      | (go_at_call 59; (refine (KR.out _).mono ?_); rintro e W2 ⟨rfl, hb2⟩; have HB2 := Lib.hid hb2; clear hb2))
    have HP2 : Hid (W2.heap[w.heap.size]? = some (.cells (pC k d).toArray 63 (0, 0))) := (HB2.out.block _ (lt_heap HP.out)).trans HP.out
    have HBb : Hid (Below w.heap.size w W2) := HB.out.trans (HB2.out.mono HB.out.size)
    clear HP HB HB2 KR
    go_upto_region 4 with (first
      | ((with_reducible refine gate_ld 63 (.tmp 1) rfl ?_); refine wl_ldr rfl 63 _ rfl w.heap.size 0 (pC k d) _ Try.underlying63 rfl (by rw [sizPre, pC_len HK.out]) rfl (range_whole (by simpa using HP2.out)) ?_)
      | (go_at_call 60; (refine (KC.out _).mono ?_); rintro e W3 ⟨rfl, hb3⟩; have HB3 := Lib.hid hb3; clear hb3)
      | (go_at_call 35; (refine (keyBytes_any (cutK k d) _ (cutK_len HK.out d)).mono ?_); rintro e W4 ⟨rfl, hb4⟩; have HB4 := Lib.hid hb4; clear hb4)
      | ((with_reducible refine gate_st 85 _ _ rfl ?_); refine wl_str rfl 85 (.tmp 3) (.tmp 10) rfl W4.heap.size (bC (cutK k d)) (bC z25) 85 (by rw [siz25, bC_size, cutK_len HK.out]) (by rw [bC_size, bC_size, cutK_len HK.out]; rfl) (bC_one _) rfl rfl (heap_alloc_new _ _) ?_))
    have hbel : Below w.heap.size w (W4.alloc (.cells (bC (cutK k d)) 85)) := HBb.out.trans ((HB3.out.trans ((HB4.out.alloc HB4.out.size _).mono HB3.out.size)).mono HBb.out.size)
    have hc25 : (W4.alloc (.cells (bC (cutK k d)) 85)).cell? ⟨w.heap.size, 25, none⟩ = some (.int .i64 d) := by
      rw [cell_blk (((HB3.out.trans ((HB4.out.alloc HB4.out.size _).mono HB3.out.size)).block _ (lt_heap HP2.out)).trans HP2.out), pC_d HK.out]
    have HS : Hid (∀ n, n = cutN d → Calls Try.prog 61 #[.slice (some ⟨W4.heap.size, 0, none⟩) n 25] (W4.alloc (.cells (bC (cutK k d)) 85)) fun e w' => ∃ q c, e = .returned (.slice q (preB k d).length c) ∧ FrAt w' q (preB k d) ∧ Below w.heap.size w w') := fun n hn => by
      subst hn
      refine (clone_any _ W4.heap.size 0 (cutN d) 25 (preB k d) (by rw [HPl.out, List.length_take, HK.out]; have := cutN_le d; omega) (cutN_le d) (slat_bytes (by simp) ?_)).mono ?_
      · rw [HPl.out, ← cutK_take k d HK.out]
        intro j u hu
        have hr : (W4.alloc (.cells (bC (cutK k d)) 85)).rangeAt W4.heap.size 0 (bC (cutK k d)).toList := range_whole (by simpa using heap_alloc_new W4 (.cells (bC (cutK k d)) 85))
        refine hr j u ?_
        simp only [bC, List.getElem?_map] at hu ⊢
        have hj : j < ((cutK k d).take (cutN d)).length := by
          cases h : ((cutK k d).take (cutN d))[j]? with
          | none => simp [h] at hu
          | some x => exact (List.getElem?_eq_some_iff.1 h).1
        rw [List.getElem?_take_of_lt (by rw [List.length_take] at hj; omega)] at hu
        exact hu
      · rintro e w' ⟨v, rfl, ho, hb2⟩
        obtain ⟨q, c, rfl, hf⟩ := frAt_own ho
        exact ⟨q, c, rfl, hf, hbel.trans (hb2.mono hbel.size)⟩
    show Code.wp _ _ _ _ ((W4.alloc (.cells (bC z25) 85)).setRow W4.heap.size (bC (cutK k d)))
    rw [World.setRow_alloc_new]
    clear hbel HP2 HBb HB3 HB4 KC
    generalize (W4.alloc (.cells (bC (cutK k d)) 85)) = W5 at *
    clear HPl
    obtain rfl | rfl | rfl | rfl | rfl | rfl : d = 0 ∨ d = 1 ∨ d = 2 ∨ d = 3 ∨ d = 4 ∨ d = 5 := by omega
    all_goals
      go_wp2_with (go_at_call 61; (refine (HS.out _ (by decide)).mono ?_); rintro e W6 ⟨q, c, rfl, hf6, hb6⟩; have HF6 := Lib.hid hf6; have HB6 := Lib.hid hb6; clear hf6 hb6)
      go_ret
      exact ⟨q, c, rfl, HF6.out, HB6.out⟩
  · have hd' : depOk d = false := by simpa using hd
    have HPl : Hid (preB k d = []) := if_neg hd
    rw [hd'] at KR
    go_enter Try.func46, Try.ntmps46
    go_upto_region 1 with fail
    generalize w.alloc (.cells (pC k d).toArray 63) = W1 at *
    go_wp2_with (first
      | ((with_reducible refine gate_ld 63 (.tmp 1) rfl ?_); refine wl_ldr rfl 63 _ rfl w.heap.size 0 (pC k d) _ Try.underlying63 rfl (by rw [sizPre, pC_len HK.out]) rfl (range_whole (by simpa using HP.out)) ?_)
      | (go_at_call 59; (refine (KR.out _).mono ?_); rintro e W2 ⟨rfl, hb2⟩; have HB2 := Lib.hid hb2; clear hb2))
    go_ret
    exact ⟨none, 0, by rw [HPl.out]; rfl, .inl HPl.out, HB.out.trans (HB2.out.mono HB.out.size)⟩
end Go.Proofs.Ytagdedjclbmlkaa
