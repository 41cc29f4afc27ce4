/- Del at a set. -/
import Derived.Test.YtbflliiaigkmgaaS4
namespace Go.Proofs.Ytbflliiaigkmgaa
open Go.RowKit

def delL (ks ns : List (List UInt8)) : List (List UInt8) := ns.foldl (fun ks n => ks.erase n) ks
theorem delL_snoc (ks ns : List (List UInt8)) (k : Nat) (h : k < ns.length) : delL ks (ns.take (k + 1)) = (delL ks (ns.take k)).erase ns[k] := by
  unfold delL
  rw [List.take_succ_eq_append_getElem h, List.foldl_append]; rfl
theorem delL_le (ks ns : List (List UInt8)) : (delL ks ns).length ≤ ks.length ∧ ks.length ≤ (delL ks ns).length + ns.length := by
  induction ns generalizing ks with
  | nil => simp [delL]
  | cons n ns ih =>
    have h2 := ih (ks.erase n)
    have e : delL ks (n :: ns) = delL (ks.erase n) ns := rfl
    have h3 : (ks.erase n).length ≤ ks.length := List.length_erase_le
    have h4 : ks.length - 1 ≤ (ks.erase n).length := List.le_length_erase
    rw [e]
    simp only [List.length_cons]
    omega
theorem erase_no {ks : List (List UInt8)} {n : List UInt8} (h : inL ks n = false) : ks.erase n = ks := by
  apply List.erase_of_not_mem
  intro hm
  unfold inL at h
  rw [List.contains_iff_mem.2 hm] at h
  cases h
theorem erase_yes {ks : List (List UInt8)} {n : List UInt8} (h : inL ks n = true) : (ks.erase n).length + 1 = ks.length := by
  unfold inL at h
  have hm := List.contains_iff_mem.1 h
  have := List.length_erase_of_mem hm
  have := List.length_pos_of_mem hm
  omega

theorem wl_del37 {ops : Array Oper} {rest : List Oper} {o : Oper} {a : Act} {w : World} {Q : Exit → Act → World → Prop} (hw : Region.wanted o (yielded ops a.tmps) = true) (x y : Operand)
    (ho : o.op = .call { callee := .builtin .delete, args := #[x, y], argTypes := #[37, 23] }) (r : Nat) (hx : a.eval x = .map (some r)) (k : List UInt8) (hy : a.eval y = .agg (bC k)) (hk : k.length = 12) (ks : List (List UInt8)) (hs : HeldIs w r ks) (hn : inL ks k = true)
    (h : ∀ w', HeldIs w' r (ks.erase k) → Turn [r] w w' → wpList Try.prog ops Q rest (a.put o.dst (.tuple #[])) w') : wpList Try.prog ops Q (o :: rest) a w :=
  wpList_step fun K hK => by
    rw [if_pos hw]
    obtain ⟨ob, h1, h2⟩ := hs.del k hk hn
    unfold Oper.wp
    simp [execOp, ho, resolve, invoke, builtin, hx, hy, h1, Result.andThen]
    exact hK _ _ (h _ h2 (Turn.put r w ob))

set_option maxHeartbeats 1000000 in
theorem del_any (sp b n : Nat) (o : Option Nat) (ks ns : List (List UInt8)) (w : World) (hs : SetAt w sp o ks) (hb : NamesAt w b ns) (hn : ns.length = n) (h12 : ∀ n ∈ ns, n.length = 12) (h64 : n ≤ 64) (hk64 : ks.length ≤ 64) :
    Calls Try.prog 21 #[.pointer (some ⟨sp, 0, none⟩), .slice (some ⟨b, 0, none⟩) n n] w fun e w' => e = .returned (.int .i64 ((ks.length : Int) - (delL ks ns).length)) ∧ Turn o.toList w w' ∧ SetAt w' sp o (delL ks ns) := by
  have hor : ∀ r, o = some r → ∃ l c, w.heap[r]? = some (mObj l c) := fun r e => by
    subst e
    obtain ⟨l, c, h2, _⟩ := hs.2
    exact ⟨l, c, h2⟩
  have hsp : sp < w.heap.size ∧ sp ∉ o.toList := by
    refine ⟨?_, fun hm => ?_⟩
    · rcases Nat.lt_or_ge sp w.heap.size with h' | h'
      · exact h'
      · have := hs.1; simp [Array.getElem?_eq_none h'] at this
    · obtain ⟨l, c, h2⟩ := hor sp (by simpa using hm)
      rw [hs.1] at h2; cases h2
  have hbb : b < w.heap.size ∧ b ∉ o.toList := by
    refine ⟨?_, fun hm => ?_⟩
    · rcases Nat.lt_or_ge b w.heap.size with h' | h'
      · exact h'
      · have := hb; simp [NamesAt, Array.getElem?_eq_none h'] at this
    · obtain ⟨l, c, h2⟩ := hor b (by simpa using hm)
      rw [hb] at h2; cases h2
  have HN := Lib.hid hn
  have H12 := Lib.hid h12
  have HB := Lib.hid hb
  have HS := Lib.hid hs
  have HSP := Lib.hid hsp
  have HBB := Lib.hid hbb
  clear hn h12 hb hs hsp hbb hor
  go_enter Try.func21, Try.ntmps21
  go_wp2_with fail
  go_loopw [5, 10] (fun c i wr => ∃ k : Nat, k ≤ n ∧ i = .int .i64 k ∧ c = .int .i64 ((ks.length : Int) - (delL ks (ns.take k)).length) ∧ Hid (Turn o.toList w wr) ∧ Hid (SetAt wr sp o (delL ks (ns.take k)))) (fun _ i _ => n - (intOf i).toNat)
  case atStart => exact ⟨0, Nat.zero_le _, rfl, by simp [delL], Turn.refl _ _, HS.out⟩
  case round =>
    obtain ⟨k, hk, rfl, rfl, HT, HSk⟩ := hrel
    by_cases hlt : k < n
    · have hk2 : k < ns.length := by rw [HN.out]; exact hlt
      have hbk : wr.heap[b]? = w.heap[b]? := HT.out.block b HBB.out.1 HBB.out.2
      have hnk : Hid (ns[k].length = 12) := H12.out _ (List.getElem_mem hk2)
      have hrg : Hid (wr.rangeAt b (k * 12) (bC ns[k]).toList) := NamesAt.range (w := wr) (hbk.trans HB.out) H12.out k hk2
      have HA : Hid (delL ks (ns.take (k + 1)) = (delL ks (ns.take k)).erase ns[k]) := delL_snoc ks ns k hk2
      have hz : w.heap.size ≤ wr.heap.size := HT.out.size
      have hle := delL_le ks (ns.take k)
      clear hbk
      generalize ns[k] = nk at *
      generalize delL ks (ns.take k) = kk at *
      have HHas : Hid (∀ W, SetAt W sp o kk → Calls Try.prog 19 #[.pointer (some ⟨sp, 0, none⟩), .agg (bC nk)] W fun e w' => e = .returned (.bool (inL kk nk)) ∧ Below W.heap.size W w') := fun W hW => has_any sp o kk nk W hW hnk.out
      have HS1 : Hid (SetAt (wr.alloc (.cells (bC nk) 23)) sp o kk) := HSk.out.below (below_alloc1 wr _) (Nat.le_refl _)
      cases hi : inL kk nk
      · rw [hi] at HHas
        have HX : Hid (kk.erase nk = kk) := erase_no hi
        clear hi
        go_wp2_with (first
          | (with_reducible refine ldmid rfl _ rfl b k rfl nk hnk.out hrg.out ?_)
          | (with_reducible refine ld23g rfl _ rfl wr.heap.size rfl nk hnk.out (0, 0) (heap_alloc_new _ _) ?_)
          | (rw [← bC_z12]; with_reducible refine st23n rfl _ _ rfl nk rfl rfl hnk.out ?_)
          | (go_at_call 19; (with_reducible refine (HHas.out _ HS1.out).mono ?_); rintro e w2 ⟨rfl, hb2⟩))
        go_roundw
        case rel =>
          refine ⟨k + 1, by omega, by go_num, ?_, ?_, ?_⟩
          · rw [HA.out, HX.out]
          · exact HT.out.trans ((Turn.of_below (below_alloc1 wr _)).trans (Turn.of_below hb2))
          · rw [HA.out, HX.out]; exact HS1.out.below hb2 (Nat.le_refl _)
        case measure => simp [intOf]; omega
      · rw [hi] at HHas
        have HI := Lib.hid hi
        have HX := erase_yes hi
        obtain ⟨r, rfl⟩ : ∃ r, o = some r := by
          cases o with
          | none =>
            have : kk = [] := HSk.out.2
            rw [this] at hi
            simp [inL] at hi
          | some r => exact ⟨r, rfl⟩
        clear hi
        go_upto_region 6 with (first
          | (with_reducible refine ldmid rfl _ rfl b k rfl nk hnk.out hrg.out ?_)
          | (with_reducible refine ld23g rfl _ rfl wr.heap.size rfl nk hnk.out (0, 0) (heap_alloc_new _ _) ?_)
          | (rw [← bC_z12]; with_reducible refine st23n rfl _ _ rfl nk rfl rfl hnk.out ?_)
          | (go_at_call 19; (with_reducible refine (HHas.out _ HS1.out).mono ?_); rintro e w2 ⟨rfl, hb2⟩))
        have HG2 : Hid (w2.heap[wr.heap.size]? = some (.cells (bC nk) 23)) := (hb2.block _ (by simp)).trans (heap_alloc_new _ _)
        have HS2 : Hid (SetAt w2 sp (some r) kk) := HS1.out.below hb2 (Nat.le_refl _)
        have hck2 := HS2.out.cell
        have HT2 : Hid (Turn [r] w w2) := HT.out.trans ((Turn.of_below (below_alloc1 wr _)).trans (Turn.of_below hb2))
        refine wp_region_still_tail 5 (by kernel_rfl) (by kernel_rfl) ?_
        simp only [List.take_succ_cons, List.take_zero, List.drop_succ_cons, List.drop_zero]
        repeat (first
          | (with_reducible refine ws_load23 _ wr.heap.size nk (0, 0) rfl rfl rfl HG2.out hnk.out ?_; simp only [Act.put, List.setIfInBounds_toArray, List.set_cons_zero, List.set_cons_succ])
          | still_step)
        refine wpStill_nil ?_
        have HS3 : Hid (SetAt { w2 with drawn := w2.drawn + 1 } sp (some r) kk) := HS2.out
        have HH3 : Hid (HeldIs { w2 with drawn := w2.drawn + 1 } r kk) := HS2.out.2
        have HT3 : Hid (Turn [r] w { w2 with drawn := w2.drawn + 1 }) := HT2.out.trans (Turn.drew _ _)
        generalize { w2 with drawn := w2.drawn + 1 } = w3 at *
        refine wl_del37 rfl _ _ rfl r rfl nk rfl hnk.out kk HH3.out HI.out ?_
        intro w4 hh4 ht4
        have hspr : sp ≠ r := fun e => HSP.out.2 (by simp [e])
        have hs4 : SetAt w4 sp (some r) (kk.erase nk) := ⟨(ht4.block sp (by have := HT3.out.size; have := HSP.out.1; omega) (by simpa using hspr)).trans HS3.out.1, hh4⟩
        have HH4 := Lib.hid hs4
        have HT4 : Hid (Turn [r] w w4) := HT3.out.trans ht4
        clear hh4 ht4 hs4 hspr
        simp only [Act.put]
        refine wpList_nil ?_
        go_wp2_with fail
        go_roundw
        case rel =>
          refine ⟨k + 1, by omega, by go_num, ?_, HT4.out, ?_⟩
          · rw [HA.out]
            congr 1
            omega
          · rw [HA.out]; exact HH4.out
        case measure => simp [intOf]; omega
    · obtain rfl : k = n := by omega
      have HE : Hid (ns.take k = ns) := List.take_of_length_le (by rw [HN.out]; exact Nat.le_refl _)
      rw [HE.out] at HSk
      have hend : Ending.returned (.int .i64 ((ks.length : Int) - (delL ks (ns.take k)).length)) = Ending.returned (.int .i64 ((ks.length : Int) - (delL ks ns).length)) := by rw [HE.out]
      have HEnd := Lib.hid hend
      clear hend HE
      go_wp2_with fail
      go_ret
      exact ⟨HEnd.out, HT.out, HSk.out⟩

end Go.Proofs.Ytbflliiaigkmgaa
