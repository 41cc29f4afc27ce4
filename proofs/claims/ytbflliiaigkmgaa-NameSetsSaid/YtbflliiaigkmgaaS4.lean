/- Add, Del at a set that may have no map yet. -/
import Derived.Test.YtbflliiaigkmgaaS3
namespace Go.Proofs.Ytbflliiaigkmgaa
open Go.RowKit

def RRel (o : Option Nat) (wi : World) (r : Nat) : Prop := (o = none → wi.heap.size ≤ r) ∧ (∀ r0, o = some r0 → r = r0)
def AddPost (sp : Nat) (o : Option Nat) (wi : World) (d : Int) (ks : List (List UInt8)) (e : Ending) (w' : World) : Prop :=
  ∃ r, (o = none → wi.heap.size ≤ r) ∧ (∀ r0, o = some r0 → r = r0) ∧ e = .returned (.int .i64 d) ∧ Turn [sp, r] wi w' ∧ SetAt w' sp (some r) ks

set_option maxHeartbeats 1600000 in
theorem add_any (sp b n : Nat) (o : Option Nat) (ks ns : List (List UInt8)) (wi : World) (hs : SetAt wi sp o ks) (hb : NamesAt wi b ns) (hn : ns.length = n) (h12 : ∀ n ∈ ns, n.length = 12) (h64 : n ≤ 64) (hk64 : ks.length ≤ 64) :
    Calls Try.prog 18 #[.pointer (some ⟨sp, 0, none⟩), .slice (some ⟨b, 0, none⟩) n n] wi fun e w' => AddPost sp o wi (((addL ks ns).length : Int) - ks.length) (addL ks ns) e w' := by
  have hcell := hs.cell
  have hfree := hs.free
  have hspl : sp < wi.heap.size := by
    rcases Nat.lt_or_ge sp wi.heap.size with h' | h'
    · exact h'
    · have := hs.1; simp [Array.getElem?_eq_none h'] at this
  have hbl : b < wi.heap.size := by
    rcases Nat.lt_or_ge b wi.heap.size with h' | h'
    · exact h'
    · have := hb; simp [NamesAt, Array.getElem?_eq_none h'] at this
  have HN := Lib.hid hn
  have H12 := Lib.hid h12
  have HBi := Lib.hid hb
  have HSi := Lib.hid hs
  clear hn h12 hb hs
  cases o
  case' none =>
    have hk0 : ks = [] := HSi.out.2
    have hbs : b ≠ sp := fun e => by
      have h1 := HBi.out
      have h2 := HSi.out.1
      subst e
      rw [NamesAt, h2] at h1
      simp only [Option.some.injEq, Obj.cells.injEq] at h1
      exact absurd h1.2.1 (by decide)
    have hnil : ∀ W : World, (binOp .eql 37 (.map none) (.map none)).run Try.prog W = .ok (.bool true) W := fun W => run_eql_map_nil W 37 _ _ none Try.underlying37
    have hmm := @run_makeMap Try.prog
    have HSP := Lib.hid hspl
    have HBL := Lib.hid hbl
    have HBS := Lib.hid hbs
    have HK0 := Lib.hid hk0
    have hs1 := HSi.out.below (below_alloc1 wi (.map #[] 0)) (Nat.le_refl _)
    have hcell1 := hs1.cell
    have hfree1 := hs1.free
    have hset : ((wi.alloc (.map #[] 0)).setCell ⟨sp, 0, none⟩ (.map (some wi.heap.size))).heap[sp]? = some (.cells #[.map (some wi.heap.size)] 39) := by
      rw [heap_setCell_same _ _ _ _ _ _ hs1.1]; rfl
    have hmap : ((wi.alloc (.map #[] 0)).setCell ⟨sp, 0, none⟩ (.map (some wi.heap.size))).heap[wi.heap.size]? = some (mObj [] 0) := by
      rw [heap_setCell_other _ _ _ _ (by show wi.heap.size ≠ sp; omega)]; exact heap_alloc_new _ _
    have hnm : NamesAt ((wi.alloc (.map #[] 0)).setCell ⟨sp, 0, none⟩ (.map (some wi.heap.size))) b ns := by
      rw [NamesAt, heap_setCell_other _ _ _ _ (by show b ≠ sp; exact hbs), heap_alloc_old _ _ hbl]; exact HBi.out
    have htu : Turn [sp, wi.heap.size] wi ((wi.alloc (.map #[] 0)).setCell ⟨sp, 0, none⟩ (.map (some wi.heap.size))) :=
      ⟨rfl, rfl, rfl, by simp [World.setCell], fun k hk hm => by
        rw [heap_setCell_other _ _ _ _ (by show k ≠ sp; intro e; subst e; simp at hm), heap_alloc_old _ _ hk]⟩
    have HS : Hid (SetAt ((wi.alloc (.map #[] 0)).setCell ⟨sp, 0, none⟩ (.map (some wi.heap.size))) sp (some wi.heap.size) ks) :=
      ⟨hset, [], 0, hmap, by rw [hk0]; rfl, fun e he => by simp at he, by simp⟩
    have HB := Lib.hid hnm
    have HTU := Lib.hid htu
    clear hspl hbl hbs hk0 hs1 hset hmap hnm htu
    go_enter Try.func18, Try.ntmps18
    go_wp2_with fail
    clear hnil hmm hcell hfree hcell1 hfree1
    generalize (wi.alloc (.map #[] 0)).setCell ⟨sp, 0, none⟩ (.map (some wi.heap.size)) = w at *
    obtain ⟨r, HR⟩ : ∃ r, Hid (wi.heap.size = r) := ⟨_, rfl⟩
    have HRR : RRel none wi r := ⟨fun _ => by rw [HR.out]; exact Nat.le_refl _, fun r0 h => by cases h⟩
    rw [HR.out] at HS HTU
  case' some r =>
    have hnil : ∀ W : World, (binOp .eql 37 (.map (some r)) (.map none)).run Try.prog W = .ok (.bool false) W := fun W => run_eql_map_nil W 37 _ _ (some r) Try.underlying37
    have HRR : RRel (some r) wi r := ⟨(fun h => by cases h), fun r0 h => by cases h; rfl⟩
    have HTU : Hid (Turn [sp, r] wi wi) := Turn.refl _ _
    obtain ⟨w, HWW⟩ : ∃ w, Hid (wi = w) := ⟨_, rfl⟩
    have HS : Hid (SetAt wi sp (some r) ks) := HSi.out
    have HB : Hid (NamesAt wi b ns) := HBi.out
    clear hspl hbl hfree
    go_enter Try.func18, Try.ntmps18
    go_wp2_with fail
    clear hnil hcell
    rw [HWW.out] at HS HB
    rw [HWW.out]
    have HTU : Hid (Turn [sp, r] wi w) := by rw [← HWW.out]; exact Turn.refl _ _
    clear HWW
  all_goals
    have hsp : sp < w.heap.size ∧ sp ≠ r := by
      obtain ⟨l, c, h2, _⟩ := HS.out.2
      refine ⟨?_, fun e => by subst e; rw [HS.out.1] at h2; cases h2⟩
      rcases Nat.lt_or_ge sp w.heap.size with h' | h'
      · exact h'
      · have := HS.out.1; simp [Array.getElem?_eq_none h'] at this
    have hbb : b < w.heap.size ∧ b ≠ r := by
      obtain ⟨l, c, h2, _⟩ := HS.out.2
      refine ⟨?_, fun e => by subst e; rw [HB.out] at h2; cases h2⟩
      rcases Nat.lt_or_ge b w.heap.size with h' | h'
      · exact h'
      · have := HB.out; simp [NamesAt, Array.getElem?_eq_none h'] at this
    have HSP := Lib.hid hsp
    have HBB := Lib.hid hbb
    clear hsp hbb
    go_loopw [5, 21] (fun c i wr => ∃ k : Nat, k ≤ n ∧ i = .int .i64 k ∧ c = .int .i64 (((addL ks (ns.take k)).length : Int) - ks.length) ∧ Hid (Turn [r] w wr) ∧ Hid (HeldIs wr r (addL ks (ns.take k)))) (fun _ i _ => n - (intOf i).toNat)
    case atStart => exact ⟨0, Nat.zero_le _, rfl, by simp [addL], Turn.refl _ _, HS.out.2⟩
    case round =>
      obtain ⟨k, hk, rfl, rfl, HT, HH⟩ := hrel
      by_cases hlt : k < n
      · have hk2 : k < ns.length := by rw [HN.out]; exact hlt
        have hbk : wr.heap[b]? = w.heap[b]? := HT.out.block b HBB.out.1 (by simpa using HBB.out.2)
        have hsk : wr.heap[sp]? = w.heap[sp]? := HT.out.block sp HSP.out.1 (by simpa using HSP.out.2)
        have hnk : Hid (ns[k].length = 12) := H12.out _ (List.getElem_mem hk2)
        have hrg : Hid (wr.rangeAt b (k * 12) (bC ns[k]).toList) := NamesAt.range (w := wr) (hbk.trans HB.out) H12.out k hk2
        have HA : Hid (addL ks (ns.take (k + 1)) = add1 (addL ks (ns.take k)) ns[k]) := addL_snoc ks ns k hk2
        have HSk : Hid (SetAt wr sp (some r) (addL ks (ns.take k))) := ⟨hsk.trans HS.out.1, HH.out⟩
        have hz : w.heap.size ≤ wr.heap.size := HT.out.size
        have hle := addL_le ks (ns.take k)
        clear hbk hsk
        have hck := HSk.out.cell
        generalize ns[k] = nk at *
        generalize addL ks (ns.take k) = kk at *
        have HHas : Hid (∀ W, SetAt W sp (some r) kk → Calls Try.prog 19 #[.pointer (some ⟨sp, 0, none⟩), .agg (bC nk)] W fun e w' => e = .returned (.bool (inL kk nk)) ∧ Below W.heap.size W w') := fun W hW => has_any sp (some r) kk nk W hW hnk.out
        have HR : Hid (∀ W : World, Calls Try.prog 13 #[.agg (bC nk)] W fun e w' => e = .returned (.bool (rightB nk)) ∧ Below W.heap.size W w') := fun W => right_any nk W hnk.out
        cases hr : rightB nk
        · have HX : Hid (add1 kk nk = kk) := by show add1 kk nk = kk; rw [add1, hr]; rfl
          rw [hr] at HR
          clear hr hck
          go_wp2_with (first
            | (with_reducible refine ldmid rfl _ rfl b k rfl nk hnk.out hrg.out ?_)
            | (with_reducible refine ld23g rfl _ rfl wr.heap.size rfl nk hnk.out (0, 0) (heap_alloc_new _ _) ?_)
            | (rw [← bC_z12]; with_reducible refine st23n rfl _ _ rfl nk rfl rfl hnk.out ?_)
            | (go_at_call 13; (with_reducible refine (HR.out _).mono ?_); rintro e w1 ⟨rfl, hb1⟩; have s1 : wr.heap.size + 1 ≤ w1.heap.size := (by have := hb1.size; simpa using this)))
          have HT1 : Hid (Turn [r] w w1) := HT.out.trans ((Turn.of_below (below_alloc1 wr _)).trans (Turn.of_below hb1))
          have HS1 : Hid (SetAt w1 sp (some r) kk) := (HSk.out.below (below_alloc1 wr _) (Nat.le_refl _)).below hb1 (Nat.le_refl _)
          go_roundw
          case rel =>
            refine ⟨k + 1, by omega, by go_num, ?_, ?_, ?_⟩
            · rw [HA.out, HX.out]
            · exact HT1.out
            · rw [HA.out, HX.out]; exact HS1.out.2
          case measure => simp [intOf]; omega
        · rw [hr] at HR
          cases hi : inL kk nk
          · by_cases h64 : kk.length < 64
            · have HX : Hid (add1 kk nk = kk ++ [nk]) := by
                show add1 kk nk = kk ++ [nk]
                rw [add1, hi, hr, decide_eq_true h64]; rfl
              rw [hi] at HHas
              have HI := Lib.hid hi
              clear hr hi hck
              go_upto_region 10 with (first
                | (with_reducible refine ldmid rfl _ rfl b k rfl nk hnk.out hrg.out ?_)
                | (with_reducible refine ld23g rfl _ rfl wr.heap.size rfl nk hnk.out (0, 0) (heap_alloc_new _ _) ?_)
                | (rw [← bC_z12]; with_reducible refine st23n rfl _ _ rfl nk rfl rfl hnk.out ?_)
                | (go_at_call 13; (with_reducible refine (HR.out _).mono ?_); rintro e w1 ⟨rfl, hb1⟩; have s1 : wr.heap.size + 1 ≤ w1.heap.size := (by have := hb1.size; simpa using this); have HG1 : Hid (w1.heap[wr.heap.size]? = some (.cells (bC nk) 23)) := (hb1.block _ (by simp)).trans (heap_alloc_new _ _); have HS1 : Hid (SetAt w1 sp (some r) kk) := (HSk.out.below (below_alloc1 wr _) (Nat.le_refl _)).below hb1 (Nat.le_refl _))
                | (with_reducible refine ld23g rfl _ rfl wr.heap.size rfl nk hnk.out (0, 0) HG1.out ?_)
                | (go_at_call 19; (with_reducible refine (HHas.out _ HS1.out).mono ?_); rintro e w2 ⟨rfl, hb2⟩; have s2 : w1.heap.size ≤ w2.heap.size := hb2.size; have HS2 : Hid (SetAt w2 sp (some r) kk) := HS1.out.below hb2 (Nat.le_refl _); have HH2 : Hid (HeldIs w2 r kk) := HS2.out.2; have hck2 := HS2.out.cell)
                | (with_reducible refine wl_len37 rfl _ rfl r rfl kk HH2.out ?_))
              have HG2 : Hid (w2.heap[wr.heap.size]? = some (.cells (bC nk) 23)) := (hb2.block _ (by omega)).trans HG1.out
              have HT2 : Hid (Turn [r] w w2) := HT.out.trans ((Turn.of_below (below_alloc1 wr _)).trans ((Turn.of_below hb1).trans (Turn.of_below hb2)))
              refine wp_region_still_tail 5 (by kernel_rfl) (by kernel_rfl) ?_
              simp only [List.take_succ_cons, List.take_zero, List.drop_succ_cons, List.drop_zero]
              repeat (first
                | (with_reducible refine ws_load23 _ wr.heap.size nk (0, 0) rfl rfl rfl HG2.out hnk.out ?_; simp only [Act.put, List.setIfInBounds_toArray, List.set_cons_zero, List.set_cons_succ])
                | still_step)
              refine wpStill_nil ?_
              have HH3 : Hid (HeldIs { w2 with drawn := w2.drawn + 1 } r kk) := HH2.out
              have HT3 : Hid (Turn [r] w { w2 with drawn := w2.drawn + 1 }) := HT2.out.trans (Turn.drew _ _)
              generalize { w2 with drawn := w2.drawn + 1 } = w3 at *
              refine wl_upd37 rfl _ _ rfl r rfl nk rfl hnk.out kk HH3.out HI.out ?_
              intro w4 hh4 ht4
              have HH4 := Lib.hid hh4
              have HT4 : Hid (Turn [r] w w4) := HT3.out.trans ht4
              clear hh4 ht4
              simp only [Act.put]
              refine wpList_nil ?_
              go_wp2_with fail
              go_roundw
              case rel =>
                refine ⟨k + 1, by omega, by go_num, ?_, HT4.out, ?_⟩
                · rw [HA.out, HX.out]
                  simp only [List.length_append, List.length_cons, List.length_nil, Nat.zero_add]
                  congr 1
                  omega
                · rw [HA.out, HX.out]; exact HH4.out
              case measure => simp [intOf]; omega
            · have HX : Hid (add1 kk nk = kk) := by
                show add1 kk nk = kk
                rw [add1, hi, hr, decide_eq_false h64]; rfl
              rw [hi] at HHas
              have h64'' : (64 : Int) ≤ (kk.length : Nat) := by omega
              clear hr hi hck h64
              go_wp2_with (first
                | (with_reducible refine ldmid rfl _ rfl b k rfl nk hnk.out hrg.out ?_)
                | (with_reducible refine ld23g rfl _ rfl wr.heap.size rfl nk hnk.out (0, 0) (heap_alloc_new _ _) ?_)
                | (rw [← bC_z12]; with_reducible refine st23n rfl _ _ rfl nk rfl rfl hnk.out ?_)
                | (go_at_call 13; (with_reducible refine (HR.out _).mono ?_); rintro e w1 ⟨rfl, hb1⟩; have s1 : wr.heap.size + 1 ≤ w1.heap.size := (by have := hb1.size; simpa using this); have HG1 : Hid (w1.heap[wr.heap.size]? = some (.cells (bC nk) 23)) := (hb1.block _ (by simp)).trans (heap_alloc_new _ _); have HS1 : Hid (SetAt w1 sp (some r) kk) := (HSk.out.below (below_alloc1 wr _) (Nat.le_refl _)).below hb1 (Nat.le_refl _))
                | (with_reducible refine ld23g rfl _ rfl wr.heap.size rfl nk hnk.out (0, 0) HG1.out ?_)
                | (go_at_call 19; (with_reducible refine (HHas.out _ HS1.out).mono ?_); rintro e w2 ⟨rfl, hb2⟩; have s2 : w1.heap.size ≤ w2.heap.size := hb2.size; have HS2 : Hid (SetAt w2 sp (some r) kk) := HS1.out.below hb2 (Nat.le_refl _); have HH2 : Hid (HeldIs w2 r kk) := HS2.out.2; have hck2 := HS2.out.cell)
                | (with_reducible refine wl_len37 rfl _ rfl r rfl kk HH2.out ?_))
              have HT2 : Hid (Turn [r] w w2) := HT.out.trans ((Turn.of_below (below_alloc1 wr _)).trans ((Turn.of_below hb1).trans (Turn.of_below hb2)))
              go_roundw
              case rel =>
                refine ⟨k + 1, by omega, by go_num, ?_, ?_, ?_⟩
                · rw [HA.out, HX.out]
                · exact HT2.out
                · rw [HA.out, HX.out]; exact HS2.out.2
              case measure => simp [intOf]; omega
          · have HX : Hid (add1 kk nk = kk) := by show add1 kk nk = kk; rw [add1, hi, hr]; rfl
            rw [hi] at HHas
            clear hr hi hck
            go_wp2_with (first
              | (with_reducible refine ldmid rfl _ rfl b k rfl nk hnk.out hrg.out ?_)
              | (with_reducible refine ld23g rfl _ rfl wr.heap.size rfl nk hnk.out (0, 0) (heap_alloc_new _ _) ?_)
              | (rw [← bC_z12]; with_reducible refine st23n rfl _ _ rfl nk rfl rfl hnk.out ?_)
              | (go_at_call 13; (with_reducible refine (HR.out _).mono ?_); rintro e w1 ⟨rfl, hb1⟩; have s1 : wr.heap.size + 1 ≤ w1.heap.size := (by have := hb1.size; simpa using this); have HG1 : Hid (w1.heap[wr.heap.size]? = some (.cells (bC nk) 23)) := (hb1.block _ (by simp)).trans (heap_alloc_new _ _); have HS1 : Hid (SetAt w1 sp (some r) kk) := (HSk.out.below (below_alloc1 wr _) (Nat.le_refl _)).below hb1 (Nat.le_refl _))
              | (with_reducible refine ld23g rfl _ rfl wr.heap.size rfl nk hnk.out (0, 0) HG1.out ?_)
              | (go_at_call 19; (with_reducible refine (HHas.out _ HS1.out).mono ?_); rintro e w2 ⟨rfl, hb2⟩; have s2 : w1.heap.size ≤ w2.heap.size := hb2.size; have HS2 : Hid (SetAt w2 sp (some r) kk) := HS1.out.below hb2 (Nat.le_refl _); have HH2 : Hid (HeldIs w2 r kk) := HS2.out.2; have hck2 := HS2.out.cell)
              | (with_reducible refine wl_len37 rfl _ rfl r rfl kk HH2.out ?_))
            have HT2 : Hid (Turn [r] w w2) := HT.out.trans ((Turn.of_below (below_alloc1 wr _)).trans ((Turn.of_below hb1).trans (Turn.of_below hb2)))
            go_roundw
            case rel =>
              refine ⟨k + 1, by omega, by go_num, ?_, ?_, ?_⟩
              · rw [HA.out, HX.out]
              · exact HT2.out
              · rw [HA.out, HX.out]; exact HS2.out.2
            case measure => simp [intOf]; omega
      · obtain rfl : k = n := by omega
        have HE : Hid (ns.take k = ns) := List.take_of_length_le (by rw [HN.out]; exact Nat.le_refl _)
        rw [HE.out] at HH
        have hend : Ending.returned (.int .i64 (((addL ks (ns.take k)).length : Int) - ks.length)) = Ending.returned (.int .i64 (((addL ks ns).length : Int) - ks.length)) := by rw [HE.out]
        have HEnd := Lib.hid hend
        clear hend HE
        go_wp2_with fail
        go_ret
        exact ⟨r, HRR.1, HRR.2, HEnd.out, HTU.out.trans (HT.out.mono fun _ _ hm => by simp at hm; simp [hm]), (HT.out.block sp HSP.out.1 (by simpa using HSP.out.2)).trans HS.out.1, HH.out⟩
end Go.Proofs.Ytbflliiaigkmgaa
