/- Times at any table; Oldest, Below. -/
import Derived.Test.YtmdhlpnieimdaaaZD
namespace Go.Proofs.Ytmdhlpnieimdaaa
open Go.RowKit

theorem OwnU.row {w : World} {base : Nat} {v : Value} {ns : List Nat} (h : OwnU w base v ns) : (v = .slice none 0 0 ∧ ns = []) ∨ ∃ g cap, v = .slice (some ⟨g, 0, none⟩) ns.length cap ∧ base ≤ g ∧ g < w.heap.size ∧ SM w g ns.toArray := by
  obtain ⟨h1, h2 | ⟨g, cap, cur, hv, hg, hh, hc, hm, hs, ht⟩⟩ := h
  · left
    exact ⟨h2.1, List.length_eq_zero_iff.1 h2.2⟩
  · right
    refine ⟨g, cap, hv, hg, lt_heap hh, fun i hi => ?_, fun i => by simp [World.frozen?, hh]⟩
    have hi' : i < ns.length := by simpa using hi
    rw [cell_of_tab hh]
    have := congrArg (fun l : List Value => l[i]?) ht
    simp only [uC, List.getElem?_map, List.getElem?_eq_getElem hi', Option.map_some] at this
    rw [List.getElem?_take_of_lt (by omega)] at this
    simpa [hi'] using this
theorem SM.rd {w : World} {g cap : Nat} {d : Array Nat} {l : List Nat} (h : SM w g d) (hd : d.toList = l) (hg : g < w.heap.size) : RdU w (.slice (some ⟨g, 0, none⟩) l.length cap) l := by
  subst hd
  refine ⟨_, cap, rfl, fun i hi => ⟨g, rfl, hg, ?_⟩⟩
  have hi' : i < d.size := by simpa using hi
  rw [h.c i hi']
  simp [hi']
theorem RdU.nil (w : World) : RdU w (.slice none 0 0) [] := ⟨none, 0, rfl, fun i h => absurd h (by simp)⟩
/-- What Times leaves. -/
def TimP (l : List Nat) (w : World) (e : Ending) (w' : World) : Prop := Below w.heap.size w w' ∧ ∃ v, e = .returned v ∧ RdU w' v l
set_option maxRecDepth 100000 in
set_option maxHeartbeats 2000000 in
theorem times_any (tp : Nat) (s : PS) (o : Option Nat) (l0 : List Nat) (w : World) (ht : TabP w tp s o) (hI : IsT s l0) (hK9 : s.K.length ≤ 900) :
    Calls Try.prog 17 #[.pointer (some ⟨tp, 0, none⟩)] w (TimP l0 w) := by
  have HS := Lib.hid ht.2
  have HI0 := Lib.hid hI
  have hcm := ht.1.1.cm
  cases o with
  | none =>
    obtain ⟨hf, hK⟩ := ht.1.2
    have hl0 : l0 = [] := by
      cases l0 with
      | nil => rfl
      | cons x l => have := (hI.2 x).1 (by simp); rw [hf] at this; exact absurd rfl this
    subst hl0
    clear ht hI hf hK HS HI0
    have hrg := run_range_nilMap (P := Try.prog) w 25 23 3 Try.underlying25
    have hnx : ∀ ty, (Instr.next (.pointer (some ⟨w.heap.size, 0, none⟩)) false ty).run Try.prog (w.alloc (.mapIter none 0 #[] 0)) = _ := fun ty => run_next_nilMap w ty 0 0 #[]
    have HB : Hid (Below w.heap.size w (w.alloc (.mapIter none 0 #[] 0))) := below_alloc1 _ _
    go_enter Try.func17, Try.ntmps17
    go_wp2_with fail
    refine wp_loop_rounds 1 ?_
    rw [rounds_succ]
    go_wp2_with (go_at_call 24; (refine (sort_nil _).mono ?_); rintro e w4 ⟨rfl, rfl⟩)
    go_ret
    exact ⟨HB.out, _, rfl, RdU.nil _⟩
  | some r =>
    obtain ⟨l, c, hm, hK, hfb, hpw, hnd, _⟩ := ht.1.2.2
    have hb : ∀ e ∈ l, e.b < c := fun e he => (hfb e he).1
    have hn := nodup_of_lt _ hpw
    have hrg := run_range_map (P := Try.prog) w 25 23 3 r (l.map EntN.e).toArray c Try.underlying25 hm
    have HB0 : Hid (Below w.heap.size w (w.alloc (.mapIter (some r) c #[] c))) := below_alloc1 _ _
    have HIt0 : Hid (IterAt (w.alloc (.mapIter (some r) c #[] c)) w.heap.size r l c [] l) := ⟨#[], c, heap_alloc_new _ _, Nat.le_refl _, rfl, .refl _⟩
    have HM := Lib.hid hm
    have HN := Lib.hid hn
    have HE := Lib.hid hb
    have HK := Lib.hid hK
    have hll : l.length ≤ 900 := by have := congrArg List.length hK; rw [List.length_map] at this; omega
    have hr : r < w.heap.size := lt_heap hm
    clear ht hm hK hfb hpw hnd hb hn hI
    go_enter Try.func17, Try.ntmps17
    go_wp2_with fail
    generalize w.alloc (.mapIter (some r) c #[] c) = W at *
    clear hrg hcm
    go_loopw [3] (fun v wr => ∃ js rest : List EntN, Hid (IterAt wr w.heap.size r l c js rest) ∧ Hid (Below w.heap.size w wr) ∧ Hid (OwnU wr (w.heap.size + 1) v (js.map EntN.k))) (fun v _ => l.length - slen v)
    case atStart => exact ⟨[], l, HIt0.out, HB0.out, OwnU.nil _ _⟩
    case round =>
      obtain ⟨js, rest, HI, HBel, HO⟩ := hrel
      have hmr : wr.heap[r]? = some (mObjN l c) := (HBel.out.block r hr).trans HM.out
      have hsl := HO.out.slen
      have hpl : l.length = js.length + rest.length := by
        obtain ⟨_, _, _, _, _, h⟩ := HI.out
        rw [h.length_eq, List.length_append]
      rw [List.length_map] at hsl
      rcases iter_step HI.out hmr HE.out HN.out (by omega) 0 with ⟨rfl, hnx⟩ | ⟨e, rest', w1, hx, hlen, hnx, hen, hit, hoth, hsz, hos, htp, hou⟩
      · have hpm : (js.map EntN.k).Perm s.K := by
          obtain ⟨_, _, _, _, _, h⟩ := HI.out
          rw [List.append_nil] at h
          rw [← HK.out]; exact (h.map EntN.k).symm
        have HSo : Hid (∀ W, W = wr → Calls Try.prog 24 #[u3] W fun e w' => e = .returned (.tuple #[]) ∧ Below w.heap.size w w' ∧ RdU w' u3 l0) := by
          show ∀ W, W = wr → _
          rintro _ rfl
          have hsi := sorted_is HS.out hpm HI0.out
          have hlk : (js.map EntN.k).length ≤ 900 := by rw [List.length_map]; omega
          rcases HO.out.row with ⟨rfl, h0⟩ | ⟨g, cap, rfl, hg, hgl, hsm⟩
          · rw [h0] at hsi
            have hl0 : l0 = [] := List.length_eq_zero_iff.1 (by rw [← hsi, Array.length_toList, (Sort.sort_sorts ltN swo_ltN _).1.1]; rfl)
            exact (sort_nil _).mono fun e w' ⟨he, hw⟩ => ⟨he, hw ▸ HBel.out, by rw [hl0]; exact RdU.nil _⟩
          · refine (sort_any g _ cap _ _ hsm (by simp) hlk).mono fun e w' ⟨he, ht, h2⟩ => ⟨he, HBel.out.trans (ht.below (fun k hk => by simp at hk; omega) HBel.out.size), ?_⟩
            have h3 := h2.rd (cap := cap) hsi (Nat.lt_of_lt_of_le hgl ht.size)
            have e1 : l0.length = (js.map EntN.k).length := by
              rw [← hsi, Array.length_toList, (Sort.sort_sorts ltN swo_ltN _).1.1]; simp
            rw [e1] at h3
            exact h3
        go_wp2_with (go_at_call 24; (refine (HSo.out _ rfl).mono ?_); rintro e w4 ⟨rfl, hb4, hr4⟩)
        go_ret
        exact ⟨hb4, _, rfl, hr4⟩
      · have HIT := Lib.hid hit
        have hb1 : Below w.heap.size wr w1 := ⟨hos, htp, hou, by omega, fun k hk => hoth k (by omega)⟩
        have HB1 : Hid (Below w.heap.size w w1) := HBel.out.trans hb1
        have HO1 : Hid (OwnU w1 (w.heap.size + 1) u3 (js.map EntN.k)) := HO.out.block fun g hg => hoth g (by have := (HO.out.lt g hg).1; omega)
        have hq1 : w.heap.size + 1 ≤ w1.heap.size := HIT.out.lt
        have HB3 : Hid (Below (w.heap.size + 1) w1 (w1.alloc (.cells #[.int .u64 e.k] 23))) := (below_alloc1 _ _).mono hq1
        have HO3 : Hid (OwnU (w1.alloc (.cells #[.int .u64 e.k] 23)) (w.heap.size + 1) u3 (js.map EntN.k)) := HO1.out.below (below_alloc1 _ _)
        have HQ3 : Hid (w.heap.size + 1 ≤ (w1.alloc (.cells #[.int .u64 e.k] 23)).heap.size) := Nat.le_trans hq1 HB3.out.size
        have hcl2 : (js.map EntN.k).length ≤ 1000000000 := by rw [List.length_map]; omega
        clear hit hoth hsz hos htp hou hb1 HO HI HBel hmr
        obtain ⟨xk, hxk⟩ : ∃ xk, Hid (e.k = xk) := ⟨_, rfl⟩
        rw [hxk.out] at hnx hen HB3 HO3 HQ3
        go_wp2_with (at_builtin; (refine wl_appU rfl _ _ rfl (w.heap.size + 1) _ (js.map EntN.k) rfl HO3.out w1.heap.size 1 xk rfl (heap_alloc_new _ _) hcl2 HQ3.out ?_); intro v' w3 ho3 hg3)
        have hb4 : Below (w.heap.size + 1) w1 w3 := HB3.out.trans (grown_below hg3 (fun g hg => (HO3.out.lt g hg).1) HQ3.out)
        go_roundw
        case rel =>
          refine ⟨js ++ [e], rest', HIT.out.block (hb4.block _ (by omega)), HB1.out.trans (hb4.mono (by omega)), ?_⟩
          show OwnU w3 (w.heap.size + 1) v' ((js ++ [e]).map EntN.k)
          rw [List.map_append, List.map_cons, List.map_nil, hxk.out]; exact ho3
        case measure =>
          have := ho3.slen
          rw [List.length_append, List.length_map, List.length_singleton] at this
          show l.length - slen v' < l.length - slen u3
          omega
def headU (l : List Nat) : Nat := l.headD 0
def someU (l : List Nat) : Bool := !l.isEmpty
def belU (l : List Nat) (t : Nat) : Bool := someU l && decide (headU l < t)
set_option maxRecDepth 100000 in
set_option maxHeartbeats 2000000 in
theorem oldest_any (tp : Nat) (s : PS) (o : Option Nat) (l0 : List Nat) (w : World) (ht : TabP w tp s o) (hI : IsT s l0) (hK9 : s.K.length ≤ 900) :
    Calls Try.prog 16 #[.pointer (some ⟨tp, 0, none⟩)] w fun e w' => e = .returned (.tuple #[.int .u64 (headU l0 : Nat), .bool (someU l0)]) ∧ Below w.heap.size w w' := by
  have KT := Lib.hid (times_any tp s o l0 w ht hI hK9)
  clear ht hI hK9
  go_enter Try.func16, Try.ntmps16
  go_upto_region 2 with (go_at_call 17; (refine KT.out.mono ?_); rintro e w1 ⟨hb1, v, rfl, hr1⟩)
  obtain ⟨q, c, rfl, hr⟩ := hr1
  have HB := Lib.hid hb1
  clear hb1 KT
  cases l0 with
  | nil =>
    clear hr
    go_wp2_with fail
    refine bodyPost_ret (results_tmp2 rfl _ _ _) rfl ⟨rfl, HB.out⟩
  | cons x l =>
    obtain ⟨g, rfl, hg, hc⟩ := hr 0 (by simp)
    have hl0 : (((x :: l).length : Nat) : Int) = (l.length : Int) + 1 := by simp
    have hlp : (0 : Int) < (((x :: l).length : Nat) : Int) := by rw [hl0]; omega
    have hle : ((((x :: l).length : Nat) : Int) == 0) = false := by rw [hl0]; simp; omega
    have hln : (0 : Nat) < (x :: l).length := by simp
    simp only [List.getElem_cons_zero] at hc
    clear hr hl0
    generalize (x :: l).length = n at *
    go_wp2_with fail
    refine bodyPost_ret (results_tmp2 rfl _ _ _) rfl ⟨rfl, HB.out⟩
set_option maxRecDepth 100000 in
set_option maxHeartbeats 2000000 in
theorem below_anyT (tp t : Nat) (s : PS) (o : Option Nat) (l0 : List Nat) (w : World) (ht : TabP w tp s o) (hI : IsT s l0) (hK9 : s.K.length ≤ 900) :
    Calls Try.prog 18 #[.pointer (some ⟨tp, 0, none⟩), .int .u64 (t : Int)] w fun e w' => e = .returned (.bool (belU l0 t)) ∧ Below w.heap.size w w' := by
  have KT := Lib.hid (oldest_any tp s o l0 w ht hI hK9)
  clear ht hI hK9
  unfold belU
  generalize headU l0 = x at *
  generalize someU l0 = b at *
  have hd : decide ((x : Int) < (t : Int)) = decide (x < t) := by simp
  cases b
  · go_enter Try.func18, Try.ntmps18
    go_wp2_with (go_at_call 16; (refine KT.out.mono ?_); rintro e w1 ⟨rfl, hb1⟩)
    go_ret
    exact ⟨rfl, hb1⟩
  · go_enter Try.func18, Try.ntmps18
    go_wp2_with (go_at_call 16; (refine KT.out.mono ?_); rintro e w1 ⟨rfl, hb1⟩)
    go_ret
    exact ⟨by simp, hb1⟩
end Go.Proofs.Ytmdhlpnieimdaaa
