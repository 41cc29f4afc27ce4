/- Times at a table with two times. -/
import Derived.Test.YtmdhlpnieimdaaaW3
namespace Go.Proofs.Ytmdhlpnieimdaaa
open Go.RowKit

theorem perm_two {x y : Nat} {l : List Nat} (h : [x, y].Perm l) : l = [x, y] ∨ l = [y, x] := by
  have hl : l.length = 2 := h.length_eq.symm
  match l, hl with
  | [a, b], _ =>
    have ha : a = x ∨ a = y := by
      have : a ∈ [x, y] := h.mem_iff.2 (by simp)
      simpa using this
    rcases ha with rfl | rfl
    · left
      have := (List.perm_cons a).1 h
      simp at this; rw [this]
    · right
      have h2 : [a, x].Perm [a, b] := (List.Perm.swap _ _ []).trans h
      have := (List.perm_cons a).1 h2
      simp at this; rw [this]

def TimesPost (x y : Nat) (w : World) (e : Ending) (w' : World) : Prop := Below w.heap.size w w' ∧ ∃ g cap, e = .returned (.slice (some ⟨g, 0, none⟩) 2 cap) ∧ w.heap.size ≤ g ∧ Two w' g (min x y) (max x y)
set_option maxHeartbeats 1000000 in
theorem times_two (tp used r x y : Nat) (at' : List Nat) (f : Nat → Nat) (w : World) (ht : Tab w tp used at' f [x, y] (some r)) :
    Calls Try.prog 17 #[.pointer (some ⟨tp, 0, none⟩)] w (TimesPost x y w) := by
  have hcm := ht.1.cm
  obtain ⟨l, c, hm, hK, hfb, hpw, hnd, _⟩ := ht.2.2
  have hb : ∀ e ∈ l, e.b < c := fun e he => (hfb e he).1
  have hn := nodup_of_lt _ hpw
  have hrg := run_range_map (P := Try.prog) w 25 23 3 r (l.map EntN.e).toArray c Try.underlying25 hm
  have HB0 : Hid (Below w.heap.size w (w.alloc (.mapIter (some r) c #[] c))) := below_alloc1 _ _
  have HI0 : Hid (IterAt (w.alloc (.mapIter (some r) c #[] c)) w.heap.size r l c [] l) := ⟨#[], c, heap_alloc_new _ _, Nat.le_refl _, rfl, .refl _⟩
  have HM := Lib.hid hm
  have HN := Lib.hid hn
  have HE := Lib.hid hb
  have HK := Lib.hid hK
  have hll : l.length = 2 := by have := congrArg List.length hK; simpa using this
  have hr : r < w.heap.size := lt_heap hm
  clear ht hm hK hfb hpw hnd hb hn
  go_enter Try.func17, Try.ntmps17
  go_wp2_with fail
  generalize w.alloc (.mapIter (some r) c #[] c) = W at *
  clear hrg hcm
  go_loopw [3] (fun v wr => ∃ js rest : List EntN, Hid (IterAt wr w.heap.size r l c js rest) ∧ Hid (Below w.heap.size w wr) ∧ Hid (OwnU wr (w.heap.size + 1) v (js.map EntN.k))) (fun v _ => l.length - slen v)
  case atStart => exact ⟨[], l, HI0.out, HB0.out, OwnU.nil _ _⟩
  case round =>
    obtain ⟨js, rest, HI, HBel, HO⟩ := hrel
    have hmr : wr.heap[r]? = some (mObjN l c) := (HBel.out.block r hr).trans HM.out
    have hsl := HO.out.slen
    have hpl : l.length = js.length + rest.length := by
      obtain ⟨_, _, _, _, _, h⟩ := HI.out
      rw [h.length_eq, List.length_append]
    rw [List.length_map] at hsl
    rcases iter_step HI.out hmr HE.out HN.out (by omega) 0 with ⟨rfl, hnx⟩ | ⟨e, rest', w1, hx, hlen, hnx, hen, hit, hoth, hsz, hos, htp, hou⟩
    · have hpm : [x, y].Perm (js.map EntN.k) := by
        obtain ⟨_, _, _, _, _, h⟩ := HI.out
        rw [List.append_nil] at h
        rw [← HK.out]; exact h.map EntN.k
      have HS : ∃ g cap, u3 = .slice (some ⟨g, 0, none⟩) 2 cap ∧ Hid (w.heap.size ≤ g ∧ ∀ W, W = wr → Calls Try.prog 24 #[.slice (some ⟨g, 0, none⟩) 2 cap] W fun e w' => e = .returned (.tuple #[]) ∧ Turn [g] wr w' ∧ Two w' g (min x y) (max x y)) := by
        rcases perm_two hpm with h | h
        · have ho := HO.out
          rw [h] at ho
          obtain ⟨g, cap, hv, hg, h2⟩ := ho.two
          exact ⟨g, cap, hv, by omega, fun W hW => by rw [hW]; exact sort2_any g x y cap wr h2⟩
        · have ho := HO.out
          rw [h] at ho
          obtain ⟨g, cap, hv, hg, h2⟩ := ho.two
          exact ⟨g, cap, hv, by omega, fun W hW => by rw [hW]; have := sort2_any g y x cap wr h2; exact this.mono fun e w5 h => ⟨h.1, h.2.1, by rw [Nat.min_comm, Nat.max_comm]; exact h.2.2⟩⟩
      obtain ⟨g, cap, rfl, HS⟩ := HS
      go_wp2_with (go_at_call 24; (refine (HS.out.2 _ rfl).mono ?_); rintro e w4 ⟨rfl, ht4, h24⟩)
      go_ret
      exact ⟨HBel.out.trans (ht4.below (fun k hk => by simp at hk; subst hk; exact HS.out.1) HBel.out.size), g, cap, rfl, HS.out.1, h24⟩
    · have HIT := Lib.hid hit
      have hb1 : Below w.heap.size wr w1 := ⟨hos, htp, hou, by omega, fun k hk => hoth k (by omega)⟩
      have HB1 : Hid (Below w.heap.size w w1) := HBel.out.trans hb1
      have HO1 : Hid (OwnU w1 (w.heap.size + 1) u3 (js.map EntN.k)) := HO.out.block fun g hg => hoth g (by have := (HO.out.lt g hg).1; omega)
      have hq1 : w.heap.size + 1 ≤ w1.heap.size := HIT.out.lt
      have HB3 : Hid (Below (w.heap.size + 1) w1 (w1.alloc (.cells #[.int .u64 e.k] 23))) := (below_alloc1 _ _).mono hq1
      have HO3 : Hid (OwnU (w1.alloc (.cells #[.int .u64 e.k] 23)) (w.heap.size + 1) u3 (js.map EntN.k)) := HO1.out.below (below_alloc1 _ _)
      have HQ3 : Hid (w.heap.size + 1 ≤ (w1.alloc (.cells #[.int .u64 e.k] 23)).heap.size) := Nat.le_trans hq1 HB3.out.size
      have hcl2 : (js.map EntN.k).length ≤ 1000000000 := by rw [List.length_map]; omega
      clear hit hoth hsz hos htp hou hb1 HO HI HBel hmr
      obtain ⟨xk, hxk⟩ : ∃ xk, Hid (e.k = xk) := ⟨_, rfl⟩
      rw [hxk.out] at hnx hen HB3 HO3 HQ3
      go_wp2_with (at_builtin; (refine wl_appU rfl _ _ rfl (w.heap.size + 1) _ (js.map EntN.k) rfl HO3.out w1.heap.size 1 xk rfl (heap_alloc_new _ _) hcl2 HQ3.out ?_); intro v' w3 ho3 hg3)
      have hb4 : Below (w.heap.size + 1) w1 w3 := HB3.out.trans (grown_below hg3 (fun g hg => (HO3.out.lt g hg).1) HQ3.out)
      go_roundw
      case rel =>
        refine ⟨js ++ [e], rest', HIT.out.block (hb4.block _ (by omega)), HB1.out.trans (hb4.mono (by omega)), ?_⟩
        show OwnU w3 (w.heap.size + 1) v' ((js ++ [e]).map EntN.k)
        rw [List.map_append, List.map_cons, List.map_nil, hxk.out]; exact ho3
      case measure =>
        have := ho3.slen
        rw [List.length_append, List.length_map, List.length_singleton] at this
        show l.length - slen v' < l.length - slen u3
        omega
end Go.Proofs.Ytmdhlpnieimdaaa
