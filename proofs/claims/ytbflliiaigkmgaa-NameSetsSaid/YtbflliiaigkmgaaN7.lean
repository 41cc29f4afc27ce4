/- The set's List. -/
import Derived.Test.YtbflliiaigkmgaaN6
namespace Go.Proofs.Ytbflliiaigkmgaa
open Go.RowKit

/-- The iterator in block q over the map in block r: what has come out is js, what is left is rest. -/
def IterAt (w : World) (q r : Nat) (l : List Ent) (c : Nat) (js rest : List Ent) : Prop :=
  ∃ (seen : Array Nat) (c0 : Nat), w.heap[q]? = some (.mapIter (some r) c seen c0) ∧ c ≤ c0 ∧ seen.toList = js.map Ent.b ∧ l.Perm (js ++ rest)

theorem left_of (l : List Ent) (js rest : List Ent) (seen : Array Nat) (hs : seen.toList = js.map Ent.b) (hp : l.Perm (js ++ rest)) (hn : (l.map Ent.b).Nodup) (e : MapEntry) :
    e ∈ (leftOf (l.map Ent.e).toArray seen).toList ↔ ∃ x ∈ rest, e = x.e := by
  have hn' : ((js ++ rest).map Ent.b).Nodup := (hp.map Ent.b).nodup_iff.1 hn
  have hsc : ∀ n, seen.contains n = true ↔ n ∈ js.map Ent.b := fun n => by
    rw [← hs, Array.contains_iff_mem]; simp
  simp only [leftOf, Array.toList_filter, List.mem_filter, List.mem_map, Bool.not_eq_true', List.toList_toArray]
  constructor
  · rintro ⟨⟨x, hx, rfl⟩, h2⟩
    rcases List.mem_append.1 (hp.mem_iff.1 hx) with h | h
    · have : seen.contains x.b = true := (hsc _).2 (List.mem_map.2 ⟨x, h, rfl⟩)
      rw [show (Ent.e x).born = x.b from rfl, this] at h2; cases h2
    · exact ⟨x, h, rfl⟩
  · rintro ⟨x, hx, rfl⟩
    refine ⟨⟨x, hp.mem_iff.2 (List.mem_append.2 (.inr hx)), rfl⟩, ?_⟩
    cases h : seen.contains (Ent.e x).born
    · rfl
    · have h1 := (hsc x.b).1 h
      rw [List.map_append] at hn'
      have := (List.nodup_append.1 hn').2.2 x.b h1 x.b (List.mem_map.2 ⟨x, hx, rfl⟩)
      exact absurd rfl this

/-- A step of the iterator. -/
theorem iter_step {w : World} {q r : Nat} {l : List Ent} {c : Nat} {js rest : List Ent} (h : IterAt w q r l c js rest) (hm : w.heap[r]? = some (mObj l c)) (hb : ∀ e ∈ l, e.b < c) (hn : (l.map Ent.b).Nodup) (hqr : q ≠ r) (ty : TypeId) :
    (rest = [] ∧ (Instr.next (.pointer (some ⟨q, 0, none⟩)) false ty).run Try.prog w = .ok (.tuple #[.bool false]) w) ∨
    ∃ (x : Ent) (rest' : List Ent) (w1 : World), x ∈ l ∧ rest.length = rest'.length + 1 ∧ (Instr.next (.pointer (some ⟨q, 0, none⟩)) false ty).run Try.prog w = .ok (.tuple #[.bool true, .agg (bC x.k), x.v]) w1 ∧
      (Instr.entry (.pointer (some ⟨q, 0, none⟩))).run Try.prog w1 = .ok (.tuple #[.agg (bC x.k), x.v]) w1 ∧ IterAt w1 q r l c (js ++ [x]) rest' ∧ (∀ k, k ≠ q → w1.heap[k]? = w.heap[k]?) ∧ w1.heap.size = w.heap.size ∧ w1.os = w.os ∧ w1.tape = w.tape ∧ w1.output = w.output := by
  obtain ⟨seen, c0, h1, h2, h3, h4⟩ := h
  have hold : ∀ x ∈ (l.map Ent.e).toArray.toList, x.born < c := fun x hx => by
    simp only [List.toList_toArray, List.mem_map] at hx
    obtain ⟨e, he, rfl⟩ := hx
    exact hb e he
  have hL := left_of l js rest seen h3 h4 hn
  by_cases hr : rest = []
  · left
    refine ⟨hr, ?_⟩
    rcases run_next_at (P := Try.prog) w ty q r c c0 seen (l.map Ent.e).toArray c h1 hm hold h2 with ⟨_, h⟩ | ⟨e, he, _⟩
    · exact h
    · obtain ⟨x, hx, _⟩ := (hL e).1 he
      rw [hr] at hx; simp at hx
  · right
    rcases run_next_at (P := Try.prog) w ty q r c c0 seen (l.map Ent.e).toArray c h1 hm hold h2 with ⟨h0, _⟩ | ⟨e, he, w1, hw1, hrun⟩
    · obtain ⟨x, hx⟩ := List.exists_mem_of_ne_nil rest hr
      have := (hL x.e).2 ⟨x, hx, rfl⟩
      rw [Array.eq_empty_of_size_eq_zero h0] at this
      simp at this
    · obtain ⟨x, hx, rfl⟩ := (hL e).1 he
      have hxl : x ∈ l := h4.mem_iff.2 (List.mem_append.2 (.inr hx))
      obtain ⟨a, b, rfl⟩ := List.append_of_mem hx
      have hw1h : w1.heap = w.heap ∧ w1.os = w.os ∧ w1.tape = w.tape ∧ w1.output = w.output := by rcases hw1 with rfl | rfl <;> exact ⟨rfl, rfl, rfl, rfl⟩
      obtain ⟨e1, e2, e3, e4⟩ := hw1h
      have h1' : w1.heap[q]? = some (.mapIter (some r) c seen c0) := by rw [e1]; exact h1
      have hm' : (putO w1 q (.mapIter (some r) c (seen.push x.b) c)).heap[r]? = some (mObj l c) := by rw [putO_other _ _ _ _ (Ne.symm hqr), e1]; exact hm
      have hq' : (putO w1 q (.mapIter (some r) c (seen.push x.b) c)).heap[q]? = some (.mapIter (some r) c (seen.push x.b) c) := putO_same _ _ _ _ h1'
      refine ⟨x, a ++ b, putO w1 q (.mapIter (some r) c (seen.push x.b) c), hxl, by simp; omega, hrun, ?_, ?_, fun k hk => by rw [putO_other _ _ _ _ hk, e1], by rw [putO_size, e1], e2, e3, e4⟩
      · have := run_entry_at (P := Try.prog) (putO w1 q (.mapIter (some r) c (seen.push x.b) c)) q r c seen (l.map Ent.e).toArray c x.e hq' hm' (by simp only [List.toList_toArray]; exact List.mem_map.2 ⟨x, hxl, rfl⟩) (by rw [List.toList_toArray, List.map_map]; exact hn)
        exact this
      · refine ⟨seen.push x.b, c, hq', Nat.le_refl _, by simp [h3], h4.trans ?_⟩
        have : (js ++ (a ++ x :: b)).Perm (js ++ (x :: (a ++ b))) := List.perm_middle.append_left js
        rw [List.append_assoc]
        exact this

theorem nodup_of_lt : ∀ (l : List Nat), l.Pairwise (· < ·) → l.Nodup := fun l h => h.imp fun h => Nat.ne_of_lt h

def slen : Value → Nat
  | .slice _ n _ => n
  | _ => 0
theorem Own.slen {w : World} {base : Nat} {E : TypeId} {v : Value} {ns : List (List UInt8)} (h : Own w base E v ns) : slen v = ns.length := by
  obtain ⟨_, ⟨rfl, h2⟩ | ⟨g, cap, cur, rfl, _⟩⟩ := h
  · exact h2.symm
  · rfl
theorem IterAt.block {w w' : World} {q r : Nat} {l : List Ent} {c : Nat} {js rest : List Ent} (h : IterAt w q r l c js rest) (he : w'.heap[q]? = w.heap[q]?) : IterAt w' q r l c js rest := by
  obtain ⟨s, c0, h1, h2⟩ := h; exact ⟨s, c0, he.trans h1, h2⟩
theorem IterAt.lt {w : World} {q r : Nat} {l : List Ent} {c : Nat} {js rest : List Ent} (h : IterAt w q r l c js rest) : q < w.heap.size := by
  obtain ⟨s, c0, h1, h2⟩ := h; exact lt_heap h1

set_option maxHeartbeats 800000 in
theorem list_any (sp : Nat) (o : Option Nat) (ks : List (List UInt8)) (w : World) (hs : SetAt w sp o ks) (h64 : ks.length ≤ 64) :
    Calls Try.prog 27 #[.pointer (some ⟨sp, 0, none⟩)] w fun e w' => Below w.heap.size w w' ∧ ∃ v', e = .returned v' ∧ Own w' w.heap.size 23 v' (insAll ks) := by
  have hcell := hs.cell
  cases o with
  | none =>
    obtain rfl : ks = [] := hs.2
    have HO : Hid (∀ W : World, w.heap.size ≤ W.heap.size → Calls Try.prog 32 #[.slice none 0 0] W fun e w' => e = .returned (.slice none 0 0) ∧ Below w.heap.size W w' ∧ Own w' w.heap.size 23 (.slice none 0 0) (insAll [])) := fun W hW => ordered_any _ [] w.heap.size W (Own.nil _ _ _) (fun x hx => by simp at hx) hW (by simp)
    have hrg := run_range_nilMap (P := Try.prog) w 37 23 4 Try.underlying37
    have hnx := fun ty => run_next_nilMap (P := Try.prog) w ty 0 0 #[]
    have HB : Hid (Below w.heap.size w (w.alloc (.mapIter none 0 #[] 0))) := below_alloc1 _ _
    clear hs
    go_enter Try.func27, Try.ntmps27
    go_wp2_with fail
    go_loop [3] (fun c => c = .slice none 0 0) (fun _ => 0)
    case atStart => rfl
    case round =>
      obtain rfl := hrel
      go_wp2_with (first
        | (go_at_call 32; (refine (HO.out _ HB.out.size).mono ?_); rintro e w1 ⟨rfl, hb1, ho1⟩))
      go_ret
      exact ⟨HB.out.trans hb1, _, rfl, ho1⟩
  | some r =>
    obtain ⟨l, c, hm, hk, he, hpw⟩ : HeldIs w r ks := hs.2
    have hn := nodup_of_lt _ hpw
    have hrg := run_range_map (P := Try.prog) w 37 23 4 r (l.map Ent.e).toArray c Try.underlying37 hm
    have HB0 : Hid (Below w.heap.size w (w.alloc (.mapIter (some r) c #[] c))) := below_alloc1 _ _
    have HI0 : Hid (IterAt (w.alloc (.mapIter (some r) c #[] c)) w.heap.size r l c [] l) := ⟨#[], c, heap_alloc_new _ _, Nat.le_refl _, rfl, .refl _⟩
    have HM := Lib.hid hm
    have HN := Lib.hid hn
    have hll : l.length ≤ 64 := by rw [← hk] at h64; simpa using h64
    have HE : Hid (∀ e ∈ l, e.k.length = 12 ∧ e.b < c) := fun e h => (he e h).2
    have HK := Lib.hid hk
    have hr : r < w.heap.size := lt_heap hm
    clear hs hk he hpw hn hm
    go_enter Try.func27, Try.ntmps27
    go_wp2_with fail
    generalize w.alloc (.mapIter (some r) c #[] c) = W at *
    clear hrg hcell
    go_loopw [3] (fun v wr => ∃ js rest : List Ent, Hid (IterAt wr w.heap.size r l c js rest) ∧ Hid (Below w.heap.size w wr) ∧ Hid (Own wr (w.heap.size + 1) 23 v (js.map Ent.k))) (fun v _ => l.length - slen v)
    case atStart => exact ⟨[], l, HI0.out, HB0.out, Own.nil _ _ _⟩
    case round =>
      obtain ⟨js, rest, HI, HBel, HO⟩ := hrel
      have hmr : wr.heap[r]? = some (mObj l c) := (HBel.out.block r hr).trans HM.out
      have hsl := HO.out.slen
      have hpl : l.length = js.length + rest.length := by
        obtain ⟨_, _, _, _, _, h⟩ := HI.out
        rw [h.length_eq, List.length_append]
      rw [List.length_map] at hsl
      rcases iter_step HI.out hmr (fun e h => (HE.out e h).2) HN.out (by omega) 0 with ⟨rfl, hnx⟩ | ⟨x, rest', w1, hx, hlen, hnx, hen, hit, hoth, hsz, hos, htp, hou⟩
      · have HP : Hid (insAll (js.map Ent.k) = insAll ks ∧ All12 (js.map Ent.k) ∧ (js.map Ent.k).length ≤ 64) := by
          obtain ⟨_, _, _, _, _, h⟩ := HI.out
          rw [List.append_nil] at h
          have h12 : All12 (js.map Ent.k) := fun n hn => by
            obtain ⟨e, he, rfl⟩ := List.mem_map.1 hn
            exact (HE.out e (h.mem_iff.2 he)).1
          refine ⟨insAll_of_perm h12 ?_, h12, by rw [List.length_map, ← h.length_eq]; exact hll⟩
          rw [← HK.out]; exact (h.map Ent.k).symm
        have HOr : Hid (Calls Try.prog 32 #[u3] wr fun e w' => e = .returned u3 ∧ Below (w.heap.size + 1) wr w' ∧ Own w' (w.heap.size + 1) 23 u3 (insAll ks)) := by
          have := ordered_any u3 (js.map Ent.k) (w.heap.size + 1) wr HO.out HP.out.2.1 HI.out.lt (by have := HP.out.2.2; omega)
          rw [HP.out.1] at this; exact this
        go_wp2_with (first
          | (go_at_call 32; (refine HOr.out.mono ?_); rintro e w4 ⟨rfl, hb4, ho4⟩))
        go_ret
        exact ⟨HBel.out.trans (hb4.mono (by omega)), _, rfl, ho4.base (by omega)⟩
      · have HX12 : Hid (x.k.length = 12) := (HE.out x hx).1
        have HIT := Lib.hid hit
        have hb1 : Below w.heap.size wr w1 := ⟨hos, htp, hou, by omega, fun k hk => hoth k (by omega)⟩
        have HB1 : Hid (Below w.heap.size w w1) := HBel.out.trans hb1
        have HO1 : Hid (Own w1 (w.heap.size + 1) 23 u3 (js.map Ent.k)) := HO.out.block fun g hg => hoth g (by have := (HO.out.lt g hg).1; omega)
        have hq1 : w.heap.size + 1 ≤ w1.heap.size := HIT.out.lt
        have HB2 : Hid (Below (w.heap.size + 1) w1 (w1.alloc (.cells (bC x.k) 23))) := (below_alloc1 _ _).mono hq1
        have HB3 : Hid (Below (w.heap.size + 1) w1 ((w1.alloc (.cells (bC x.k) 23)).alloc (.cells (bC x.k) 23))) := HB2.out.alloc (Nat.le_trans hq1 HB2.out.size) _
        have HO3 : Hid (Own ((w1.alloc (.cells (bC x.k) 23)).alloc (.cells (bC x.k) 23)) (w.heap.size + 1) 23 u3 (js.map Ent.k)) := (HO1.out.below (below_alloc1 _ _)).below (below_alloc1 _ _)
        have HQ3 : Hid (w.heap.size + 1 ≤ ((w1.alloc (.cells (bC x.k) 23)).alloc (.cells (bC x.k) 23)).heap.size) := Nat.le_trans hq1 HB3.out.size
        have hcl2 : (js.map Ent.k).length ≤ 1000000000 := by rw [List.length_map]; omega
        clear hit hoth hsz hos htp hou hb1 HO HI HBel hmr HB2
        generalize x.v = xv at *
        obtain ⟨xk, hxk⟩ : ∃ xk, Hid (x.k = xk) := ⟨_, rfl⟩
        rw [hxk.out] at HX12 hnx hen HB3 HO3 HQ3
        go_wp2_with (first
          | (rw [← bC_z12]; with_reducible refine st23n rfl _ _ rfl xk rfl rfl HX12.out ?_)
          | (with_reducible refine ld23g rfl _ rfl w1.heap.size rfl xk HX12.out (0, 0) (heap_alloc_new _ _) ?_)
          | (with_reducible refine bs45_1n rfl _ rfl xk rfl HX12.out ?_)
          | (at_builtin; (refine wl_app23 rfl _ _ rfl (w.heap.size + 1) _ (js.map Ent.k) rfl HO3.out (w1.alloc (.cells (bC xk) 23)).heap.size 1 xk rfl HX12.out (heap_alloc_new _ _) hcl2 HQ3.out ?_); intro v' w3 ho3 hg3))
        have hb4 : Below (w.heap.size + 1) w1 w3 := HB3.out.trans (grown_below hg3 (fun g hg => (HO3.out.lt g hg).1) HQ3.out)
        go_roundw
        case rel =>
          refine ⟨js ++ [x], rest', HIT.out.block (hb4.block _ (by omega)), HB1.out.trans (hb4.mono (by omega)), ?_⟩
          show Own w3 (w.heap.size + 1) 23 v' ((js ++ [x]).map Ent.k)
          rw [List.map_append, List.map_cons, List.map_nil, hxk.out]; exact ho3
        case measure =>
          have := ho3.slen
          rw [List.length_append, List.length_map, List.length_singleton] at this
          show l.length - slen v' < l.length - slen u3
          omega
end Go.Proofs.Ytbflliiaigkmgaa
