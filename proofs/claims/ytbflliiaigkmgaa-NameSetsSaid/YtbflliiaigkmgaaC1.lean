/- slices.SortFunc's closure here, and name.ordered. -/
import Derived.Test.YtbflliiaigkmgaaC0
import Derived.Test.YtbflliiaigkmgaaSh
namespace Go.Proofs.Ytbflliiaigkmgaa
open Go.RowKit Go.Sort

theorem drewN_grow (w : World) (os : Array Obj) (q : Nat) : (Sort.grow w os).drewN q = Sort.grow (w.drewN q) os := rfl

set_option maxHeartbeats 400000 in
theorem closure_any (a b : List UInt8) (w : World) (ha : a.length = 12) (hb : b.length = 12) :
    Calls Try.prog 36 #[.agg (bC a), .agg (bC b)] w fun e w' => e = .returned (.int .i64 (Lib.compareBytes a b)) ∧ ∃ q os', w' = Sort.grow (w.drewN q) os' := by
  have HA := Lib.hid ha
  have HB := Lib.hid hb
  clear ha hb
  have h1 := heap_alloc2_old w (.cells (bC a) 23) (.cells (bC b) 23)
  have h2 := heap_alloc2_new w (.cells (bC a) 23) (.cells (bC b) 23)
  have H1 := Lib.hid h1
  have H2 := Lib.hid h2
  clear h1 h2
  obtain ⟨r, hr⟩ : ∃ r, Hid (Lib.compareBytes a b = r) := ⟨_, rfl⟩
  rw [hr.out]
  have HE : Hid (∃ os', (w.alloc (.cells (bC a) 23)).alloc (.cells (bC b) 23) = Sort.grow w os') := ⟨_, by rw [Sort.alloc_eq_grow, Sort.alloc_eq_grow, Sort.grow_grow]⟩
  go_enter Try.func36, Try.ntmps36
  go_wp2_with fail
  generalize (w.alloc (.cells (bC a) 23)).alloc (.cells (bC b) 23) = W at *
  have HC : Hid (∀ q, Calls Try.prog 31 #[.slice (some ⟨w.heap.size, 0, none⟩) 12 12, .slice (some ⟨w.heap.size + 1, 0, none⟩) 12 12] (W.drewN q) fun e w' => e = .returned (.int .i64 r) ∧ w' = W.drewN q) := fun q => hr.out ▸ (compare_any _ _ 12 12 12 12 a b (W.drewN q) (row_of_block (w := W.drewN q) H1.out) (row_of_block (w := W.drewN q) H2.out) HA.out HB.out).mono fun _ _ ⟨he, hw⟩ => ⟨he, hw.symm⟩
  go_quiet (exact Calls.quiet_of_same (HC.out _))
  go_wp2_with fail
  go_ret
  obtain ⟨os', hos⟩ := HE.out
  exact ⟨rfl, _, os', by rw [hos, drewN_grow]⟩

/-- A name of twelve bytes. -/
abbrev N12 := {l : List UInt8 // l.length = 12}
instance : Inhabited N12 := ⟨⟨List.replicate 12 0, rfl⟩⟩
def enc12 (x : N12) : List Value := (bC x.1).toList
def cf12 (x y : N12) : Int := Lib.compareBytes x.1 y.1
theorem lt_cf12 (x y : N12) : ltOf cf12 x y = lessR x.1 y.1 := by
  rw [← lessL_lessR x.1 y.1 (x.2.trans y.2.symm)]; rfl
theorem swo12 : Go.Sort.SWO (ltOf cf12) where
  irrefl x := by rw [lt_cf12, lessR_irrefl]
  trans x y z h1 h2 := by rw [lt_cf12] at *; exact lessR_trans _ _ _ (x.2.trans y.2.symm) (y.2.trans z.2.symm) h1 h2
  ntrans x y z h1 h2 := by rw [lt_cf12] at *; exact lessR_ntrans _ _ _ (x.2.trans y.2.symm) (y.2.trans z.2.symm) h1 h2
theorem tot12 (x y : N12) (h1 : ltOf cf12 x y = false) (h2 : ltOf cf12 y x = false) : x = y := by
  rw [lt_cf12] at h1 h2
  exact Subtype.ext (lessR_total _ _ (x.2.trans y.2.symm) h1 h2)

theorem cmpLays36 (blk off size : Nat) (w : World) : CmpLays Try.prog 36 #[] enc12 12 cf12 blk off size w :=
  fun _ _ _ _ x y => closure_any x.1 y.1 _ x.2 y.2

theorem flat_get : ∀ (l : List N12) (t : Nat), ((l.map (·.1)).flatten)[t]? = (l[t / 12]?).bind fun x => x.1[t % 12]?
  | [], t => by simp
  | x :: l, t => by
    rw [List.map_cons, List.flatten_cons]
    by_cases h : t < 12
    · rw [List.getElem?_append_left (by rw [x.2]; exact h), Nat.div_eq_of_lt h, Nat.mod_eq_of_lt h]; rfl
    · rw [List.getElem?_append_right (by rw [x.2]; omega), x.2, flat_get l (t - 12)]
      have e1 : t / 12 = (t - 12) / 12 + 1 := by omega
      have e2 : t % 12 = (t - 12) % 12 := by omega
      rw [e1, e2, List.getElem?_cons_succ]
theorem flat_len (l : List N12) : ((l.map (·.1)).flatten).length = l.length * 12 := by
  induction l with
  | nil => rfl
  | cons x l ih => rw [List.map_cons, List.flatten_cons, List.length_append, ih, x.2, List.length_cons]; omega
theorem flatK_bC (d : Array N12) : flatK enc12 12 d = bC ((d.toList.map (·.1)).flatten) := by
  apply Array.ext
  · rw [size_flatK, bC_size, flat_len]; simp
  · intro t h1 h2
    rw [size_flatK] at h1
    have e := get_flatK enc12 12 d t h1
    rw [getElem!_pos _ t (by rw [size_flatK]; exact h1)] at e
    rw [e]
    have hq : t / 12 < d.size := by omega
    have hr : t % 12 < 12 := by omega
    rw [getElem!_pos d _ hq]
    have hx := flat_get d.toList t
    have hs : d.toList[t / 12]? = some d[t / 12] := by rw [Array.getElem?_toList, Array.getElem?_eq_getElem hq]
    have hs2 : d[t / 12].1[t % 12]? = some (d[t / 12].1[t % 12]'(by rw [(d[t/12]).2]; exact hr)) := List.getElem?_eq_getElem _
    rw [hs, Option.bind_some, hs2] at hx
    have hy : (bC (d.toList.map (·.1)).flatten)[t] = .int .u8 ((d[t/12]).1[t % 12]'(by rw [(d[t/12]).2]; exact hr)).toNat := by
      have hl : t < ((d.toList.map (·.1)).flatten).length := by rw [flat_len]; simpa using h1
      rw [List.getElem?_eq_getElem hl] at hx
      simp only [bC, List.getElem_toArray, List.getElem_map]
      rw [Option.some.inj hx]
    rw [hy]
    unfold enc12 bC
    rw [getElem!_pos _ _ (by simp [(d[t/12]).2]; exact hr)]
    simp
theorem putCells_take (F cur : Array Value) (h : F.size ≤ cur.size) : (Go.Sort.putCells id 0 F cur).toList.take F.size = F.toList := by
  apply List.ext_getElem?
  intro i
  by_cases hi : i < F.size
  · rw [List.getElem?_take_of_lt hi]
    simp [Go.Sort.putCells, hi, Nat.lt_of_lt_of_le hi h]
  · rw [List.getElem?_eq_none (by simp; omega), List.getElem?_eq_none (by simp; omega)]

theorem ordered_world {w : World} {base g n : Nat} {cap : Nat} {cur : Array Value} {ns : List (List UInt8)} (d d' : Array N12) (hd : d.toList.map (·.1) = ns) (hs : d'.size = d.size) (hg : base ≤ g) (hh : w.heap[g]? = some (.cells cur 23 (0, 0))) (hc : ns.length ≤ cap) (hm : cap ≤ maxLen) (hcs : cur.size = cap * 12) (os : Array Obj) (hB : base ≤ w.heap.size) :
    Below base w (sortWorldK enc12 12 w g 0 n d' os) ∧ Own (sortWorldK enc12 12 w g 0 n d' os) base 23 (.slice (some ⟨g, 0, none⟩) ns.length cap) (d'.toList.map (·.1)) := by
  have hl : ns.length = d'.size := by rw [← hd]; simp [hs]
  have hgl : g < w.heap.size := lt_heap hh
  have hblk : ∀ k, k < w.heap.size → (sortWorldK enc12 12 w g 0 n d' os).heap[k]? = (w.heap.modify g (onCells (putCells id 0 (flatK enc12 12 d'))))[k]? := fun k hk => by
    show ((w.heap.modify g (onCells (putCells id 0 (flatK enc12 12 d')))) ++ os)[k]? = _
    rw [Array.getElem?_append_left (by simpa using hk)]
  refine ⟨⟨rfl, rfl, rfl, ?_, fun k hk => ?_⟩, ?_, .inr ⟨g, cap, putCells id 0 (flatK enc12 12 d') cur, ?_, hg, ?_, ?_, hm, ?_, ?_⟩⟩
  · show w.heap.size ≤ ((w.heap.modify g (onCells (putCells id 0 (flatK enc12 12 d')))) ++ os).size
    simp
  · rw [hblk k (by omega), Array.getElem?_modify, if_neg (by omega)]
  · rw [← flatK_bC]; simp
  · rw [hl]; simp
  · rw [hblk g hgl, Array.getElem?_modify, if_pos rfl, hh]; rfl
  · rw [List.length_map, Array.length_toList, ← hl]; exact hc
  · simp [putCells, hcs]
  · have e : (d'.toList.map (·.1)).length * 12 = (flatK enc12 12 d').size := by simp
    rw [e, putCells_take _ _ (by rw [size_flatK, hcs, ← hl]; omega), flatK_bC]

theorem names_of (ns : List (List UInt8)) (h : All12 ns) : ∃ d : Array N12, d.toList.map (·.1) = ns :=
  ⟨(ns.attach.map fun x => (⟨x.1, h x.1 x.2⟩ : N12)).toArray, by simp [Function.comp_def]⟩
theorem mergeSort_names (d : Array N12) : ((d.toList.mergeSort fun x y => !(ltOf cf12) y x).map (·.1)) = insAll (d.toList.map (·.1)) := by
  have h12 : All12 (d.toList.map (·.1)) := fun x hx => by
    obtain ⟨y, _, rfl⟩ := List.mem_map.1 hx; exact y.2
  have hp : ((d.toList.mergeSort fun x y => !(ltOf cf12) y x).map (·.1)).Perm (d.toList.map (·.1)) := (List.mergeSort_perm _ _).map _
  refine sorted_unique (all12_perm hp h12) (hp.trans (insAll_perm _).symm) ?_ (insAll_sorted _ h12)
  unfold SortedL
  rw [List.pairwise_map]
  have := List.pairwise_mergeSort (le := fun x y : N12 => !(ltOf cf12) y x) (fun a b c h1 h2 => by
    simp only [Bool.not_eq_true'] at *
    exact swo12.ntrans c b a h2 h1) (fun a b => by
    cases h : ltOf cf12 b a
    · rfl
    · have : ltOf cf12 a b = false := by
        cases h' : ltOf cf12 a b
        · rfl
        · have := swo12.trans a b a h' h; rw [swo12.irrefl] at this; cases this
      simp [this]) d.toList
  exact this.imp fun {a b} h => by
    simp only [Bool.not_eq_true'] at h
    rw [← lt_cf12]; exact h

set_option maxHeartbeats 400000 in
theorem ordered_any (v : Value) (ns : List (List UInt8)) (base : Nat) (w : World) (hv : Own w base 23 v ns) (h12 : All12 ns) (hB : base ≤ w.heap.size) (hlen : ns.length ≤ 1000000000) :
    Calls Try.prog 32 #[v] w fun e w' => e = .returned v ∧ Below base w w' ∧ Own w' base 23 v (insAll ns) := by
  have HS : Calls Try.prog 35 #[v, .func (.func 36) #[] #[]] w fun e w' => e = .returned (.tuple #[]) ∧ Below base w w' ∧ Own w' base 23 v (insAll ns) := by
    obtain ⟨h1, ⟨rfl, h2⟩ | ⟨g, cap, cur, rfl, hg, hh, hc, hm, hs, ht⟩⟩ := hv
    · obtain rfl : ns = [] := List.length_eq_zero_iff.1 h2
      refine (AnyF.slices_SortFunc_none Try.sortNm none 0 _ w).mono ?_
      rintro _ _ ⟨rfl, rfl⟩
      exact ⟨rfl, Below.refl _ _, Own.nil _ _ _⟩
    · obtain ⟨d, rfl⟩ := names_of ns h12
      have hl : (d.toList.map (·.1)).length = d.size := by simp
      have hHk : HoldsK enc12 12 w g 0 d := by
        intro j hj
        rw [Nat.zero_add]
        have hj' : j < cur.size := by rw [size_flatK] at hj; rw [hs]; omega
        have hcell : cur[j]? = some (id (flatK enc12 12 d)[j]!) := by
          rw [flatK_bC, id, getElem!_pos _ j (by rw [← flatK_bC]; exact hj)]
          have e : (bC (d.toList.map (·.1)).flatten).toList[j]? = cur.toList[j]? := by
            rw [← ht, List.getElem?_take_of_lt (by rw [hl]; rw [size_flatK] at hj; exact hj)]
          rw [← Array.getElem?_toList, ← e, Array.getElem?_toList, Array.getElem?_eq_getElem]
        refine ⟨?_, ?_⟩
        · simp [World.cell?, hh, hcell]
        · simp [World.frozen?, hh]
      have hcon := AnyQ.slices_SortFunc_total Try.sortNm 12 Try.isAgg23 Try.sizeOf23 enc12 (fun x => by simp [enc12, bC, x.2]) (fun x v hv => by
        simp only [enc12, bC, List.mem_map] at hv
        obtain ⟨b, _, rfl⟩ := hv; rfl) cf12 swo12 36 #[] g 0 cap d w (enters_of Try.func36 (by kernel_rfl) rfl) (cmpLays36 g 0 d.size w) hHk (lt_heap hh) (by rw [hl] at hlen; omega) tot12
      rw [hl]
      refine hcon.mono ?_
      rintro _ _ ⟨rfl, n, os, rfl⟩
      have hp : (d.toList.mergeSort fun x y => !(ltOf cf12) y x).length = d.size := by rw [List.length_mergeSort]; simp
      have := ordered_world (n := n) d (d.toList.mergeSort fun x y => !(ltOf cf12) y x).toArray rfl (by rw [List.size_toArray, hp]) hg hh hc hm hs os hB
      rw [hl] at this
      rw [List.toList_toArray, mergeSort_names] at this
      exact ⟨rfl, this⟩
  clear hv h12 hB hlen
  go_enter Try.func32, Try.ntmps32
  go_wp2_with (go_at_call 35; refine HS.mono ?_; rintro e w' ⟨rfl, hb, ho⟩)
  go_ret
  exact ⟨rfl, hb, ho⟩
end Go.Proofs.Ytbflliiaigkmgaa
