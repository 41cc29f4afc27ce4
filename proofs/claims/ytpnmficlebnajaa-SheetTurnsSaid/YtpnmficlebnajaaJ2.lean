/- Names as elements of slices; slices.SortFunc over them; name.Sort. -/
import Derived.Test.YtpnmficlebnajaaF13
import Derived.Test.YtpnmficlebnajaaShS
namespace Go.Proofs.Ytpnmficlebnajaa
open Go.RowKit Go.Sort

/-- A name of twelve bytes. -/
abbrev N12 := {l : List UInt8 // l.length = 12}
instance : Inhabited N12 := ⟨⟨List.replicate 12 0, rfl⟩⟩
def enc12 (x : N12) : List Value := (bC x.1).toList
theorem enc12_len (x : N12) : (enc12 x).length = 12 := by simp [enc12, bC, x.2]
theorem enc12_one (x : N12) : ∀ v ∈ enc12 x, v.oneCell' = true := fun v hv => by
  simp only [enc12, bC, List.mem_map] at hv
  obtain ⟨b, _, rfl⟩ := hv; rfl
theorem infoN : (Try.prog.info? 40).map (fun i => (i.zero, i.size, i.bytes)) = some (some (.agg (bC z12)), 12, 12) := by kernel_rfl
theorem drewN_grow (w : World) (os : Array Obj) (q : Nat) : (Sort.grow w os).drewN q = Sort.grow (w.drewN q) os := rfl

set_option maxHeartbeats 400000 in
theorem closure_any (a b : List UInt8) (w : World) (ha : a.length = 12) (hb : b.length = 12) :
    Calls Try.prog 63 #[.agg (bC a), .agg (bC b)] w fun e w' => e = .returned (.int .i64 (Lib.compareBytes a b)) ∧ ∃ q os', w' = Sort.grow (w.drewN q) os' := by
  have HA := Lib.hid ha
  have HB := Lib.hid hb
  clear ha hb
  have h1 := heap_alloc2_old w (.cells (bC a) 40) (.cells (bC b) 40)
  have h2 := heap_alloc2_new w (.cells (bC a) 40) (.cells (bC b) 40)
  have H1 := Lib.hid h1
  have H2 := Lib.hid h2
  clear h1 h2
  obtain ⟨r, hr⟩ : ∃ r, Hid (Lib.compareBytes a b = r) := ⟨_, rfl⟩
  rw [hr.out]
  have HE : Hid (∃ os', (w.alloc (.cells (bC a) 40)).alloc (.cells (bC b) 40) = Sort.grow w os') := ⟨_, by rw [Sort.alloc_eq_grow, Sort.alloc_eq_grow, Sort.grow_grow]⟩
  go_enter Try.func63, Try.ntmps63
  go_wp2_with fail
  generalize (w.alloc (.cells (bC a) 40)).alloc (.cells (bC b) 40) = W at *
  have HC : Hid (∀ q, Calls Try.prog 53 #[.slice (some ⟨w.heap.size, 0, none⟩) 12 12, .slice (some ⟨w.heap.size + 1, 0, none⟩) 12 12] (W.drewN q) fun e w' => e = .returned (.int .i64 r) ∧ w' = W.drewN q) := fun q => hr.out ▸ (compare_any _ _ 12 12 12 12 a b (W.drewN q) (row_of_block (w := W.drewN q) H1.out) (row_of_block (w := W.drewN q) H2.out) HA.out HB.out).mono fun _ _ ⟨he, hw⟩ => ⟨he, hw.symm⟩
  go_quiet (exact Calls.quiet_of_same (HC.out _))
  go_wp2_with fail
  go_ret
  obtain ⟨os', hos⟩ := HE.out
  exact ⟨rfl, _, os', by rw [hos, drewN_grow]⟩

def cf12 (x y : N12) : Int := Lib.compareBytes x.1 y.1
theorem lt_cf12 (x y : N12) : ltOf cf12 x y = lessR x.1 y.1 := by
  rw [← lessL_lessR x.1 y.1 (x.2.trans y.2.symm)]; rfl
theorem swo12 : Go.Sort.SWO (ltOf cf12) where
  irrefl x := by rw [lt_cf12, lessR_irrefl]
  trans x y z h1 h2 := by rw [lt_cf12] at *; exact lessR_trans _ _ _ (x.2.trans y.2.symm) (y.2.trans z.2.symm) h1 h2
  ntrans x y z h1 h2 := by rw [lt_cf12] at *; exact lessR_ntrans _ _ _ (x.2.trans y.2.symm) (y.2.trans z.2.symm) h1 h2
theorem tot12 (x y : N12) (h1 : ltOf cf12 x y = false) (h2 : ltOf cf12 y x = false) : x = y := by
  rw [lt_cf12] at h1 h2
  exact Subtype.ext (lessR_total _ _ (x.2.trans y.2.symm) h1 h2)
theorem cmpLaysN (blk off size : Nat) (w : World) : CmpLays Try.prog 63 #[] enc12 12 cf12 blk off size w :=
  fun _ _ _ _ x y => closure_any x.1 y.1 _ x.2 y.2

section
variable {α : Type} {enc : α → List Value} {k : Nat}
theorem flat_at (hk : ∀ x, (enc x).length = k) (xs : List α) (i j : Nat) (hi : i < xs.length) (hj : j < k) : (xs.flatMap enc)[i * k + j]? = (enc xs[i])[j]? := by
  rw [← List.getElem?_drop, ← flat_drop hk, List.drop_eq_getElem_cons hi, List.flatMap_cons, List.getElem?_append_left (by rw [hk]; exact hj)]
variable [Inhabited α]
theorem flatK_flat (hk : ∀ x, (enc x).length = k) (hk0 : 0 < k) (d : Array α) : flatK enc k d = (d.toList.flatMap enc).toArray := by
  apply Array.ext
  · have h := Go.Proofs.Ytpnmficlebnajaa.flat_len hk d.toList
    rw [Array.length_toList] at h
    rw [size_flatK]; exact h.symm
  · intro t h1 h2
    rw [size_flatK] at h1
    have hq : t / k < d.size := (Nat.div_lt_iff_lt_mul hk0).2 h1
    have hr : t % k < k := Nat.mod_lt _ hk0
    have e := get_flatK enc k d t h1
    rw [getElem!_pos _ t (by rw [size_flatK]; exact h1), getElem!_pos d _ hq, getElem!_pos _ _ (by rw [hk]; exact hr)] at e
    rw [e]
    have f := flat_at hk d.toList (t / k) (t % k) (by simpa using hq) hr
    rw [Nat.div_add_mod' t k, List.getElem?_eq_getElem (by simpa using h2), List.getElem?_eq_getElem (by rw [hk]; exact hr)] at f
    simpa using (Option.some.inj f).symm
theorem putCells_take (F cur : Array Value) (h : F.size ≤ cur.size) : (Go.Sort.putCells id 0 F cur).toList.take F.size = F.toList := by
  apply List.ext_getElem?
  intro i
  by_cases hi : i < F.size
  · rw [List.getElem?_take_of_lt hi]
    simp [Go.Sort.putCells, hi, Nat.lt_of_lt_of_le hi h]
  · rw [List.getElem?_eq_none (by simp; omega), List.getElem?_eq_none (by simp; omega)]
theorem sorted_world (hk : ∀ x, (enc x).length = k) (hk0 : 0 < k) {E : TypeId} {w : World} {base g n m cap : Nat} {cur : Array Value} (d' : Array α) (hs : d'.size = m) (hg : base ≤ g) (hh : w.heap[g]? = some (.cells cur E (0, 0))) (hc : m ≤ cap) (hm : cap ≤ maxLen) (hcs : cur.size = cap * k) (os : Array Obj) :
    Below base w (sortWorldK enc k w g 0 n d' os) ∧ OwnE enc E k (sortWorldK enc k w g 0 n d' os) base (.slice (some ⟨g, 0, none⟩) m cap) d'.toList := by
  subst hs
  have hgl : g < w.heap.size := lt_heap hh
  have hblk : ∀ j, j < w.heap.size → (sortWorldK enc k w g 0 n d' os).heap[j]? = (w.heap.modify g (onCells (putCells id 0 (flatK enc k d'))))[j]? := fun j hj => by
    show ((w.heap.modify g (onCells (putCells id 0 (flatK enc k d')))) ++ os)[j]? = _
    rw [Array.getElem?_append_left (by simpa using hj)]
  refine ⟨⟨rfl, rfl, rfl, ?_, fun j hj => ?_⟩, ?_, .inr ⟨g, cap, putCells id 0 (flatK enc k d') cur, by rw [Array.length_toList], hg, ?_, by rw [Array.length_toList]; exact hc, hm, ?_, ?_⟩⟩
  · show w.heap.size ≤ ((w.heap.modify g (onCells (putCells id 0 (flatK enc k d')))) ++ os).size
    simp
  · rw [hblk j (by omega), Array.getElem?_modify, if_neg (by omega)]
  · rw [Go.Proofs.Ytpnmficlebnajaa.flat_len hk]
  · rw [hblk g hgl, Array.getElem?_modify, if_pos rfl, hh]; rfl
  · simp [putCells, hcs]
  · have e : d'.toList.length * k = (flatK enc k d').size := by simp
    rw [e, putCells_take _ _ (by rw [size_flatK, hcs]; exact Nat.mul_le_mul_right _ hc), flatK_flat hk hk0]
theorem holds_own (hk : ∀ x, (enc x).length = k) (hk0 : 0 < k) {E : TypeId} {w : World} {g cap : Nat} {cur : Array Value} {xs : List α} (hh : w.heap[g]? = some (.cells cur E (0, 0))) (hc : xs.length ≤ cap) (hs : cur.size = cap * k) (ht : cur.toList.take (xs.length * k) = xs.flatMap enc) : HoldsK enc k w g 0 xs.toArray := by
  intro j hj
  rw [size_flatK, List.size_toArray] at hj
  rw [Nat.zero_add]
  have hj' : j < cur.size := by rw [hs]; exact Nat.lt_of_lt_of_le hj (Nat.mul_le_mul_right _ hc)
  have hcell : cur[j]? = some (id (flatK enc k xs.toArray)[j]!) := by
    have hF : flatK enc k xs.toArray = (xs.flatMap enc).toArray := flatK_flat hk hk0 xs.toArray
    have hl : j < (xs.flatMap enc).length := by rw [Go.Proofs.Ytpnmficlebnajaa.flat_len hk]; exact hj
    rw [hF, id, getElem!_pos _ j (by simpa using hl)]
    have e : (xs.flatMap enc)[j]? = cur.toList[j]? := by
      rw [← ht, List.getElem?_take_of_lt hj]
    rw [← Array.getElem?_toList, ← e, List.getElem_toArray]
    exact List.getElem?_eq_getElem _
  refine ⟨?_, ?_⟩
  · simp [World.cell?, hh, hcell]
  · simp [World.frozen?, hh]
end
/-- Names in order. -/
def sortK (ns : List N12) : List N12 := ns.mergeSort fun x y => !(ltOf cf12) y x
theorem sortK_eq {ns ys : List N12} (hp : ns.Perm ys) (hu : ys.Pairwise fun a b => lessR a.1 b.1 = true) : sortK ns = ys := by
  have h1 : (sortK ns).Perm ys := (List.mergeSort_perm _ _).trans hp
  refine h1.eq_of_pairwise (le := fun a b => lessR b.1 a.1 = false) (fun x y _ _ h1 h2 => Subtype.ext (lessR_total _ _ (x.2.trans y.2.symm) h2 h1)) ?_ (hu.imp fun {a b} h => lessR_asym _ _ (a.2.trans b.2.symm) h)
  have := List.pairwise_mergeSort (le := fun x y : N12 => !(ltOf cf12) y x) (fun a b c h1 h2 => by
    simp only [Bool.not_eq_true'] at *
    exact swo12.ntrans c b a h2 h1) (fun a b => by
    cases h : ltOf cf12 b a
    · rfl
    · have : ltOf cf12 a b = false := by
        cases h' : ltOf cf12 a b
        · rfl
        · have := swo12.trans a b a h' h; rw [swo12.irrefl] at this; cases this
      simp [this]) ns
  exact this.imp fun {a b} h => by
    simp only [Bool.not_eq_true'] at h
    rw [← lt_cf12]; exact h

set_option maxHeartbeats 400000 in
theorem ordered_any (v : Value) (ns : List N12) (base : Nat) (w : World) (hv : OwnE enc12 40 12 w base v ns) (hB : base ≤ w.heap.size) (hlen : ns.length ≤ 1000000000) :
    Calls Try.prog 59 #[v] w fun e w' => e = .returned v ∧ Below base w w' ∧ OwnE enc12 40 12 w' base v (sortK ns) := by
  have HS : Calls Try.prog 62 #[v, .func (.func 63) #[] #[]] w fun e w' => e = .returned (.tuple #[]) ∧ Below base w w' ∧ OwnE enc12 40 12 w' base v (sortK ns) := by
    obtain ⟨h1, ⟨rfl, h2⟩ | ⟨g, cap, cur, rfl, hg, hh, hc, hm, hs, ht⟩⟩ := hv
    · obtain rfl : ns = [] := List.length_eq_zero_iff.1 h2
      refine (AnyF.slices_SortFunc_none Try.sortNm none 0 _ w).mono ?_
      rintro _ _ ⟨rfl, rfl⟩
      exact ⟨rfl, Below.refl _ _, by rw [sortK, List.mergeSort_nil]; exact OwnE.nil _ _⟩
    · have hcon := AnyQ.slices_SortFunc_total Try.sortNm 12 Try.isAgg40 Try.sizeOf40 enc12 enc12_len (fun x v hv => enc12_one x v hv) cf12 swo12 63 #[] g 0 cap ns.toArray w (enters_of Try.func63 (by kernel_rfl) rfl) (cmpLaysN g 0 ns.toArray.size w) (holds_own enc12_len (by omega) hh hc hs ht) (lt_heap hh) (by rw [List.size_toArray]; omega) tot12
      rw [List.size_toArray, List.toList_toArray] at hcon
      refine hcon.mono ?_
      rintro _ _ ⟨rfl, n, os, rfl⟩
      have hp : (ns.mergeSort fun x y => !(ltOf cf12) y x).length = ns.length := List.length_mergeSort _
      have := sorted_world (n := n) enc12_len (by omega) (ns.mergeSort fun x y => !(ltOf cf12) y x).toArray (by rw [List.size_toArray, hp]) hg hh hc hm hs os
      rw [List.toList_toArray] at this
      exact ⟨rfl, this⟩
  clear hv hB hlen
  go_enter Try.func59, Try.ntmps59
  go_wp2_with (go_at_call 62; refine HS.mono ?_; rintro e w' ⟨rfl, hb, ho⟩)
  go_ret
  exact ⟨rfl, hb, ho⟩

theorem bs_n {ops : Array Oper} {rest : List Oper} {o : Oper} {a : Act} {w : World} {Q : Exit → Act → World → Prop} (hw : Region.wanted o (yielded ops a.tmps) = true) (x : Operand) (ho : o.op = .buildSlice 95 1 #[(0, x)]) (n : List UInt8) (hn : n.length = 12) (hx : a.eval x = .agg (bC n))
    (h : wpList Try.prog ops Q rest (a.put o.dst (.slice (some ⟨w.heap.size, 0, none⟩) 1 1)) (w.alloc (.cells (bC n) 40))) : wpList Try.prog ops Q (o :: rest) a w :=
  wl_bs1 (k := 12) (enc := enc12) _ _ 12 _ Try.underlying95 infoN rfl (by omega) (by omega) enc12_len hw x ho ⟨n, hn⟩ (by rw [hx]; simp [enc12]) (by rw [show (enc12 ⟨n, hn⟩).toArray = bC n by simp [enc12]]; exact h)
theorem app_n {ops : Array Oper} {rest : List Oper} {o : Oper} {a : Act} {w : World} {Q : Exit → Act → World → Prop} (hgd : o.guard = none) (s x : Operand) (ho : o.op = .call { callee := .builtin .append, args := #[s, x], argTypes := #[95, 95] })
    (base : Nat) (v : Value) (xs : List N12) (hs : a.eval s = v) (hown : OwnE enc12 40 12 w base v xs) (b c : Nat) (n : List UInt8) (hn : n.length = 12) (hx : a.eval x = .slice (some ⟨b, 0, none⟩) 1 c)
    (hr : w.heap[b]? = some (.cells (bC n) 40)) (hlen : xs.length ≤ 1000000) (hbase : base ≤ w.heap.size)
    (h : ∀ v' w', OwnE enc12 40 12 w' base v' (xs ++ [⟨n, hn⟩]) → w.grownBy w' v.ownBlock → wpList Try.prog ops Q rest (a.put o.dst v') w') : wpList Try.prog ops Q (o :: rest) a w :=
  wl_app1 (k := 12) (enc := enc12) _ _ 12 _ Try.underlying95 infoN rfl (by omega) enc12_len enc12_one hgd s x ho base v xs hs hown b c ⟨n, hn⟩ hx (range_whole (t := 40) (fr := (0, 0)) (by rw [hr]; simp [enc12])) (by omega) (by unfold maxLen; omega) hbase h
def rights (ns : List N12) : List N12 := ns.filter fun x => rightB x.1
theorem rights_snoc (ns : List N12) (k : Nat) (h : k < ns.length) : rights (ns.take (k + 1)) = rights (ns.take k) ++ if rightB ns[k].1 then [ns[k]] else [] := by
  rw [rights, List.take_succ_eq_append_getElem h, List.filter_append]
  cases hr : rightB ns[k].1 <;> simp [rights, hr]

set_option maxRecDepth 100000 in
set_option maxHeartbeats 4000000 in
theorem sortN_any (q : Option Addr) (ns : List N12) (m cap : Nat) (w : World) (hm : ns.length = m) (hq : SlAt enc12 12 w q ns) (hlen : m ≤ 1000000) :
    Calls Try.prog 52 #[.slice q m cap] w fun e w' => Below w.heap.size w w' ∧ ∃ v', e = .returned v' ∧ OwnE enc12 40 12 w' w.heap.size v' (sortK (rights ns)) := by
  have HM := Lib.hid hm
  have HQ := Lib.hid hq
  clear hm hq
  go_enter Try.func52, Try.ntmps52
  go_wp2_with fail
  go_loopw [3, 8] (fun c i wr => ∃ k : Nat, k ≤ m ∧ i = .int .i64 k ∧ Hid (OwnE enc12 40 12 wr w.heap.size c (rights (ns.take k))) ∧ Hid (Below w.heap.size w wr)) (fun _ i _ => m - (intOf i).toNat)
  case atStart => exact ⟨0, Nat.zero_le _, rfl, OwnE.nil _ _, Below.refl _ _⟩
  case round =>
    obtain ⟨k, hk, rfl, HO, HBel⟩ := hrel
    by_cases hlt : k < m
    · have hk2 : k < ns.length := by rw [HM.out]; exact hlt
      have hk3 : (k : Int) < (m : Int) := by omega
      obtain ⟨b, ob, rfl, hb, hr⟩ := HQ.out k hk2
      have hrk : Hid (wr.rangeAt b (ob + k * 12) (bC ns[k].1).toList) := range_of_block hr (HBel.out.block b hb)
      have hnk : Hid (ns[k].1.length = 12) := ns[k].2
      have HA : Hid (rights (ns.take (k + 1)) = rights (ns.take k) ++ if rightB ns[k].1 then [ns[k]] else []) := rights_snoc ns k hk2
      have hcl : (rights (ns.take k)).length ≤ 1000000 := Nat.le_trans (List.length_filter_le _ _) (Nat.le_trans (List.length_take_le _ _) (by omega))
      have hz : w.heap.size ≤ wr.heap.size := HBel.out.size
      have HR : Hid (∀ W : World, Calls Try.prog 44 #[.agg (bC ns[k].1)] W fun e w' => e = .returned (.bool (rightB ns[k].1)) ∧ Below W.heap.size W w') := fun W => right_any ns[k].1 W hnk.out
      clear hr
      generalize ns[k] = nk at *
      generalize rights (ns.take k) = ck at *
      obtain ⟨nk, hnk12⟩ := nk
      cases hrt : rightB nk
      case false =>
        simp only [hrt] at HR HA
        go_wp2_with (first
          | (with_reducible refine ld_N rfl _ rfl b (ob + k * 12) nk hnk.out rfl hrk.out ?_)
          | (rw [← bC_z12]; with_reducible refine st23n rfl _ _ rfl nk rfl rfl hnk.out ?_)
          | (with_reducible refine ld23g rfl _ rfl wr.heap.size rfl nk hnk.out (0, 0) (heap_alloc_new _ _) ?_)
          | (go_at_call 44; (with_reducible refine (HR.out _).mono ?_); rintro e w1 ⟨rfl, hb1⟩))
        have hbw : Below w.heap.size w (wr.alloc (.cells (bC nk) 40)) := HBel.out.alloc HBel.out.size _
        have HB2 : Hid (Below w.heap.size w w1) := hbw.trans (hb1.mono hbw.size)
        have HO2 : Hid (OwnE enc12 40 12 w1 w.heap.size u3 ck) := (HO.out.below (below_alloc1 _ _)).below hb1
        clear hbw HO HBel hrk hb1
        go_roundw
        case rel =>
          refine ⟨k + 1, by omega, by go_num, ?_, HB2.out⟩
          rw [HA.out]
          show OwnE _ _ _ w1 w.heap.size u3 (ck ++ [])
          rw [List.append_nil]; exact HO2.out
        case measure => simp [intOf]; omega
      case true =>
        simp only [hrt] at HR HA
        go_upto_region 6 with (first
          | (with_reducible refine ld_N rfl _ rfl b (ob + k * 12) nk hnk.out rfl hrk.out ?_)
          | (rw [← bC_z12]; with_reducible refine st23n rfl _ _ rfl nk rfl rfl hnk.out ?_)
          | (with_reducible refine ld23g rfl _ rfl wr.heap.size rfl nk hnk.out (0, 0) (heap_alloc_new _ _) ?_)
          | (go_at_call 44; (with_reducible refine (HR.out _).mono ?_); rintro e w1 ⟨rfl, hb1⟩))
        have hx1 : Hid (w1.heap[wr.heap.size]? = some (.cells (bC nk) 40)) := (hb1.block _ (lt_heap (heap_alloc_new _ _))).trans (heap_alloc_new _ _)
        have hbw : Below w.heap.size w (wr.alloc (.cells (bC nk) 40)) := HBel.out.alloc HBel.out.size _
        have HB2 : Hid (Below w.heap.size w w1) := hbw.trans (hb1.mono hbw.size)
        have HO2 : Hid (OwnE enc12 40 12 w1 w.heap.size u3 ck) := (HO.out.below (below_alloc1 _ _)).below hb1
        clear hbw HO HBel hrk hb1
        have HB3 : Hid (Below w.heap.size w (w1.alloc (.cells (bC nk) 40))) := HB2.out.alloc HB2.out.size _
        have HO3 : Hid (OwnE enc12 40 12 (w1.alloc (.cells (bC nk) 40)) w.heap.size u3 ck) := HO2.out.below (below_alloc1 _ _)
        go_wp2_with (first
          | (with_reducible refine ld23g rfl _ rfl wr.heap.size rfl nk hnk.out (0, 0) hx1.out ?_)
          | (with_reducible refine bs_n rfl _ rfl nk hnk.out rfl ?_)
          | (at_builtin; (refine app_n rfl _ _ rfl w.heap.size _ ck rfl HO3.out w1.heap.size 1 nk hnk.out rfl (heap_alloc_new _ _) hcl HB3.out.size ?_); intro v' w3 ho3 hg3))
        go_roundw
        case rel =>
          refine ⟨k + 1, by omega, by go_num, ?_, HB3.out.trans (grown_below hg3 (fun g hg => (HO3.out.lt g hg).1) HB3.out.size)⟩
          rw [HA.out]; exact ho3
        case measure => simp [intOf]; omega
    · obtain rfl : k = m := by omega
      have HTK : Hid (ns.take k = ns) := List.take_of_length_le (by rw [HM.out]; exact Nat.le_refl _)
      have HOr : Hid (Calls Try.prog 59 #[u3] wr fun e w' => e = .returned u3 ∧ Below w.heap.size wr w' ∧ OwnE enc12 40 12 w' w.heap.size u3 (sortK (rights ns))) := by
        have h := HO.out
        rw [HTK.out] at h
        exact ordered_any u3 (rights ns) w.heap.size wr h HBel.out.size (Nat.le_trans (List.length_filter_le _ _) (by rw [HM.out]; omega))
      go_wp2_with (first
        | (go_at_call 59; (with_reducible refine HOr.out.mono ?_); rintro e w1 ⟨rfl, hb1, ho1⟩))
      go_ret
      exact ⟨HBel.out.trans hb1, _, rfl, ho1⟩
end Go.Proofs.Ytpnmficlebnajaa
