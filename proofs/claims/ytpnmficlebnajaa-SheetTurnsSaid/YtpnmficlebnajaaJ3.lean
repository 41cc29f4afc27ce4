/- list: texts by their names, as entries that rise. -/
import Derived.Test.YtpnmficlebnajaaJ1
import Derived.Test.YtpnmficlebnajaaJ2
import Derived.Test.YtpnmficlebnajaaH3
import Derived.Test.YtpnmficlebnajaaF12
import Derived.Test.YtpnmficlebnajaaGX
import Derived.Maps.RangeRun
namespace Go.Proofs.Ytpnmficlebnajaa
open Go.RowKit

/-- The iterator in block q over the map in block r: what has come out is js, what is left is rest. -/
def IterAt (w : World) (q r : Nat) (l : List ME) (c : Nat) (js rest : List ME) : Prop :=
  ∃ (seen : Array Nat) (c0 : Nat), w.heap[q]? = some (.mapIter (some r) c seen c0) ∧ c ≤ c0 ∧ seen.toList = js.map ME.b ∧ l.Perm (js ++ rest)
theorem left_of (l : List ME) (js rest : List ME) (seen : Array Nat) (hs : seen.toList = js.map ME.b) (hp : l.Perm (js ++ rest)) (hn : (l.map ME.b).Nodup) (e : MapEntry) :
    e ∈ (leftOf (l.map ME.e).toArray seen).toList ↔ ∃ x ∈ rest, e = x.e := by
  have hn' : ((js ++ rest).map ME.b).Nodup := (hp.map ME.b).nodup_iff.1 hn
  have hsc : ∀ n, seen.contains n = true ↔ n ∈ js.map ME.b := fun n => by
    rw [← hs, Array.contains_iff_mem]; simp
  simp only [leftOf, Array.toList_filter, List.mem_filter, List.mem_map, Bool.not_eq_true', List.toList_toArray]
  constructor
  · rintro ⟨⟨x, hx, rfl⟩, h2⟩
    rcases List.mem_append.1 (hp.mem_iff.1 hx) with h | h
    · have : seen.contains x.b = true := (hsc _).2 (List.mem_map.2 ⟨x, h, rfl⟩)
      rw [show (ME.e x).born = x.b from rfl, this] at h2; cases h2
    · exact ⟨x, h, rfl⟩
  · rintro ⟨x, hx, rfl⟩
    refine ⟨⟨x, hp.mem_iff.2 (List.mem_append.2 (.inr hx)), rfl⟩, ?_⟩
    cases h : seen.contains (ME.e x).born
    · rfl
    · have h1 := (hsc x.b).1 h
      rw [List.map_append] at hn'
      have := (List.nodup_append.1 hn').2.2 x.b h1 x.b (List.mem_map.2 ⟨x, hx, rfl⟩)
      exact absurd rfl this
/-- A step of the iterator. -/
theorem iter_step {w : World} {q r : Nat} {l : List ME} {c : Nat} {js rest : List ME} (h : IterAt w q r l c js rest) (hm : w.heap[r]? = some (mObj l c)) (hb : ∀ e ∈ l, e.b < c) (hn : (l.map ME.b).Nodup) (hqr : q ≠ r) (ty : TypeId) :
    (rest = [] ∧ (Instr.next (.pointer (some ⟨q, 0, none⟩)) false ty).run Try.prog w = .ok (.tuple #[.bool false]) w) ∨
    ∃ (x : ME) (rest' : List ME) (w1 : World), x ∈ l ∧ rest.length = rest'.length + 1 ∧ (Instr.next (.pointer (some ⟨q, 0, none⟩)) false ty).run Try.prog w = .ok (.tuple #[.bool true, .agg (bC x.k), .string x.v]) w1 ∧
      (Instr.entry (.pointer (some ⟨q, 0, none⟩))).run Try.prog w1 = .ok (.tuple #[.agg (bC x.k), .string x.v]) w1 ∧ IterAt w1 q r l c (js ++ [x]) rest' ∧ (∀ k, k ≠ q → w1.heap[k]? = w.heap[k]?) ∧ w1.heap.size = w.heap.size ∧ w1.os = w.os ∧ w1.tape = w.tape ∧ w1.output = w.output := by
  obtain ⟨seen, c0, h1, h2, h3, h4⟩ := h
  have hold : ∀ x ∈ (l.map ME.e).toArray.toList, x.born < c := fun x hx => by
    simp only [List.mem_map] at hx
    obtain ⟨e, he, rfl⟩ := hx
    exact hb e he
  have hL := left_of l js rest seen h3 h4 hn
  by_cases hr : rest = []
  · left
    refine ⟨hr, ?_⟩
    rcases run_next_at (P := Try.prog) w ty q r c c0 seen (l.map ME.e).toArray c h1 hm hold h2 with ⟨_, h⟩ | ⟨e, he, _⟩
    · exact h
    · obtain ⟨x, hx, _⟩ := (hL e).1 he
      rw [hr] at hx; simp at hx
  · right
    rcases run_next_at (P := Try.prog) w ty q r c c0 seen (l.map ME.e).toArray c h1 hm hold h2 with ⟨h0, _⟩ | ⟨e, he, w1, hw1, hrun⟩
    · obtain ⟨x, hx⟩ := List.exists_mem_of_ne_nil rest hr
      have := (hL x.e).2 ⟨x, hx, rfl⟩
      rw [Array.eq_empty_of_size_eq_zero h0] at this
      simp at this
    · obtain ⟨x, hx, rfl⟩ := (hL e).1 he
      have hxl : x ∈ l := h4.mem_iff.2 (List.mem_append.2 (.inr hx))
      obtain ⟨a, b, rfl⟩ := List.append_of_mem hx
      have hw1h : w1.heap = w.heap ∧ w1.os = w.os ∧ w1.tape = w.tape ∧ w1.output = w.output := by rcases hw1 with rfl | rfl <;> exact ⟨rfl, rfl, rfl, rfl⟩
      obtain ⟨e1, e2, e3, e4⟩ := hw1h
      have h1' : w1.heap[q]? = some (.mapIter (some r) c seen c0) := by rw [e1]; exact h1
      have hm' : (putB w1 q (.mapIter (some r) c (seen.push x.b) c)).heap[r]? = some (mObj l c) := by rw [putB_other _ _ _ _ (Ne.symm hqr), e1]; exact hm
      have hq' : (putB w1 q (.mapIter (some r) c (seen.push x.b) c)).heap[q]? = some (.mapIter (some r) c (seen.push x.b) c) := putB_same _ _ _ _ h1'
      refine ⟨x, a ++ b, putB w1 q (.mapIter (some r) c (seen.push x.b) c), hxl, by simp; omega, hrun, ?_, ?_, fun k hk => by rw [putB_other _ _ _ _ hk, e1], by rw [putB_size, e1], e2, e3, e4⟩
      · have := run_entry_at (P := Try.prog) (putB w1 q (.mapIter (some r) c (seen.push x.b) c)) q r c seen (l.map ME.e).toArray c x.e hq' hm' (List.mem_map.2 ⟨x, hxl, rfl⟩) (by rw [List.toList_toArray, List.map_map]; exact hn)
        exact this
      · refine ⟨seen.push x.b, c, hq', Nat.le_refl _, by simp [h3], h4.trans ?_⟩
        have : (js ++ (a ++ x :: b)).Perm (js ++ (x :: (a ++ b))) := List.perm_middle.append_left js
        rw [List.append_assoc]
        exact this
theorem nodup_of_lt : ∀ (l : List Nat), l.Pairwise (· < ·) → l.Nodup := fun l h => h.imp fun h => Nat.ne_of_lt h
theorem IterAt.block {w w' : World} {q r : Nat} {l : List ME} {c : Nat} {js rest : List ME} (h : IterAt w q r l c js rest) (he : w'.heap[q]? = w.heap[q]?) : IterAt w' q r l c js rest := by
  obtain ⟨s, c0, h1, h2⟩ := h; exact ⟨s, c0, he.trans h1, h2⟩
theorem IterAt.lt {w : World} {q r : Nat} {l : List ME} {c : Nat} {js rest : List ME} (h : IterAt w q r l c js rest) : q < w.heap.size := by
  obtain ⟨s, c0, h1, h2⟩ := h; exact lt_heap h1
/-- A list's names. -/
def namesOf (y : List Ent) : List N12 := y.map fun e => ⟨e.n, e.hn⟩
theorem names_perm {l js : List ME} {cs : List N12} {m : TM} {y : List Ent} (hm : l.map ME.p = m) (hn : (l.map ME.k).Nodup) (hp : l.Perm js) (hc : cs.map (·.1) = js.map ME.k) (ht : Tells m y) (hy : UpR y) :
    cs.Perm (namesOf y) ∧ (namesOf y).Pairwise fun a b => lessR a.1 b.1 = true := by
  have hpk : (l.map ME.k).Perm (cs.map (·.1)) := by rw [hc]; exact hp.map _
  have hmem : ∀ x : N12, x ∈ cs ↔ x ∈ namesOf y := fun x => by
    have h1 : x ∈ cs ↔ x.1 ∈ l.map ME.k := by
      rw [hpk.mem_iff, List.mem_map]
      exact ⟨fun h => ⟨x, h, rfl⟩, fun ⟨z, hz, e⟩ => Subtype.ext e ▸ hz⟩
    have h2 : x.1 ∈ l.map ME.k ↔ getM m x.1 ≠ none := by
      rw [← hm]
      constructor
      · intro h hg
        obtain ⟨e, he, h⟩ := List.mem_map.1 h
        unfold getM at hg
        rw [Option.map_eq_none_iff, List.find?_eq_none] at hg
        exact hg e.p (List.mem_map.2 ⟨e, he, rfl⟩) (by simp [ME.p, h])
      · intro h
        apply Classical.byContradiction
        intro hc
        exact h (get_not fun e he h => hc (List.mem_map.2 ⟨e, he, h⟩))
    have h3 : getR y x.1 ≠ none ↔ x ∈ namesOf y := by
      unfold namesOf
      rw [List.mem_map]
      constructor
      · intro h
        cases hg : getR y x.1 with
        | none => exact absurd hg h
        | some t => obtain ⟨e, he, h1, _⟩ := getR_mem hg; exact ⟨e, he, Subtype.ext h1⟩
      · rintro ⟨e, he, h⟩ hg
        have := hy.get e he
        rw [show e.n = x.1 from congrArg Subtype.val h, hg] at this
        cases this
    rw [h1, h2, ht x.1 x.2, h3]
  have hup : (namesOf y).Pairwise fun a b => lessR a.1 b.1 = true := by
    unfold namesOf
    rw [List.pairwise_map]
    exact hy.up
  have hd1 : cs.Nodup := by
    have h := hpk.nodup_iff.1 hn
    rw [List.nodup_iff_pairwise_ne, List.pairwise_map] at h
    exact h.imp fun {a b} h e => h (by rw [e])
  have hd2 : (namesOf y).Nodup := hup.imp fun {a b} h e => by rw [e, lessR_irrefl] at h; cases h
  exact ⟨(List.perm_ext_iff_of_nodup hd1 hd2).2 hmem, hup⟩
theorem sorted_names {l js : List ME} {cs : List N12} {m : TM} {y : List Ent} (hm : l.map ME.p = m) (hn : (l.map ME.k).Nodup) (hp : l.Perm js) (hc : cs.map (·.1) = js.map ME.k) (ht : Tells m y) (hy : UpR y) :
    sortK (rights cs) = namesOf y := by
  obtain ⟨h1, h2⟩ := names_perm hm hn hp hc ht hy
  have hr : rights cs = cs := List.filter_eq_self.2 fun x hx => by
    obtain ⟨e, he, h⟩ := List.mem_map.1 (h1.mem_iff.1 hx)
    rw [← h]; exact hy.right e he
  rw [hr]
  exact sortK_eq h1 h2
theorem names_len {l : List ME} {m : TM} {y : List Ent} (hm : l.map ME.p = m) (hn : (l.map ME.k).Nodup) (h12 : ∀ e ∈ l, e.k.length = 12) (ht : Tells m y) (hy : UpR y) : l.length = y.length := by
  have := (names_perm (cs := l.attach.map fun e => ⟨e.1.k, h12 e.1 e.2⟩) hm hn (.refl _) (by simp [Function.comp_def]) ht hy).1.length_eq
  simpa [namesOf] using this

section
variable {o : Oper} {a : Act} {w : World}
theorem y_loadN (x : Operand) (ho : o.op = .load 40 x) (b i : Nat) (n : List UInt8) (hn : n.length = 12) (hx : a.eval x = .pointer (some ⟨b, i, none⟩)) (hc : w.rangeAt b i (bC n).toList) : (execOp a.eval o).run Try.prog w = .ok (.value (.agg (bC n))) w := by
  have := run_loadAt_mid (P := Try.prog) _ b i 40 (bC n).toList _ hc Try.underlying40 rfl (by rw [sizN, bCl, hn])
  unfold execOp
  simp only [ho, hx, Sem.run_bind, this, Result.andThen_ok, Sem.run_pure]
theorem y_look (x y : Operand) (ho : o.op = .lookup 84 x y false) (r : Nat) (m : TM) (k : List UInt8) (hk : k.length = 12) (hx : a.eval x = .map (some r)) (hy : a.eval y = .agg (bC k)) (h : MapIs w r m) : (execOp a.eval o).run Try.prog w = .ok (.value (.string ((getM m k).getD ⟨#[]⟩))) w := by
  have := h.look k hk
  unfold execOp
  simp only [ho, hx, hy, Sem.run_bind, this, Result.andThen_ok, Sem.run_pure]
theorem y_buildE (x y : Operand) (ho : o.op = .build 44 #[(0, x), (1, y)]) (e : Ent) (hx : a.eval x = .agg (bC e.n)) (hy : a.eval y = .string e.t) : (execOp a.eval o).run Try.prog w = .ok (.value (.agg (entC e).toArray)) w := by
  have hp : (#[(0, x), (1, y)].map fun (p : Nat × Operand) => (p.1, a.eval p.2)) = #[(0, .agg (bC e.n)), (1, .string e.t)] := by simp [hx, hy]
  have := run_buildE e w
  unfold execOp
  simp only [ho, hp, Sem.run_bind, this, Result.andThen_ok, Sem.run_pure]
end
set_option maxRecDepth 100000 in
set_option maxHeartbeats 4000000 in
theorem list_any (r : Nat) (m : TM) (y : List Ent) (w : World) (hs : MapIs w r m) (ht : Tells m y) (hy : UpR y) (hlen : y.length ≤ 100000) :
    Calls Try.prog 42 #[.map (some r)] w fun e w' => Below w.heap.size w w' ∧ ∃ v', e = .returned v' ∧ OwnE entC 44 13 w' w.heap.size v' y := by
  have HS := Lib.hid hs
  obtain ⟨l, c, hm, hk, he, hpw, hnk⟩ := hs
  have hn := nodup_of_lt _ hpw
  have hrg := run_range_map (P := Try.prog) w 84 40 9 r (l.map ME.e).toArray c Try.underlying84 hm
  have HB0 : Hid (Below w.heap.size w (w.alloc (.mapIter (some r) c #[] c))) := below_alloc1 _ _
  have HI0 : Hid (IterAt (w.alloc (.mapIter (some r) c #[] c)) w.heap.size r l c [] l) := ⟨#[], c, heap_alloc_new _ _, Nat.le_refl _, rfl, .refl _⟩
  have HM := Lib.hid hm
  have HN := Lib.hid hn
  have HE : Hid (∀ e ∈ l, e.k.length = 12 ∧ e.b < c) := he
  have HSN : Hid (∀ (js : List ME) (cs : List N12), l.Perm js → cs.map (·.1) = js.map ME.k → sortK (rights cs) = namesOf y) := fun js cs hp hc => sorted_names hk hnk hp hc ht hy
  have HLL : Hid (l.length ≤ 100000) := by show _ ≤ _; rw [names_len hk hnk (fun e h => (he e h).1) ht hy]; exact hlen
  have HV : Hid (∀ (k : Nat) (h : k < y.length), getM m y[k].n = some y[k].t) := fun k h => by rw [ht _ y[k].hn]; exact hy.get _ (List.getElem_mem h)
  have hr : r < w.heap.size := lt_heap hm
  clear hk he hpw hn hnk hm ht hy
  go_enter Try.func42, Try.ntmps42
  go_upto_region 3 with fail
  generalize w.alloc (.mapIter (some r) c #[] c) = W at *
  clear hrg
  go_loopw [3] (fun v wr => ∃ (js rest : List ME) (cs : List N12), Hid (IterAt wr w.heap.size r l c js rest) ∧ Hid (Below w.heap.size w wr) ∧ Hid (cs.map (·.1) = js.map ME.k) ∧ Hid (OwnE enc12 40 12 wr (w.heap.size + 1) v cs)) (fun v _ => l.length - slen v)
  case atStart => exact ⟨[], l, [], HI0.out, HB0.out, rfl, OwnE.nil _ _⟩
  case round =>
    obtain ⟨js, rest, cs, HI, HBel, HC, HO⟩ := hrel
    have hmr : wr.heap[r]? = some (mObj l c) := (HBel.out.block r hr).trans HM.out
    have hsl := HO.out.slen
    have hcl : cs.length = js.length := by have := congrArg List.length HC.out; simpa using this
    have hpl : l.length = js.length + rest.length := by
      obtain ⟨_, _, _, _, _, h⟩ := HI.out
      rw [h.length_eq, List.length_append]
    have hl1 := HLL.out
    rcases iter_step HI.out hmr (fun e h => (HE.out e h).2) HN.out (by omega) 0 with ⟨rfl, hnx⟩ | ⟨x, rest', w1, hx, hlen', hnx, hen, hit, hoth, hsz, hos, htp, hou⟩
    · obtain ⟨q1, cap1, rfl, hc1, hm1, hq1, hq1'⟩ := HO.out.at enc12_len
      have HSo : Hid (Calls Try.prog 52 #[.slice q1 cs.length cap1] wr fun e w' => Below wr.heap.size wr w' ∧ ∃ v', e = .returned v' ∧ OwnE enc12 40 12 w' wr.heap.size v' (namesOf y)) := by
        have h := sortN_any q1 cs cs.length cap1 wr rfl hq1 (by omega)
        obtain ⟨_, _, _, _, _, hp⟩ := HI.out
        rw [List.append_nil] at hp
        rw [HSN.out js cs hp HC.out] at h
        exact h
      have HSr := Lib.hid (HS.out.block (w' := wr) (HBel.out.block r hr))
      have HBw : Hid (Below w.heap.size w wr) := HBel.out
      clear HI HSN hq1 hq1' hmr
      clear hsl hcl hpl hl1
      obtain ⟨nc, hnc⟩ : ∃ nc, cs.length = nc := ⟨_, rfl⟩
      rw [hnc] at HSo ⊢
      clear hnc
      go_upto_region 7 with fail
      go_wp2_with (go_at_call 52; (refine HSo.out.mono ?_); rintro e w2 ⟨hb2, v2, rfl, ho2⟩; obtain ⟨q2, cap2, rfl, hc2, hm2, hq2, hq2'⟩ := ho2.at enc12_len; have HQ2 := Lib.hid hq2; have HB2 := Lib.hid (HBw.out.trans (hb2.mono HBw.out.size)); clear ho2 hq2 hq2' hb2)
      have hyn : (namesOf y).length = y.length := by simp [namesOf]
      obtain ⟨n, hyl⟩ : ∃ n, Hid (y.length = n) := ⟨_, rfl⟩
      rw [hyn, hyl.out]
      rw [hyl.out] at hlen
      have hng : Hid (∀ (k : Nat) (h : k < n), ∃ h2 : k < (namesOf y).length, ∃ h3 : k < y.length, (namesOf y)[k].1 = y[k].n) := fun k h => ⟨by rw [hyn, hyl.out]; exact h, by rw [hyl.out]; exact h, by simp [namesOf]⟩
      have HS2 := Lib.hid (HS.out.block (w' := w2) (HB2.out.block r hr))
      have hr2 : r < w2.heap.size := HS2.out.lt
      clear hyn HSr HSo HBw hc1 hm1 hc2 hm2 hnx HS hr HB0 HI0 HM HN HE HC HBel HO
      go_loopw [5, 21] (fun v i wr => ∃ k : Nat, k ≤ n ∧ i = .int .i64 k ∧ Hid (Below w2.heap.size w2 wr) ∧ Hid (OwnE entC 44 13 wr w2.heap.size v (y.take k))) (fun _ i _ => n - (intOf i).toNat)
      case atStart => exact ⟨0, Nat.zero_le _, rfl, Below.refl _ _, OwnE.nil _ _⟩
      case round =>
        obtain ⟨k, hk, rfl, HW, HO⟩ := hrel
        by_cases hlt : k < n
        · have hlt' : (k : Int) < n := by omega
          obtain ⟨h2, h3, hnk⟩ := hng.out k hlt
          obtain ⟨b, ob, rfl, hb, hrk0⟩ := HQ2.out k h2
          have hrk : Hid (wr.rangeAt b (ob + k * 12) (bC y[k].n).toList) := by
            have := range_of_block hrk0 (HW.out.block b hb)
            unfold enc12 at this
            rw [hnk] at this
            exact this
          have HVk := Lib.hid (HV.out k h3)
          have HTk : Hid (y.take (k + 1) = y.take k ++ [y[k]]) := List.take_succ_eq_append_getElem h3
          have hcl : (y.take k).length ≤ 100000 := by rw [List.length_take]; omega
          have HO1 := Lib.hid (HO.out.below (below_alloc1 wr (.cells (bC y[k].n) 40)))
          have HW1 : Hid (Below w2.heap.size w2 (wr.alloc (.cells (bC y[k].n) 40))) := HW.out.trans ((below_alloc1 _ _).mono HW.out.size)
          have hgw : w2.heap.size ≤ wr.heap.size := HW.out.size
          have hOg : Hid (∀ z, u5.ownBlock = some z → w2.heap.size ≤ z ∧ z < wr.heap.size) := fun z hz => HO.out.lt z hz
          clear hrk0 hnk HO HW
          generalize y[k] = e at *
          have hX := heap_alloc_new wr (.cells (bC e.n) 40)
          have HX1 := Lib.hid hX
          clear hX
          go_upto_region 10 with (first
            | (with_reducible refine ld_N rfl _ rfl b (ob + k * 12) e.n e.hn rfl hrk.out ?_)
            | (rw [← bC_z12]; with_reducible refine st23n rfl _ _ rfl e.n rfl rfl e.hn ?_))
          have HM1 := Lib.hid (HS2.out.block (w' := (wr.alloc (.cells (bC e.n) 40))) (HW1.out.block r hr2))
          have hgz : wr.heap.size < (wr.alloc (.cells (bC e.n) 40)).heap.size := lt_heap HX1.out
          generalize wr.alloc (.cells (bC e.n) 40) = W1 at *
          generalize wr.heap.size = g at *
          have hSd : ∀ w', w'.heap = W1.heap → w'.heap[g]? = some (.cells (bC e.n) 40) ∧ MapIs w' r m := fun w' h => ⟨by rw [h]; exact HX1.out, HM1.out.block (by rw [h])⟩
          refine wp_region_held_drew (S := fun w' => w'.heap[g]? = some (.cells (bC e.n) 40) ∧ MapIs w' r m) (by kernel_rfl) (hSd _ rfl) (fun hH => ?_)
          show wpAnyH Try.prog Region.Mode.any _ _ _ 9 #[false, false, false, false, false, false, false, false, false] _ _
          refine takeD (i := 0) (v := u5) 25 rfl rfl (by kernel_rfl) (by kernel_rfl) (by kernel_rfl) (fun _ _ _ h => h) (Or.inl ⟨rfl, fun w' hS => rfl⟩) hH ?_
          simp only [Act.put, List.setIfInBounds_toArray, List.set_cons_zero, List.set_cons_succ]
          refine takeD (i := 1) (v := .agg (bC e.n)) 26 rfl rfl (by kernel_rfl) (by kernel_rfl) (by kernel_rfl) (fun _ _ _ h => h) (Or.inl ⟨rfl, fun w' hS => y_loadN _ rfl g 0 e.n e.hn rfl (range_whole (by rw [hS.1, toArr]))⟩) hH ?_
          simp only [Act.put, List.setIfInBounds_toArray, List.set_cons_zero, List.set_cons_succ]
          refine takeD (i := 2) (v := .map (some r)) 27 rfl rfl (by kernel_rfl) (by kernel_rfl) (by kernel_rfl) (fun _ _ _ h => h) (Or.inl ⟨rfl, fun w' hS => rfl⟩) hH ?_
          simp only [Act.put, List.setIfInBounds_toArray, List.set_cons_zero, List.set_cons_succ]
          refine takeD (i := 3) (v := .agg (bC e.n)) 28 rfl rfl (by kernel_rfl) (by kernel_rfl) (by kernel_rfl) (fun _ _ _ h => h) (Or.inl ⟨rfl, fun w' hS => y_loadN _ rfl g 0 e.n e.hn rfl (range_whole (by rw [hS.1, toArr]))⟩) hH ?_
          simp only [Act.put, List.setIfInBounds_toArray, List.set_cons_zero, List.set_cons_succ]
          refine takeD (i := 4) (v := .string e.t) 29 rfl rfl (by kernel_rfl) (by kernel_rfl) (by kernel_rfl) (fun _ _ _ h => h) (Or.inl ⟨rfl, fun w' hS => by rw [y_look _ _ rfl r m e.n e.hn rfl rfl hS.2, HVk.out]; rfl⟩) hH ?_
          simp only [Act.put, List.setIfInBounds_toArray, List.set_cons_zero, List.set_cons_succ]
          refine takeD (i := 5) (v := .agg (entC e).toArray) 30 rfl rfl (by kernel_rfl) (by kernel_rfl) (by kernel_rfl) (fun _ _ _ h => h) (Or.inl ⟨rfl, fun w' hS => y_buildE _ _ rfl e rfl rfl⟩) hH ?_
          simp only [Act.put, List.setIfInBounds_toArray, List.set_cons_zero, List.set_cons_succ]
          have hbd : Below W1.heap.size W1 W1.drew := ⟨rfl, rfl, rfl, Nat.le_refl _, fun _ _ => rfl⟩
          have HWd : Hid (Below w2.heap.size w2 W1.drew) := HW1.out.trans (hbd.mono HW1.out.size)
          have HOd := Lib.hid (HO1.out.below hbd)
          have HXd : Hid (W1.drew.heap[g]? = some (.cells (bC e.n) 40)) := hH.1
          have HMd : Hid (MapIs W1.drew r m) := hH.2
          have hgd : g < W1.drew.heap.size := hgz
          clear hbd HW1 HO1 HX1 HM1 hSd hH hgz
          generalize W1.drew = Wd at *
          have hba := below_alloc1 Wd (.cells (entC e).toArray 44)
          have hXa := (hba.block g hgd).trans HXd.out
          have hMa := HMd.out.block (hba.block r HMd.out.lt)
          refine oneH 6 (by kernel_rfl) (wpOp_val rfl rfl (exec_bs1 (enc := entC) (k := 13) 22 44 32 _ Try.underlying22 infoE (by omega) (by omega) entC_len (.tmp 30) rfl e rfl) ⟨⟨hXa, hMa⟩, ?_⟩)
          have hal := heap_alloc_new Wd (.cells (entC e).toArray 44)
          have hOa := HOd.out.below hba
          have hWa : Below w2.heap.size w2 (Wd.alloc (.cells (entC e).toArray 44)) := HWd.out.trans (hba.mono HWd.out.size)
          have hga : g < (Wd.alloc (.cells (entC e).toArray 44)).heap.size := lt_heap hXa
          have hra : r < (Wd.alloc (.cells (entC e).toArray 44)).heap.size := hMa.lt
          have hOw : ∀ z, u5.ownBlock = some z → w2.heap.size ≤ z ∧ z < g := fun z hz => hOg.out z hz
          refine oneH 7 (by kernel_rfl) (wpOp_wp rfl rfl (app_Eo (.tmp 25) (.tmp 31) rfl w2.heap.size u5 (y.take k) rfl hOa (some ⟨Wd.heap.size, 0, none⟩) 1 1 [e] rfl rfl (slat_one (lt_heap hal) (range_whole hal)) (fun h => by cases h) (by simp; omega) hWa.size (fun v' w3 ho3 hg3 _ => ⟨⟨(hg3.block g hga fun h => by have := (hOw g h.symm).2; omega).trans hXa, hMa.block (hg3.block r hra fun h => by have := (hOw r h.symm).1; omega)⟩, ?_⟩)))
          refine oneH 8 (by kernel_rfl) (wpOp_as rfl rfl (.tmp 32) rfl v' rfl ⟨⟨(hg3.block g hga fun h => by have := (hOw g h.symm).2; omega).trans hXa, hMa.block (hg3.block r hra fun h => by have := (hOw r h.symm).1; omega)⟩, ?_⟩)
          refine wpAnyH_done (by kernel_rfl) ?_ _
          simp only [Act.put, List.getElem_toArray, List.getElem_cons_zero, List.getElem_cons_succ, List.setIfInBounds_toArray, List.set_cons_zero, List.set_cons_succ]
          have hb3 : Below w2.heap.size w2 w3 := hWa.trans (grown_below hg3 (fun z hz => (hOw z hz).1) hWa.size)
          clear hba hXa hMa hal hOa hWa hga hra hOw hg3
          go_wp2_with fail
          go_roundw
          case rel => exact ⟨k + 1, by omega, by go_num, hb3, by rw [HTk.out]; exact ho3⟩
          case measure => simp [intOf]; omega
        · obtain rfl : k = n := by omega
          have HOf : Hid (OwnE entC 44 13 wr w2.heap.size u5 y) := by
            have := HO.out
            rwa [List.take_of_length_le (by rw [hyl.out]; omega)] at this
          go_wp2_with fail
          go_ret
          exact ⟨HB2.out.trans (HW.out.mono HB2.out.size), _, rfl, HOf.out.base HB2.out.size⟩
    · have HX12 : Hid (x.k.length = 12) := (HE.out x hx).1
      have HIT := Lib.hid hit
      have hb1 : Below w.heap.size wr w1 := ⟨hos, htp, hou, by omega, fun k hk => hoth k (by omega)⟩
      have HB1 : Hid (Below w.heap.size w w1) := HBel.out.trans hb1
      have HO1 : Hid (OwnE enc12 40 12 w1 (w.heap.size + 1) u3 cs) := HO.out.block fun g hg => hoth g (by have := (HO.out.lt g hg).1; omega)
      have hq1 : w.heap.size + 1 ≤ w1.heap.size := HIT.out.lt
      have HB2 : Hid (Below (w.heap.size + 1) w1 (w1.alloc (.cells (bC x.k) 40))) := (below_alloc1 _ _).mono hq1
      have HB3 : Hid (Below (w.heap.size + 1) w1 ((w1.alloc (.cells (bC x.k) 40)).alloc (.cells (bC x.k) 40))) := HB2.out.alloc (Nat.le_trans hq1 HB2.out.size) _
      have HO3 : Hid (OwnE enc12 40 12 ((w1.alloc (.cells (bC x.k) 40)).alloc (.cells (bC x.k) 40)) (w.heap.size + 1) u3 cs) := (HO1.out.below (below_alloc1 _ _)).below (below_alloc1 _ _)
      have HQ3 : Hid (w.heap.size + 1 ≤ ((w1.alloc (.cells (bC x.k) 40)).alloc (.cells (bC x.k) 40)).heap.size) := Nat.le_trans hq1 HB3.out.size
      have hcl2 : cs.length ≤ 1000000 := by omega
      clear hit hoth hsz hos htp hou hb1 HO HI HBel hmr HB2
      generalize x.v = xv at *
      obtain ⟨xk, hxk⟩ : ∃ xk, Hid (x.k = xk) := ⟨_, rfl⟩
      rw [hxk.out] at HX12 hnx hen HB3 HO3 HQ3
      go_wp2_with (first
        | (rw [← bC_z12]; with_reducible refine st23n rfl _ _ rfl xk rfl rfl HX12.out ?_)
        | (with_reducible refine ld23g rfl _ rfl w1.heap.size rfl xk HX12.out (0, 0) (heap_alloc_new _ _) ?_)
        | (with_reducible refine bs_n rfl _ rfl xk HX12.out rfl ?_)
        | (at_builtin; (refine app_n rfl _ _ rfl (w.heap.size + 1) _ cs rfl HO3.out (w1.alloc (.cells (bC xk) 40)).heap.size 1 xk HX12.out rfl (heap_alloc_new _ _) hcl2 HQ3.out ?_); intro v' w3 ho3 hg3))
      have hb4 : Below (w.heap.size + 1) w1 w3 := HB3.out.trans (grown_below hg3 (fun g hg => (HO3.out.lt g hg).1) HQ3.out)
      go_roundw
      case rel =>
        refine ⟨js ++ [x], rest', cs ++ [⟨xk, HX12.out⟩], HIT.out.block (hb4.block _ (by omega)), HB1.out.trans (hb4.mono (by omega)), ?_, Lib.hid ho3⟩
        show List.map _ _ = _
        rw [List.map_append, List.map_append, HC.out, List.map_cons, List.map_nil, List.map_cons, List.map_nil, hxk.out]
      case measure =>
        have := ho3.slen
        rw [List.length_append, List.length_singleton] at this
        show l.length - slen v' < l.length - slen u3
        omega
end Go.Proofs.Ytpnmficlebnajaa
