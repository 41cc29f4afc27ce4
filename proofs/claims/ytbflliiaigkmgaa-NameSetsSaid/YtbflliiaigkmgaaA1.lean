/- Slices of arrays of twelve bytes: read, and grown by append. -/
import Derived.Test.YtbflliiaigkmgaaS5
namespace Go.Proofs.Ytbflliiaigkmgaa
open Go.RowKit

theorem lt_heap {w : World} {g : Nat} {x : Obj} (h : w.heap[g]? = some x) : g < w.heap.size := by
  rcases Nat.lt_or_ge g w.heap.size with h' | h'
  · exact h'
  · simp [Array.getElem?_eq_none h'] at h
def All12 (ns : List (List UInt8)) : Prop := ∀ n ∈ ns, n.length = 12
/-- The slice v reads as the arrays ns. -/
def RowsAt (w : World) (v : Value) (ns : List (List UInt8)) : Prop :=
  (v = .slice none 0 0 ∧ ns = []) ∨ ∃ b o cap, v = .slice (some ⟨b, o, none⟩) ns.length cap ∧ ns.length ≤ cap ∧ b < w.heap.size ∧ w.rangeAt b o (bC ns.flatten).toList
theorem range_of_block {w w' : World} {b o : Nat} {cs : List Value} (h : w.rangeAt b o cs) (he : w'.heap[b]? = w.heap[b]?) : w'.rangeAt b o cs := fun j v hv => by
  rw [World.cell?_of_block (w := w) (a := ⟨b, o + j, none⟩) he]; exact h j v hv
theorem range_elem {w : World} {b o : Nat} {ns : List (List UInt8)} (h : w.rangeAt b o (bC ns.flatten).toList) (h12 : All12 ns) (i : Nat) (hi : i < ns.length) : w.rangeAt b (o + i * 12) (bC ns[i]).toList := by
  intro j v hv
  have hl : ns[i].length = 12 := h12 _ (List.getElem_mem hi)
  have hj : j < 12 := by
    have := (List.getElem?_eq_some_iff.1 hv).1
    simpa [bC, hl] using this
  have e := flatten_get ns i j h12 hi hj
  rw [Nat.add_assoc]
  refine h (i * 12 + j) v ?_
  simp only [bC, List.toList_toArray, List.getElem?_map] at hv ⊢
  rw [e, hv]
theorem flatten_length : ∀ (ns : List (List UInt8)), All12 ns → ns.flatten.length = ns.length * 12
  | [], _ => rfl
  | n :: ns, h => by
    have h1 := h n (by simp)
    have ih := flatten_length ns fun m hm => h m (by simp [hm])
    simp only [List.flatten_cons, List.length_append, ih, List.length_cons, h1]
    omega
theorem flatten_drop : ∀ (ns : List (List UInt8)) (i : Nat), All12 ns → (ns.drop i).flatten = ns.flatten.drop (i * 12)
  | ns, 0, _ => by simp
  | [], i + 1, _ => by simp
  | n :: ns, i + 1, h => by
    have h1 := h n (by simp)
    rw [List.drop_succ_cons, flatten_drop ns i fun m hm => h m (by simp [hm]), List.flatten_cons]
    rw [show (i + 1) * 12 = n.length + i * 12 by rw [h1]; omega, List.drop_append]
    simp
theorem range_drop {w : World} {b o : Nat} {ns : List (List UInt8)} (h : w.rangeAt b o (bC ns.flatten).toList) (h12 : All12 ns) (i : Nat) : w.rangeAt b (o + i * 12) (bC (ns.drop i).flatten).toList := by
  intro j v hv
  rw [Nat.add_assoc]
  refine h (i * 12 + j) v ?_
  rw [flatten_drop ns i h12] at hv
  simp only [bC, List.toList_toArray, List.getElem?_map, List.getElem?_drop] at hv ⊢
  exact hv
theorem RowsAt.below {w w' : World} {B : Nat} {v : Value} {ns : List (List UInt8)} (h : RowsAt w v ns) (hb : Below B w w') (hB : w.heap.size ≤ B) : RowsAt w' v ns := by
  rcases h with h | ⟨b, o, cap, h1, h2, h3, h4⟩
  · exact .inl h
  · exact .inr ⟨b, o, cap, h1, h2, Nat.lt_of_lt_of_le h3 hb.size, range_of_block h4 (hb.block b (by omega))⟩

section
variable {ops : Array Oper} {Q : Act → Prop} {a : Act} {o : Oper} {rest : List Oper}
theorem wq_ldmid {W : World} (T : TypeId) (x : Operand) (b i : Nat) (n : List UInt8) (hw : Region.wanted o (yielded ops a.tmps) = true) (ho : o.op = .load T x)
    (hx : a.eval x = .pointer (some ⟨b, i, none⟩)) (hc : W.rangeAt b i (bC n).toList) (hb : b < W.heap.size) (d : TypeDesc) (hu : Try.prog.underlying T = some d) (hd : d.isRow = true) (hi : (Try.prog.info? T).map (·.size) = some 12) (hn : n.length = 12)
    (h : wpQuiet Try.prog ops (fun w' => ∃ p : Regrown, w' = Sort.grow (redrawn W p.d) p.os) Q rest (a.put o.dst (.agg (bC n)))) : wpQuiet Try.prog ops (fun w' => ∃ p : Regrown, w' = Sort.grow (redrawn W p.d) p.os) Q (o :: rest) a := by
  refine wq_valC (.agg (bC n)) hw (fun w hC => ?_) h
  obtain ⟨⟨dq, osq⟩, rfl⟩ := hC
  have hc' := range_of_block hc ((below_regrown W dq osq).block b hb)
  have := run_loadAt_mid (P := Try.prog) _ b i T (bC n).toList d hc' hu hd (by rw [hi]; simp [bC, hn])
  unfold execOp
  simp only [ho, hx, Sem.run_bind, this, Result.andThen_ok, Sem.run_pure]
theorem wq_ldmid22 {W : World} (x : Operand) (b i : Nat) (n : List UInt8) (hw : Region.wanted o (yielded ops a.tmps) = true) (ho : o.op = .load 22 x)
    (hx : a.eval x = .pointer (some ⟨b, i, none⟩)) (hc : W.rangeAt b i (bC n).toList) (hb : b < W.heap.size) (hn : n.length = 12)
    (h : wpQuiet Try.prog ops (fun w' => ∃ p : Regrown, w' = Sort.grow (redrawn W p.d) p.os) Q rest (a.put o.dst (.agg (bC n)))) : wpQuiet Try.prog ops (fun w' => ∃ p : Regrown, w' = Sort.grow (redrawn W p.d) p.os) Q (o :: rest) a :=
  wq_ldmid 22 x b i n hw ho hx hc hb _ Try.underlying22 rfl info22 hn h
end

theorem cnt_snoc (ns : List (List UInt8)) (n : List UInt8) (k : Nat) (h : k < ns.length) : (ns.take (k + 1)).count n = (ns.take k).count n + if ns[k] == n then 1 else 0 := by
  rw [List.take_succ_eq_append_getElem h, List.count_append, List.count_singleton]

theorem eql22 (w : World) (xs ys : List UInt8) (hx : xs.length = 12) (hy : ys.length = 12) : (binOp .eql 22 (.agg (bC xs)) (.agg (bC ys))).run Try.prog w = .ok (.bool (xs == ys)) w :=
  run_eql_bytes w 22 5 12 Try.underlying22 Try.underlying5 (fun _ => by kernel_rfl) xs ys hx hy

set_option maxHeartbeats 800000 in
theorem in_any (v : Value) (ns : List (List UInt8)) (n : List UInt8) (w : World) (hv : RowsAt w v ns) (h12 : All12 ns) (hn : n.length = 12) (hlen : ns.length ≤ maxLen) :
    Calls Try.prog 25 #[v, .agg (bC n)] w fun e w' => e = .returned (.int .i64 (ns.count n : Nat)) ∧ Below w.heap.size w w' := by
  unfold maxLen at hlen
  rcases hv with ⟨rfl, rfl⟩ | ⟨b, o, cap, rfl, hcap, hb, hrg⟩
  · go_enter Try.func25, Try.ntmps25
    go_wp2_with fail
    go_loop [5, 6] (fun c i => c = .int .i64 0 ∧ i = .int .i64 0) (fun _ _ => 0)
    case atStart => exact ⟨rfl, rfl⟩
    case round =>
      obtain ⟨rfl, rfl⟩ := hrel
      go_wp2_with fail
      go_ret
      exact ⟨rfl, below_alloc1 _ _⟩
  · obtain ⟨m, hm⟩ : ∃ m, Hid (ns.length = m) := ⟨_, rfl⟩
    have hlen' : (m : Int) ≤ 9223372036854775807 := by rw [← hm.out]; omega
    rw [hm.out]
    have HN := Lib.hid hn
    have H12 := Lib.hid h12
    have HRG := Lib.hid hrg
    have HB := Lib.hid hb
    clear hn h12 hrg hb hcap hlen
    go_enter Try.func25, Try.ntmps25
    go_wp2_with fail
    go_loopw [5, 6] (fun c i wr => ∃ k : Nat, k ≤ m ∧ i = .int .i64 k ∧ c = .int .i64 ((ns.take k).count n : Nat) ∧ Hid (Below w.heap.size w wr) ∧ Hid (wr.heap[w.heap.size]? = some (.cells (bC n) 22))) (fun _ i _ => m - (intOf i).toNat)
    case atStart => exact ⟨0, Nat.zero_le _, rfl, rfl, below_alloc1 _ _, heap_alloc_new _ _⟩
    case round =>
      obtain ⟨k, hk, rfl, rfl, HBel, HX⟩ := hrel
      by_cases hlt : k < m
      · have hk2 : k < ns.length := by rw [hm.out]; exact hlt
        have hnk : Hid (ns[k].length = 12) := H12.out _ (List.getElem_mem hk2)
        have hrk : Hid (wr.rangeAt b (o + k * 12) (bC ns[k]).toList) := range_of_block (range_elem HRG.out H12.out k hk2) (HBel.out.block b HB.out)
        have HA : Hid ((ns.take (k + 1)).count n = (ns.take k).count n + if ns[k] == n then 1 else 0) := cnt_snoc ns n k hk2
        have hcl : (ns.take k).count n ≤ k := Nat.le_trans List.count_le_length (List.length_take_le _ _)
        have hbw : Hid (b < wr.heap.size) := Nat.lt_of_lt_of_le HB.out HBel.out.size
        have heq := eql22 (xs := ns[k]) (ys := n) (hx := hnk.out) (hy := HN.out)
        generalize ns[k] = nk at *
        generalize (ns.take k).count n = ck at *
        have hk3 : (k : Int) < (m : Int) := by omega
        cases he : (nk == n)
        all_goals
          rw [he] at HA heq
          clear he
          go_wp2_with fail
          refine wp_region_quiet_below (by kernel_rfl) (by kernel_rfl) ?_
          repeat (first
            | (with_reducible refine wq_ldmid22 _ b (o + k * 12) nk rfl rfl rfl hrk.out hbw.out hnk.out ?_; simp only [Act.put, List.setIfInBounds_toArray, List.set_cons_zero, List.set_cons_succ])
            | (with_reducible refine wq_load22 _ w.heap.size n (0, 0) rfl rfl rfl HX.out HN.out ?_; simp only [Act.put, List.setIfInBounds_toArray, List.set_cons_zero, List.set_cons_succ])
            | go_big_quiet_step (fail))
          refine wpQuiet_nil ?_
          rintro _ ⟨⟨dq, osq⟩, rfl⟩
          clear heq
          go_wp2_with fail
          go_roundw
          case rel =>
            refine ⟨k + 1, by omega, by go_num, ?_, HBel.out.trans ((below_regrown wr dq osq).mono HBel.out.size), rg_block HX.out dq osq⟩
            rw [HA.out]
            rfl
          case measure => simp [intOf]; omega
      · obtain rfl : k = m := by omega
        have HE : Hid (ns.take k = ns) := List.take_of_length_le (by rw [hm.out]; exact Nat.le_refl _)
        go_wp2_with fail
        go_ret
        exact ⟨by show Ending.returned (.int .i64 ((ns.take k).count n : Nat)) = _; rw [HE.out], HBel.out⟩

end Go.Proofs.Ytbflliiaigkmgaa
