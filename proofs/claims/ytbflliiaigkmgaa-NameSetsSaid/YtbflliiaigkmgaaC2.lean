/- name.Sort. -/
import Derived.Test.YtbflliiaigkmgaaC1
namespace Go.Proofs.Ytbflliiaigkmgaa
open Go.RowKit

theorem ldmid23 {ops : Array Oper} {rest : List Oper} {o : Oper} {a : Act} {w : World} {Q : Exit → Act → World → Prop} (hgd : o.guard = none) (x : Operand) (ho : o.op = .load 23 x)
    (b i : Nat) (n : List UInt8) (hx : a.eval x = .pointer (some ⟨b, i, none⟩)) (hn : n.length = 12) (hc : w.rangeAt b i (bC n).toList)
    (h : wpList Try.prog ops Q rest (a.put o.dst (.agg (bC n))) w) : wpList Try.prog ops Q (o :: rest) a w := by
  refine wpList_load_mid hgd 23 x ho b i hx (bC n).toList _ hc Try.underlying23 rfl ?_ ?_
  · rw [info23]; simp [bC, hn]
  · simpa using h

theorem wl_app23 {ops : Array Oper} {rest : List Oper} {o : Oper} {a : Act} {w : World} {Q : Exit → Act → World → Prop} 
    (hgd : o.guard = none) (s x : Operand) (ho : o.op = .call { callee := .builtin .append, args := #[s, x], argTypes := #[45, 45] })
    (base : Nat) (v : Value) (ns : List (List UInt8)) (hs : a.eval s = v) (hown : Own w base 23 v ns) (b c : Nat) (n : List UInt8) (hx : a.eval x = .slice (some ⟨b, 0, none⟩) 1 c)
    (hn : n.length = 12) (hg : w.heap[b]? = some (.cells (bC n) 23)) (hlen : ns.length ≤ 1000000000) (hbase : base ≤ w.heap.size)
    (h : ∀ v' w', Own w' base 23 v' (ns ++ [n]) → w.grownBy w' v.ownBlock → wpList Try.prog ops Q rest (a.put o.dst v') w') : wpList Try.prog ops Q (o :: rest) a w :=
  wl_app 45 23 Try.underlying45 inf23 hgd s x ho base v ns hs hown b 0 c [n] hx (by intro m hm; simp at hm; rw [hm]; exact hn)
    (fun j u hu => by rw [Nat.zero_add, cell_of_row w b j _ _ _ hg]; simpa using hu) (by simp; omega) hbase h

theorem bs45_1n {ops : Array Oper} {rest : List Oper} {o : Oper} {a : Act} {w : World} {Q : Exit → Act → World → Prop} (hw : Region.wanted o (yielded ops a.tmps) = true) (x : Operand) (ho : o.op = .buildSlice 45 1 #[(0, x)])
    (n : List UInt8) (hx : a.eval x = .agg (bC n)) (h12 : n.length = 12)
    (h : wpList Try.prog ops Q rest (a.put o.dst (.slice (some ⟨w.heap.size, 0, none⟩) 1 1)) (w.alloc (.cells (bC n) 23))) : wpList Try.prog ops Q (o :: rest) a w :=
  bs45_1 hw x ho n hx h12 (by rw [List.flatten_cons, List.flatten_nil, List.append_nil]; exact h)

def rights (ns : List (List UInt8)) : List (List UInt8) := ns.filter rightB
theorem rights_snoc (ns : List (List UInt8)) (k : Nat) (h : k < ns.length) : rights (ns.take (k + 1)) = rights (ns.take k) ++ if rightB ns[k] then [ns[k]] else [] := by
  rw [rights, take_snoc' ns k h, List.filter_append]
  cases hr : rightB ns[k] <;> simp [rights, hr]
theorem rights_12 {ns : List (List UInt8)} (h : All12 ns) : All12 (rights ns) := fun x hx => h x (List.mem_filter.1 hx).1

set_option maxHeartbeats 400000 in
theorem sortN_any (v : Value) (ns : List (List UInt8)) (w : World) (hv : RowsAt w v ns) (h12 : All12 ns) (hlen : ns.length ≤ 1000000) :
    Calls Try.prog 23 #[v] w fun e w' => Below w.heap.size w w' ∧ ∃ v', e = .returned v' ∧ Own w' w.heap.size 23 v' (insAll (rights ns)) := by
  rcases hv with ⟨rfl, rfl⟩ | ⟨b, o, cap, rfl, hcap, hb, hrg⟩
  · have HO : Hid (∀ W : World, Calls Try.prog 32 #[.slice none 0 0] W fun e w' => e = .returned (.slice none 0 0) ∧ Below W.heap.size W w' ∧ Own w' W.heap.size 23 (.slice none 0 0) (insAll [])) := fun W => ordered_any _ [] W.heap.size W (Own.nil _ _ _) (fun x hx => by simp at hx) (Nat.le_refl _) (by simp)
    go_enter Try.func23, Try.ntmps23
    go_wp2_with fail
    go_loop [3, 8] (fun c i => c = .slice none 0 0 ∧ i = .int .i64 0) (fun _ _ => 0)
    case atStart => exact ⟨rfl, rfl⟩
    case round =>
      obtain ⟨rfl, rfl⟩ := hrel
      go_wp2_with (first
        | (go_at_call 32; (with_reducible refine (HO.out _).mono ?_); rintro e w1 ⟨rfl, hb1, ho1⟩))
      go_ret
      exact ⟨hb1, _, rfl, ho1⟩
  · obtain ⟨m, hm⟩ : ∃ m, Hid (ns.length = m) := ⟨_, rfl⟩
    have hlen' : (m : Int) ≤ 1000000 := by rw [← hm.out]; omega
    rw [hm.out]
    have H12 := Lib.hid h12
    have HRG := Lib.hid hrg
    have HB := Lib.hid hb
    clear h12 hrg hb hcap hlen
    go_enter Try.func23, Try.ntmps23
    go_wp2_with fail
    go_loopw [3, 8] (fun c i wr => ∃ k : Nat, k ≤ m ∧ i = .int .i64 k ∧ Hid (Own wr w.heap.size 23 c (rights (ns.take k))) ∧ Hid (Below w.heap.size w wr)) (fun _ i _ => m - (intOf i).toNat)
    case atStart => exact ⟨0, Nat.zero_le _, rfl, Own.nil _ _ _, Below.refl _ _⟩
    case round =>
      obtain ⟨k, hk, rfl, HO, HBel⟩ := hrel
      by_cases hlt : k < m
      · have hk2 : k < ns.length := by rw [hm.out]; exact hlt
        have hnk : Hid (ns[k].length = 12) := H12.out _ (List.getElem_mem hk2)
        have hrk : Hid (wr.rangeAt b (o + k * 12) (bC ns[k]).toList) := range_of_block (range_elem HRG.out H12.out k hk2) (HBel.out.block b HB.out)
        have HA : Hid (rights (ns.take (k + 1)) = rights (ns.take k) ++ if rightB ns[k] then [ns[k]] else []) := rights_snoc ns k hk2
        have hcl : (rights (ns.take k)).length ≤ k := Nat.le_trans (List.length_filter_le _ _) (List.length_take_le _ _)
        have hz : w.heap.size ≤ wr.heap.size := HBel.out.size
        generalize ns[k] = nk at *
        generalize rights (ns.take k) = ck at *
        have hk3 : (k : Int) < (m : Int) := by omega
        have HR : Hid (∀ W : World, Calls Try.prog 13 #[.agg (bC nk)] W fun e w' => e = .returned (.bool (rightB nk)) ∧ Below W.heap.size W w') := fun W => right_any nk W hnk.out
        have hcl2 : ck.length ≤ 1000000000 := by omega
        cases hr : rightB nk
        case false =>
          rw [hr] at HR HA
          clear hr
          go_wp2_with (first
            | (with_reducible refine ldmid23 rfl _ rfl b (o + k * 12) nk rfl hnk.out hrk.out ?_)
            | (rw [← bC_z12]; with_reducible refine st23n rfl _ _ rfl nk rfl rfl hnk.out ?_)
            | (with_reducible refine ld23g rfl _ rfl wr.heap.size rfl nk hnk.out (0, 0) (heap_alloc_new _ _) ?_)
            | (go_at_call 13; (with_reducible refine (HR.out _).mono ?_); rintro e w1 ⟨rfl, hb1⟩))
          have hx1 : Hid (w1.heap[wr.heap.size]? = some (.cells (bC nk) 23)) := (hb1.block _ (lt_heap (heap_alloc_new _ _))).trans (heap_alloc_new _ _)
          have hbw : Below w.heap.size w (wr.alloc (.cells (bC nk) 23)) := HBel.out.alloc HBel.out.size _
          have HB2 : Hid (Below w.heap.size w w1) := hbw.trans (hb1.mono hbw.size)
          have HO2 : Hid (Own w1 w.heap.size 23 u3 ck) := (HO.out.below (below_alloc1 _ _)).below hb1
          clear hbw HO HBel hrk hb1
          go_roundw
          case rel =>
            refine ⟨k + 1, by omega, by go_num, ?_, HB2.out⟩
            rw [HA.out]
            show Own w1 w.heap.size 23 u3 (ck ++ [])
            rw [List.append_nil]; exact HO2.out
          case measure => simp [intOf]; omega
        case true =>
          rw [hr] at HR HA
          clear hr
          go_upto_region 6 with (first
            | (with_reducible refine ldmid23 rfl _ rfl b (o + k * 12) nk rfl hnk.out hrk.out ?_)
            | (rw [← bC_z12]; with_reducible refine st23n rfl _ _ rfl nk rfl rfl hnk.out ?_)
            | (with_reducible refine ld23g rfl _ rfl wr.heap.size rfl nk hnk.out (0, 0) (heap_alloc_new _ _) ?_)
            | (go_at_call 13; (with_reducible refine (HR.out _).mono ?_); rintro e w1 ⟨rfl, hb1⟩))
          have hx1 : Hid (w1.heap[wr.heap.size]? = some (.cells (bC nk) 23)) := (hb1.block _ (lt_heap (heap_alloc_new _ _))).trans (heap_alloc_new _ _)
          have hbw : Below w.heap.size w (wr.alloc (.cells (bC nk) 23)) := HBel.out.alloc HBel.out.size _
          have HB2 : Hid (Below w.heap.size w w1) := hbw.trans (hb1.mono hbw.size)
          have HO2 : Hid (Own w1 w.heap.size 23 u3 ck) := (HO.out.below (below_alloc1 _ _)).below hb1
          clear hbw HO HBel hrk hb1
          have HB3 : Hid (Below w.heap.size w (w1.alloc (.cells (bC nk) 23))) := HB2.out.alloc HB2.out.size _
          have HO3 : Hid (Own (w1.alloc (.cells (bC nk) 23)) w.heap.size 23 u3 ck) := HO2.out.below (below_alloc1 _ _)
          go_wp2_with (first
            | (with_reducible refine ld23g rfl _ rfl wr.heap.size rfl nk hnk.out (0, 0) hx1.out ?_)
            | (with_reducible refine bs45_1n rfl _ rfl nk rfl hnk.out ?_)
            | (at_builtin; (refine wl_app23 rfl _ _ rfl w.heap.size _ ck rfl HO3.out w1.heap.size 1 nk rfl hnk.out (heap_alloc_new _ _) hcl2 HB3.out.size ?_); intro v' w3 ho3 hg3))
          go_roundw
          case rel =>
            refine ⟨k + 1, by omega, by go_num, ?_, HB3.out.trans (grown_below hg3 (fun g hg => (HO3.out.lt g hg).1) HB3.out.size)⟩
            rw [HA.out]; exact ho3
          case measure => simp [intOf]; omega
      · obtain rfl : k = m := by omega
        have HTK : Hid (ns.take k = ns) := List.take_of_length_le (by rw [hm.out]; exact Nat.le_refl _)
        have HOr : Hid (Calls Try.prog 32 #[u3] wr fun e w' => e = .returned u3 ∧ Below w.heap.size wr w' ∧ Own w' w.heap.size 23 u3 (insAll (rights ns))) := by
          have h := HO.out
          rw [HTK.out] at h
          exact ordered_any u3 (rights ns) w.heap.size wr h (rights_12 H12.out) HBel.out.size (Nat.le_trans (List.length_filter_le _ _) (by rw [hm.out]; omega))
        go_wp2_with (first
          | (go_at_call 32; (with_reducible refine HOr.out.mono ?_); rintro e w1 ⟨rfl, hb1, ho1⟩))
        go_ret
        exact ⟨HBel.out.trans hb1, _, rfl, ho1⟩
end Go.Proofs.Ytbflliiaigkmgaa
