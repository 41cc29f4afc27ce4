/- Append to a slice of arrays of one's own; the reference's Without and Insert. -/
import Derived.Test.YtbflliiaigkmgaaA1
import Derived.Deep.DeepMust
namespace Go.Proofs.Ytbflliiaigkmgaa
open Go.RowKit

/-- A slice of arrays that the call itself made (nil too). -/
def Own (w : World) (base : Nat) (E : TypeId) (v : Value) (ns : List (List UInt8)) : Prop := w.ownsRow base E 12 v ns.length (bC ns.flatten).toList

theorem Own.nil (w : World) (base : Nat) (E : TypeId) : Own w base E (.slice none 0 0) [] := ⟨by simp [bC], .inl ⟨rfl, rfl⟩⟩
theorem Own.rows {w : World} {base : Nat} {E : TypeId} {v : Value} {ns : List (List UInt8)} (h : Own w base E v ns) : RowsAt w v ns := by
  obtain ⟨h1, h2 | ⟨g, cap, cur, hv, hg, hh, hc, hm, hs, ht⟩⟩ := h
  · exact .inl ⟨h2.1, List.length_eq_zero_iff.1 h2.2⟩
  · refine .inr ⟨g, 0, cap, hv, hc, lt_heap hh, fun j u hu => ?_⟩
    rw [Nat.zero_add, cell_of_row w g j _ _ _ hh]
    have hj := (List.getElem?_eq_some_iff.1 hu).1
    rw [← ht, List.getElem?_take_of_lt (by rw [← ht, List.length_take] at hj; omega)] at hu
    simpa using hu
theorem Own.block {w w' : World} {base : Nat} {E : TypeId} {v : Value} {ns : List (List UInt8)} (h : Own w base E v ns) (he : ∀ g, v.ownBlock = some g → w'.heap[g]? = w.heap[g]?) : Own w' base E v ns := by
  obtain ⟨h1, h2 | ⟨g, cap, cur, hv, hg, hh, r⟩⟩ := h
  · exact ⟨h1, .inl h2⟩
  · exact ⟨h1, .inr ⟨g, cap, cur, hv, hg, (he g (by rw [hv]; rfl)).trans hh, r⟩⟩
theorem Own.lt {w : World} {base : Nat} {E : TypeId} {v : Value} {ns : List (List UInt8)} (h : Own w base E v ns) (g : Nat) (hg : v.ownBlock = some g) : base ≤ g ∧ g < w.heap.size := by
  obtain ⟨h1, h2 | ⟨g', cap, cur, hv, hg', hh, r⟩⟩ := h
  · rw [h2.1] at hg; cases hg
  · rw [hv] at hg
    obtain rfl : g' = g := by simpa [Value.ownBlock] using hg
    exact ⟨hg', lt_heap hh⟩
theorem Own.below {w w' : World} {base : Nat} {E : TypeId} {v : Value} {ns : List (List UInt8)} (h : Own w base E v ns) (hb : Below w.heap.size w w') : Own w' base E v ns :=
  h.block fun g hg => hb.block g (h.lt g hg).2
theorem Own.base {w : World} {base base' : Nat} {E : TypeId} {v : Value} {ns : List (List UInt8)} (h : Own w base E v ns) (hb : base' ≤ base) : Own w base' E v ns :=
  ⟨h.1, h.2.elim Or.inl (fun ⟨g, cap, cur, hv, hg, r⟩ => Or.inr ⟨g, cap, cur, hv, Nat.le_trans hb hg, r⟩)⟩
theorem grown_below {B : Nat} {w w' : World} {v : Value} (h : w.grownBy w' v.ownBlock) (hv : ∀ g, v.ownBlock = some g → B ≤ g) (hB : B ≤ w.heap.size) : Below B w w' :=
  (Below.refl B w).grown h hB hv

theorem inf22 : (Try.prog.info? 22).map (fun i => (i.zero, i.size, i.bytes)) = some (some (.agg (bC z12)), 12, 12) := by kernel_rfl
theorem inf23 : (Try.prog.info? 23).map (fun i => (i.zero, i.size, i.bytes)) = some (some (.agg (bC z12)), 12, 12) := by kernel_rfl

theorem wl_app {ops : Array Oper} {rest : List Oper} {o : Oper} {a : Act} {w : World} {Q : Exit → Act → World → Prop} (T E : TypeId) (hT : Try.prog.underlying T = some (.slice E)) (hinf : (Try.prog.info? E).map (fun i => (i.zero, i.size, i.bytes)) = some (some (.agg (bC z12)), 12, 12))
    (hgd : o.guard = none) (s x : Operand) (ho : o.op = .call { callee := .builtin .append, args := #[s, x], argTypes := #[T, T] })
    (base : Nat) (v : Value) (ns : List (List UInt8)) (hs : a.eval s = v) (hown : Own w base E v ns) (b off c : Nat) (ms : List (List UInt8)) (hx : a.eval x = .slice (some ⟨b, off, none⟩) ms.length c)
    (h12 : All12 ms) (hr : w.rangeAt b off (bC ms.flatten).toList) (hlen : (ns.length + ms.length) * 12 ≤ 140737488355328) (hbase : base ≤ w.heap.size)
    (h : ∀ v' w', Own w' base E v' (ns ++ ms) → w.grownBy w' v.ownBlock → wpList Try.prog ops Q rest (a.put o.dst v') w') : wpList Try.prog ops Q (o :: rest) a w := by
  obtain ⟨i, hi, hz, hsz, hby⟩ := info_parts hinf
  refine wpList_append_own w hgd s x T ho base E i (.agg (bC z12)) 12 12 hT hi hz hsz hby (by show (bC z12).size = 12; rfl) (by omega) v ns.length (bC ns.flatten).toList hs hown ⟨b, off, none⟩ ms.length c (bC ms.flatten).toList hx ?_ ?_ ?_ ?_ hlen hbase ?_
  · have := flatten_length ms h12
    rw [← this]; simp only [bC, List.toList_toArray, List.length_map]
  · intro j u hu
    rw [Addr.add_mid]
    exact hr j u hu
  · intro u hu
    simp only [bC, List.toList_toArray, List.mem_map] at hu
    obtain ⟨y, _, rfl⟩ := hu
    rfl
  · unfold maxLen; omega
  · intro v' w' h1 h2 _
    refine h v' w' ?_ h2
    have e : (bC (ns ++ ms).flatten).toList = (bC ns.flatten).toList ++ (bC ms.flatten).toList := by simp [bC]
    unfold Own
    rw [e, List.length_append]
    exact h1
theorem wl_app22 {ops : Array Oper} {rest : List Oper} {o : Oper} {a : Act} {w : World} {Q : Exit → Act → World → Prop} 
    (hgd : o.guard = none) (s x : Operand) (ho : o.op = .call { callee := .builtin .append, args := #[s, x], argTypes := #[46, 46] })
    (base : Nat) (v : Value) (ns : List (List UInt8)) (hs : a.eval s = v) (hown : Own w base 22 v ns) (b c : Nat) (n : List UInt8) (hx : a.eval x = .slice (some ⟨b, 0, none⟩) 1 c)
    (hn : n.length = 12) (hg : w.heap[b]? = some (.cells (bC n) 22)) (hlen : ns.length ≤ 1000000000) (hbase : base ≤ w.heap.size)
    (h : ∀ v' w', Own w' base 22 v' (ns ++ [n]) → w.grownBy w' v.ownBlock → wpList Try.prog ops Q rest (a.put o.dst v') w') : wpList Try.prog ops Q (o :: rest) a w :=
  wl_app 46 22 Try.underlying46 inf22 hgd s x ho base v ns hs hown b 0 c [n] hx (by intro m hm; simp at hm; rw [hm]; exact hn)
    (fun j u hu => by rw [Nat.zero_add, cell_of_row w b j _ _ _ hg]; simpa using hu) (by simp; omega) hbase h

theorem bs46_1 {ops : Array Oper} {rest : List Oper} {o : Oper} {a : Act} {w : World} {Q : Exit → Act → World → Prop} (hw : Region.wanted o (yielded ops a.tmps) = true) (x : Operand) (ho : o.op = .buildSlice 46 1 #[(0, x)])
    (n : List UInt8) (hx : a.eval x = .agg (bC n)) (h12 : n.length = 12)
    (h : wpList Try.prog ops Q rest (a.put o.dst (.slice (some ⟨w.heap.size, 0, none⟩) 1 1)) (w.alloc (.cells (bC n) 22))) : wpList Try.prog ops Q (o :: rest) a w :=
  wpList_step fun _ hK => by
    rw [if_pos hw]
    obtain ⟨ie, hie, hz, hsz, hby⟩ := info_parts inf22
    have hb := run_buildSlice (P := Try.prog) w 46 22 1 #[(0, .agg (bC n))] (bC n) ie (.agg (bC z12)) Try.underlying46 hie hz (by rw [hsz]; omega) (by rw [hsz]; omega) (by
      rw [hsz]
      have := Great.fill_whole (s := 12) (by omega) [.agg (bC n)] ((Array.range (1 * 12)).map ((Value.agg (bC z12)).cells[· % (Value.agg (bC z12)).cells.size]!)) (fun v hv => by
        simp at hv; subst hv
        show (bC n).size = 12
        rw [bC_size, h12]) (by simp)
      simp only [List.zipIdx_cons, List.zipIdx_nil, List.map_cons, List.map_nil] at this
      rw [this]
      simp [Value.cells])
    unfold Oper.wp execOp
    have hp : (#[(0, x)].map fun (p : Nat × Operand) => (p.1, a.eval p.2)) = #[(0, Value.agg (bC n))] := by simp [hx]
    simp only [ho, Sem.run_bind, hp, hb, Result.andThen_ok]
    exact hK _ _ h

theorem ldmid22 {ops : Array Oper} {rest : List Oper} {o : Oper} {a : Act} {w : World} {Q : Exit → Act → World → Prop} (hgd : o.guard = none) (x : Operand) (ho : o.op = .load 22 x)
    (b i : Nat) (n : List UInt8) (hx : a.eval x = .pointer (some ⟨b, i, none⟩)) (hn : n.length = 12) (hc : w.rangeAt b i (bC n).toList)
    (h : wpList Try.prog ops Q rest (a.put o.dst (.agg (bC n))) w) : wpList Try.prog ops Q (o :: rest) a w := by
  refine wpList_load_mid hgd 22 x ho b i hx (bC n).toList _ hc Try.underlying22 rfl ?_ ?_
  · rw [info22]; simp [bC, hn]
  · simpa using h

def wout (ns : List (List UInt8)) (n : List UInt8) : List (List UInt8) := ns.filter (fun m => !(m == n))
theorem wout_snoc (ns : List (List UInt8)) (n : List UInt8) (k : Nat) (h : k < ns.length) : wout (ns.take (k + 1)) n = wout (ns.take k) n ++ if ns[k] == n then [] else [ns[k]] := by
  unfold wout
  rw [List.take_succ_eq_append_getElem h, List.filter_append]
  congr 1
  cases h : ns[k] == n <;> simp [h]

set_option maxHeartbeats 400000 in
theorem without_any (v : Value) (ns : List (List UInt8)) (n : List UInt8) (w : World) (hv : RowsAt w v ns) (h12 : All12 ns) (hn : n.length = 12) (hlen : ns.length ≤ 1000000) :
    Calls Try.prog 26 #[v, .agg (bC n)] w fun e w' => Below w.heap.size w w' ∧ ∃ v', e = .returned v' ∧ Own w' w.heap.size 22 v' (wout ns n) := by
  rcases hv with ⟨rfl, rfl⟩ | ⟨b, o, cap, rfl, hcap, hb, hrg⟩
  · go_enter Try.func26, Try.ntmps26
    go_wp2_with fail
    go_loop [5, 6] (fun c i => c = .slice none 0 0 ∧ i = .int .i64 0) (fun _ _ => 0)
    case atStart => exact ⟨rfl, rfl⟩
    case round =>
      obtain ⟨rfl, rfl⟩ := hrel
      go_wp2_with fail
      go_ret
      exact ⟨below_alloc1 _ _, _, rfl, Own.nil _ _ _⟩
  · obtain ⟨m, hm⟩ : ∃ m, Hid (ns.length = m) := ⟨_, rfl⟩
    have hlen' : (m : Int) ≤ 1000000 := by rw [← hm.out]; omega
    rw [hm.out]
    have HN := Lib.hid hn
    have H12 := Lib.hid h12
    have HB0 : Hid (Below w.heap.size w (w.alloc (.cells (bC n) 22))) := below_alloc1 _ _
    have HRG : Hid ((w.alloc (.cells (bC n) 22)).rangeAt b o (bC ns.flatten).toList) := range_of_block hrg (HB0.out.block b hb)
    have HB : Hid (b < (w.alloc (.cells (bC n) 22)).heap.size) := Nat.lt_of_lt_of_le hb HB0.out.size
    have HX : Hid ((w.alloc (.cells (bC n) 22)).heap[w.heap.size]? = some (.cells (bC n) 22)) := heap_alloc_new _ _
    clear hn h12 hrg hb hcap hlen
    go_enter Try.func26, Try.ntmps26
    go_wp2_with fail
    generalize w.alloc (.cells (bC n) 22) = W at *
    go_loopw [5, 6] (fun c i wr => ∃ k : Nat, k ≤ m ∧ i = .int .i64 k ∧ Hid (Own wr W.heap.size 22 c (wout (ns.take k) n)) ∧ Hid (Below W.heap.size W wr)) (fun _ i _ => m - (intOf i).toNat)
    case atStart => exact ⟨0, Nat.zero_le _, rfl, Own.nil _ _ _, Below.refl _ _⟩
    case round =>
      obtain ⟨k, hk, rfl, HO, HBel⟩ := hrel
      by_cases hlt : k < m
      · have hk2 : k < ns.length := by rw [hm.out]; exact hlt
        have hnk : Hid (ns[k].length = 12) := H12.out _ (List.getElem_mem hk2)
        have hrk : Hid (wr.rangeAt b (o + k * 12) (bC ns[k]).toList) := range_of_block (range_elem HRG.out H12.out k hk2) (HBel.out.block b HB.out)
        have HA : Hid (wout (ns.take (k + 1)) n = wout (ns.take k) n ++ if ns[k] == n then [] else [ns[k]]) := wout_snoc ns n k hk2
        have hcl : (wout (ns.take k) n).length ≤ k := Nat.le_trans (List.length_filter_le _ _) (List.length_take_le _ _)
        have hbw : Hid (b < wr.heap.size) := Nat.lt_of_lt_of_le HB.out HBel.out.size
        have hxw : Hid (wr.heap[w.heap.size]? = some (.cells (bC n) 22)) := (HBel.out.block _ (lt_heap HX.out)).trans HX.out
        have hneq := neq22 (xs := ns[k]) (ys := n) (hx := hnk.out) (hy := HN.out)
        generalize ns[k] = nk at *
        generalize wout (ns.take k) n = ck at *
        have hk3 : (k : Int) < (m : Int) := by omega
        cases he : (nk == n)
        all_goals
          rw [he] at HA hneq
          clear he
          go_wp2_with fail
          refine wp_region_quiet_below (by kernel_rfl) (by kernel_rfl) ?_
          repeat (first
            | (with_reducible refine wq_ldmid22 _ b (o + k * 12) nk rfl rfl rfl hrk.out hbw.out hnk.out ?_; simp only [Act.put, List.setIfInBounds_toArray, List.set_cons_zero, List.set_cons_succ])
            | (with_reducible refine wq_load22 _ w.heap.size n (0, 0) rfl rfl rfl hxw.out HN.out ?_; simp only [Act.put, List.setIfInBounds_toArray, List.set_cons_zero, List.set_cons_succ])
            | go_big_quiet_step (fail))
          refine wpQuiet_nil ?_
          rintro _ ⟨⟨dq, osq⟩, rfl⟩
          clear hneq
          have hrk2 : Hid ((Sort.grow (redrawn wr dq) osq).rangeAt b (o + k * 12) (bC nk).toList) := range_of_block hrk.out ((below_regrown wr dq osq).block b hbw.out)
          have HB2 : Hid (Below W.heap.size W (Sort.grow (redrawn wr dq) osq)) := HBel.out.trans ((below_regrown wr dq osq).mono HBel.out.size)
          have HO2 : Hid (Own (Sort.grow (redrawn wr dq) osq) W.heap.size 22 u5 ck) := HO.out.below (below_regrown wr dq osq)
          clear hxw HO HBel hrk
          generalize Sort.grow (redrawn wr dq) osq = w2 at *
          have hcl2 : ck.length ≤ 1000000000 := by omega
          have HB3 : Hid (Below W.heap.size W (w2.alloc (.cells (bC nk) 22))) := HB2.out.alloc HB2.out.size _
          have HO3 : Hid (Own (w2.alloc (.cells (bC nk) 22)) W.heap.size 22 u5 ck) := HO2.out.below (below_alloc1 _ _)
          go_wp2_with (first
            | (with_reducible refine ldmid22 rfl _ rfl b (o + k * 12) nk rfl hnk.out hrk2.out ?_)
            | (with_reducible refine bs46_1 rfl _ rfl nk rfl hnk.out ?_)
            | (at_builtin; (refine wl_app22 rfl _ _ rfl W.heap.size _ ck rfl HO3.out w2.heap.size 1 nk rfl hnk.out (heap_alloc_new _ _) hcl2 HB3.out.size ?_); intro v' w3 ho3 hg3))
          go_roundw
          case rel =>
            first
              | (refine ⟨k + 1, by omega, by go_num, ?_, HB3.out.trans (grown_below hg3 (fun g hg => (HO3.out.lt g hg).1) HB3.out.size)⟩
                 rw [HA.out]; exact ho3)
              | (refine ⟨k + 1, by omega, by go_num, ?_, HB2.out⟩
                 rw [HA.out]
                 show Own w2 W.heap.size 22 u5 (ck ++ [])
                 rw [List.append_nil]; exact HO2.out)
          case measure => simp [intOf]; omega
      · obtain rfl : k = m := by omega
        have HE : Hid (ns.take k = ns) := List.take_of_length_le (by rw [hm.out]; exact Nat.le_refl _)
        rw [HE.out] at HO
        go_wp2_with fail
        go_ret
        exact ⟨HB0.out.trans (HBel.out.mono HB0.out.size), _, rfl, HO.out.base HB0.out.size⟩

end Go.Proofs.Ytbflliiaigkmgaa
