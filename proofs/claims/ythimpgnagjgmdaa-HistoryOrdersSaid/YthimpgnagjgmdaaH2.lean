/- The law's cut of chapter 30: some calls, at most 30. -/
import Derived.Test.YthimpgnagjgmdaaH1
namespace Go.Proofs.Ythimpgnagjgmdaa
open Go.RowKit

section
variable {P : Program} {Q : Exit → Act → World → Prop}
theorem wpOp_call {ops : Array Oper} {i : Nat} {o : Oper} {a : Act} {w : World} {f : FuncId} {args : Array Value} {R : Ending → World → Prop} {K : Act → World → Prop} (hi : ops[i]? = some o) (hg : o.guard = none) (hr : (execOp a.eval o).run P w = .ok (.enter f args) w)
    (hc : Calls P f args w R) (h : ∀ e w', R e w' → ∃ v, e = .returned v ∧ K (a.put o.dst v) w') : wpOp P ops Q i K a w := by
  unfold wpOp
  simp only [hi]
  rw [if_pos (by unfold Region.wanted; rw [hg])]
  left
  unfold Oper.wp
  rw [hr, Oper.upon_enter]
  refine hc.mono ?_
  intro e w' hR
  obtain ⟨v, rfl, hk⟩ := h e w' hR
  exact hk
theorem exec_calls {o : Oper} {a : Act} {f : FuncId} {xs : Array Operand} {ts : Array TypeId} {vs : Array Value} (ho : o.op = .call { callee := .value (.func f), args := xs, argTypes := ts }) (hf : ∀ args w, (callFunc f args).run P w = .ok (.enter f args) w) (hx : xs.map a.eval = vs) (w : World) :
    (execOp a.eval o).run P w = .ok (.enter f vs) w := by
  unfold execOp
  simp [ho, resolve, invoke, hx, hf, Deferred.ofValue, show a.eval (.func f) = .func (.func f) #[] #[] from rfl]
theorem exec_ld1 {o : Oper} {a : Act} {w : World} (T : TypeId) (hag : ∀ w, (isAgg T).run P w = .ok false w) (x : Operand) (ho : o.op = .load T x) (b i : Nat) (v : Value) (hx : a.eval x = .pointer (some ⟨b, i, none⟩)) (hc : w.cell? ⟨b, i, none⟩ = some v) : (execOp a.eval o).run P w = .ok (.value v) w := by
  unfold execOp
  simp only [ho, hx, Sem.run_bind]
  simp [go_sem, hag, hc]
end
theorem exec_fC {o : Oper} {a : Act} {w : World} (x : Operand) (n k : Nat) (hk : (n = 0 ∧ k = 0) ∨ (n = 1 ∧ k = 1) ∨ (n = 2 ∧ k = 2) ∨ (n = 3 ∧ k = 3) ∨ (n = 4 ∧ k = 4) ∨ (n = 5 ∧ k = 34) ∨ (n = 6 ∧ k = 35) ∨ (n = 7 ∧ k = 36) ∨ (n = 8 ∧ k = 37)) (ho : o.op = .fieldAddr 42 x n) (b f : Nat) (hx : a.eval x = .pointer (some ⟨b, f, none⟩)) : (execOp a.eval o).run Try.prog w = .ok (.value (.pointer (some ⟨b, f + k, none⟩))) w := by
  rcases hk with ⟨rfl, rfl⟩ | ⟨rfl, rfl⟩ | ⟨rfl, rfl⟩ | ⟨rfl, rfl⟩ | ⟨rfl, rfl⟩ | ⟨rfl, rfl⟩ | ⟨rfl, rfl⟩ | ⟨rfl, rfl⟩ | ⟨rfl, rfl⟩ <;>
  · unfold execOp
    simp only [ho, hx]
    simp [go_sem]
theorem ag36 (w : World) : (isAgg 36).run Try.prog w = .ok false w := by simp [isAgg, run_underlying Try.underlying36]
theorem siz36 : (Try.prog.info? 36).map (·.size) = some 1 := by kernel_rfl
/-- A call's writes lie where its slice says. -/
def OkIn (w : World) (x : Ca) : Prop := ∃ ws : List WrD, ws.length = x.n ∧ SlAt wrC 35 w x.q ws
def OkOwn (B : Nat) (w : World) (x : Ca) : Prop := ∃ ws : List WrD, OwnE wrC 78 35 w B (.slice x.q x.n x.c) ws ∧ ws.length ≤ 20
theorem OkIn.below {w w' : World} {x : Ca} (h : OkIn w x) (hb : Below w.heap.size w w') : OkIn w' x := by
  obtain ⟨ws, h1, h2⟩ := h
  exact ⟨ws, h1, h2.below hb⟩
theorem OkOwn.inn {B : Nat} {w : World} {x : Ca} (h : OkOwn B w x) : OkIn w x := by
  obtain ⟨ws, h1, h2⟩ := h
  obtain ⟨q, c, hv, _, _, hs, _⟩ := h1.at wrC_len
  simp only [Value.slice.injEq] at hv
  exact ⟨ws, hv.2.1.symm, hv.1 ▸ hs⟩
theorem OkOwn.below {B : Nat} {w w' : World} {x : Ca} (h : OkOwn B w x) (hb : Below w.heap.size w w') : OkOwn B w' x := by
  obtain ⟨ws, h1, h2⟩ := h
  exact ⟨ws, h1.below hb, h2⟩
theorem own_type {α : Type} {enc : α → List Value} {k : Nat} {E : TypeId} {w : World} {base : Nat} {v : Value} {xs : List α} (h : OwnE enc E k w base v xs) {g : Nat} (hg : v.ownBlock = some g) : ∃ cs, w.heap[g]? = some (.cells cs E (0, 0)) := by
  obtain ⟨_, ⟨rfl, _⟩ | ⟨g', cap', cur, rfl, _, hh, _⟩⟩ := h
  · cases hg
  · simp only [Value.ownBlock, Option.some.injEq] at hg
    exact ⟨cur, by rw [← hg]; exact hh⟩
/-- What turns blocks of another type alone. -/
theorem OkOwn.other {B : Nat} {w w' : World} {x : Ca} (h : OkOwn B w x) (hb : ∀ (g : Nat) (cs : Array Value), w.heap[g]? = some (.cells cs 78 (0, 0)) → w'.heap[g]? = w.heap[g]?) : OkOwn B w' x := by
  obtain ⟨ws, h1, h2⟩ := h
  refine ⟨ws, h1.block fun g hg => ?_, h2⟩
  obtain ⟨cs, hc⟩ := own_type h1 hg
  exact hb g cs hc
/-- Where the drawn region of a round stands. -/
def C6 (W : World) (b : Nat) (x : Ca) (ws : List WrD) (r : Nat) (gv : Value) (v : World) : Prop :=
  match r with
  | 0 => Below W.heap.size W v
  | 1 => Below W.heap.size W v
  | 2 => Below W.heap.size W v ∧ OwnE wrC 78 35 v W.heap.size gv ws
  | 3 => Turn [b] W v ∧ v.heap[b]? = some (.cells (caC { x with op := cutO x.op }).toArray 42 (0, 0)) ∧ OwnE wrC 78 35 v W.heap.size gv ws
  | _ => ∃ q n c, gv = .slice q n c ∧ Turn [b] W v ∧ v.heap[b]? = some (.cells (caC { x with op := cutO x.op, q := q, n := n, c := c }).toArray 42 (0, 0)) ∧ OwnE wrC 78 35 v W.heap.size gv ws
def cz : Array Value := #[Value.int IntKind.i64 0, Value.int IntKind.i64 0, Value.int IntKind.i64 0, Value.int IntKind.i64 0, Value.int IntKind.i64 0, Value.int IntKind.i64 0, Value.int IntKind.i64 0, Value.int IntKind.i64 0, Value.int IntKind.i64 0, Value.int IntKind.i64 0, Value.int IntKind.i64 0, Value.int IntKind.u8 0, Value.int IntKind.u8 0, Value.int IntKind.u8 0, Value.int IntKind.u8 0, Value.int IntKind.u8 0, Value.int IntKind.u8 0, Value.int IntKind.u8 0, Value.int IntKind.u8 0, Value.int IntKind.u8 0, Value.int IntKind.u8 0, Value.int IntKind.u8 0, Value.int IntKind.u8 0, Value.int IntKind.u8 0, Value.int IntKind.u8 0, Value.int IntKind.u8 0, Value.int IntKind.u8 0, Value.int IntKind.u8 0, Value.int IntKind.u8 0, Value.int IntKind.u8 0, Value.int IntKind.u8 0, Value.int IntKind.u8 0, Value.int IntKind.u8 0, Value.string ⟨#[]⟩, Value.slice none 0 0, Value.int IntKind.u64 0, Value.bool false, Value.int IntKind.i64 0, Value.string ⟨#[]⟩, Value.int IntKind.u8 0, Value.int IntKind.u8 0, Value.int IntKind.u8 0, Value.int IntKind.u8 0, Value.int IntKind.u8 0, Value.int IntKind.u8 0, Value.int IntKind.u8 0, Value.int IntKind.u8 0, Value.int IntKind.u8 0, Value.int IntKind.u8 0, Value.int IntKind.i64 0, Value.int IntKind.i64 0]
set_option maxRecDepth 100000 in
set_option maxHeartbeats 16000000 in
theorem cut30_any (q : Option Addr) (n c : Nat) (xs : List Ca) (w : World) (hn : xs.length = n) (hq : SlAt caC 51 w q xs) (ho : ∀ x ∈ xs, OkIn w x) :
    Calls Try.prog 5 #[.slice q n c] w fun e w' => ∃ v', e = .returned v' ∧ ∃ ys : List Ca, ys.length ≤ 30 ∧ OwnE caC 42 51 w' w.heap.size v' ys ∧ (∀ y ∈ ys, OkOwn w.heap.size w' y) ∧ Below w.heap.size w w' := by
  have HN := Lib.hid hn
  have HQ := Lib.hid hq
  have HO := Lib.hid ho
  clear hn hq ho
  go_enter Try.func5, Try.ntmps5
  go_wp2_with fail
  go_loopw [3, 4] (fun vo vi wr => ∃ (k : Nat) (ys : List Ca), k ≤ n ∧ k ≤ 30 ∧ vi = .int .i64 k ∧ ys.length = k ∧ Hid (OwnE caC 42 51 wr w.heap.size vo ys) ∧ Hid (∀ y ∈ ys, OkOwn w.heap.size wr y) ∧ Hid (Below w.heap.size w wr)) (fun _ vi _ => 30 - (intOf vi).toNat)
  case atStart => exact ⟨0, [], Nat.zero_le _, Nat.zero_le _, rfl, rfl, OwnE.nil _ _, fun y hy => by simp at hy, Below.refl _ _⟩
  case round =>
    obtain ⟨k, ys, hkn, hk30, rfl, hyl, HOw, HYs, HB⟩ := hrel
    by_cases h1 : k < n
    · have h1i : (k : Int) < n := by omega
      by_cases h2 : k < 30
      · have h2i : (k : Int) < 30 := by omega
        obtain ⟨b, o, rfl, hbs, hro⟩ := HQ.out k (by rw [HN.out]; exact h1)
        obtain ⟨x, hx⟩ : ∃ x, x = xs[k]'(by rw [HN.out]; exact h1) := ⟨_, rfl⟩
        rw [← hx] at hro
        have HIn : Hid (OkIn wr x) := (HO.out x (by rw [hx]; exact List.getElem_mem _)).below HB.out
        have HRow : Hid (wr.rangeAt b (o + k * 51) (caC x)) := range_of_block hro (HB.out.block b hbs)
        clear hro hx
        go_upto_region 6 with (first | ((with_reducible refine gate_ld 42 (.tmp 18) rfl ?_); refine wl_ldr rfl 42 _ rfl b (o + k * 51) (caC x) _ Try.underlying42 rfl (by rw [sizCa, caC_len]) rfl HRow.out ?_) | ((with_reducible refine gate_st 42 (.tmp 5) _ rfl ?_); refine wl_strn rfl _ _ _ rfl (caC x).toArray cz _ (by rw [sizCa]; simp [caC_len]) (by simp [caC_len, cz]) (by rw [← Array.all_toList]; exact caC_one x) (by simp [Act.eval]) rfl ?_))
        have HB4 := Lib.hid (HB.out.alloc HB.out.size (.cells (caC x).toArray 42))
        have HN4 : Hid ((wr.alloc (.cells (caC x).toArray 42)).heap[wr.heap.size]? = some (.cells (caC x).toArray 42 (0, 0))) := heap_alloc_new _ _
        have hb4 := below_alloc1 wr (.cells (caC x).toArray 42)
        have HO4 := Lib.hid (HOw.out.below hb4)
        have HY4 : Hid (∀ y ∈ ys, OkOwn w.heap.size (wr.alloc (.cells (caC x).toArray 42)) y) := fun y hy => (HYs.out y hy).below hb4
        have HI4 := Lib.hid (HIn.out.below hb4)
        have HL4 : Hid (∀ g, u3.ownBlock = some g → g ≠ wr.heap.size) := fun g hg => by have := (HOw.out.lt g hg).2; omega
        have HWs : Hid (w.heap.size ≤ wr.heap.size) := HB.out.size
        clear hb4
        generalize wr.alloc (.cells (caC x).toArray 42) = W4 at *
        generalize wr.heap.size = cb at *
        obtain ⟨ws, hwl, hws⟩ := HI4.out
        have HWl := Lib.hid hwl
        have HWS := Lib.hid hws
        clear hwl hws HIn HRow HOw HYs HI4
        have hcb := lt_heap HN4.out
        simp only [Act.put]
        refine wp_region_chainV (C6 W4 cb x (cutL ws)) (fun gv => [some (20, .pointer (some ⟨cb, 4, none⟩)), some (21, .agg (opC x.op).toArray), some (22, .agg (opC (cutO x.op)).toArray), some (23, .pointer (some ⟨cb, 34, none⟩)), some (24, .slice x.q x.n x.c), some (25, gv), some (26, .pointer (some ⟨cb, 4, none⟩)), none, some (27, .pointer (some ⟨cb, 34, none⟩)), none]) [2, 5, 7, 9] 5 (.slice none 0 0)
          (by kernel_rfl) (by kernel_rfl) (fun _ => rfl) (fun v v' i hi => by
            by_cases h : i < 10
            · have h2 : i = 0 ∨ i = 1 ∨ i = 2 ∨ i = 3 ∨ i = 4 ∨ i = 5 ∨ i = 6 ∨ i = 7 ∨ i = 8 ∨ i = 9 := by omega
              rcases h2 with rfl | rfl | rfl | rfl | rfl | rfl | rfl | rfl | rfl | rfl <;> first | rfl | exact absurd rfl hi
            · rw [List.getElem?_eq_none (by simp; omega), List.getElem?_eq_none (by simp; omega)])
          (fun _ _ => rfl) (by simp) (by simp) (by decide) (by decide) (fun r hr => by have h2 : r + 1 < 4 := hr; obtain rfl | rfl | rfl : r = 0 ∨ r = 1 ∨ r = 2 := (by omega) <;> (show _ = true; kernel_rfl))
          (Below.refl _ _).drew ?_ ?_ ?_
        · intro i hi hE gv a v r hfr hdep hC hkk K hK
          have hi10 : i < 10 := hi
          have hbk : ∀ (r' : Nat) (_ : r' ≤ 2), r = r' → v.heap[cb]? = W4.heap[cb]? := fun r' h e => by
            subst e
            rcases (by omega : r = 0 ∨ r = 1 ∨ r = 2) with rfl | rfl | rfl
            · exact Below.block hC _ hcb
            · exact Below.block hC _ hcb
            · exact hC.1.block _ hcb
          obtain rfl | rfl | rfl | rfl | rfl | rfl | rfl | rfl | rfl | rfl : i = 0 ∨ i = 1 ∨ i = 2 ∨ i = 3 ∨ i = 4 ∨ i = 5 ∨ i = 6 ∨ i = 7 ∨ i = 8 ∨ i = 9 := by omega
          · exact wpOp_val rfl rfl (exec_fC (.tmp 5) 4 4 (by simp) rfl cb 0 (hfr.off 5 (by simp))) hK
          · have hr1 : r ≤ 2 := by
              rcases Nat.lt_or_ge 2 r with h | h
              · exact absurd (hkk 2 (by simp) h) (by decide +kernel)
              · exact h
            exact wpOp_ldr rfl rfl 35 (.tmp 20) rfl cb 4 (opC x.op) _ Try.underlying35 rfl (by rw [sizOp, opC_len]) (hdep 0 (by kernel_rfl) 20 _ rfl) (range_of_block (by have := ca_op (range_whole HN4.out); rwa [Nat.zero_add] at this) (hbk r hr1 rfl)) hK
          · exact absurd (by simp) hE
          · exact wpOp_val rfl rfl (exec_fC (.tmp 5) 5 34 (by simp) rfl cb 0 (hfr.off 5 (by simp))) hK
          · have hr1 : r ≤ 2 := by
              rcases Nat.lt_or_ge 2 r with h | h
              · exact absurd (hkk 2 (by simp) h) (by decide +kernel)
              · exact h
            exact wpOp_val rfl rfl (exec_ld1 36 ag36 (.tmp 23) rfl cb 34 (.slice x.q x.n x.c) (hdep 3 (by kernel_rfl) 23 _ rfl) (by rw [cell_of (hbk r hr1 rfl), cell_blk HN4.out, List.getElem?_toArray]; exact ca_w x)) hK
          · exact absurd (by simp) hE
          · exact wpOp_val rfl rfl (exec_fC (.tmp 5) 4 4 (by simp) rfl cb 0 (hfr.off 5 (by simp))) hK
          · exact absurd (by simp) hE
          · exact wpOp_val rfl rfl (exec_fC (.tmp 5) 5 34 (by simp) rfl cb 0 (hfr.off 5 (by simp))) hK
          · exact absurd (by simp) hE
        · intro r hr gv a v hfr hdep hC K hK
          have hr4 : r < 4 := hr
          obtain rfl | rfl | rfl | rfl : r = 0 ∨ r = 1 ∨ r = 2 ∨ r = 3 := by omega
          · refine wpOp_call rfl rfl (exec_calls rfl (enters_of Try.func16 (by kernel_rfl) rfl) (vs := #[.agg (opC x.op).toArray]) (by simp [show a.eval (.tmp 21) = _ from hdep 1 (by kernel_rfl) 21 _ rfl]) v) (cut25_any x.op v) ?_
            rintro e w' ⟨rfl, hb⟩
            exact ⟨_, rfl, hK gv w' (fun _ => rfl) (Below.trans hC (hb.mono (Below.size hC)))⟩
          · refine wpOp_call rfl rfl (exec_calls rfl (enters_of Try.func17 (by kernel_rfl) rfl) (vs := #[.slice x.q x.n x.c]) (by simp [show a.eval (.tmp 24) = _ from hdep 4 (by kernel_rfl) 24 _ rfl]) v) (cut14_any x.q x.n x.c ws v HWl.out (HWS.out.below hC)) ?_
            rintro e w' ⟨gv', rfl, ho, hb⟩
            exact ⟨gv', rfl, hK gv' w' (fun h => absurd rfl h) ⟨Below.trans hC (hb.mono (Below.size hC)), ho.base (Below.size hC)⟩⟩
          · obtain ⟨hb, ho⟩ := hC
            have hx4 := (hb.block _ hcb).trans HN4.out
            refine wpOp_skip rfl rfl (exec_stN 35 (opC (cutO x.op)) (by rw [sizOp, opC_len]) (.tmp 26) (.tmp 22) rfl cb 4 (hdep 6 (by kernel_rfl) 26 _ rfl) (hdep 2 (by kernel_rfl) 22 _ rfl) (opC_one _) (caC x) _ hx4 (by rw [opC_len, caC_len]; omega)) (hK gv _ (fun _ => rfl) ?_)
            rw [caC_op]
            have ht : Turn [cb] v (v.setRow cb (caC { x with op := cutO x.op }).toArray) := ⟨rfl, rfl, rfl, by simp, fun b _ hr => setRow_other _ _ _ _ (by simpa using hr)⟩
            refine ⟨(Turn.of_below hb).trans (ht.mono fun k _ h => h), setRow_at hx4, ho.block fun g hg => setRow_other _ _ _ _ fun e => ?_⟩
            have := (ho.lt g hg).1
            omega
          · obtain ⟨ht0, hx4, ho⟩ := hC
            obtain ⟨q', c', rfl⟩ := ho.slice
            refine wpOp_skip rfl rfl (exec_st1 36 siz36 (.tmp 27) (.tmp 25) rfl cb 34 (.slice q' (cutL ws).length c') (hdep 8 (by kernel_rfl) 27 _ rfl) (hdep 5 (by kernel_rfl) 25 _ rfl) rfl (caC { x with op := cutO x.op }) _ hx4 (by rw [caC_len]; omega)) (hK _ _ (fun _ => rfl) ?_)
            rw [caC_w]
            have ht : Turn [cb] v (v.setRow cb (caC { x with op := cutO x.op, q := q', n := (cutL ws).length, c := c' }).toArray) := ⟨rfl, rfl, rfl, by simp, fun b _ hr => setRow_other _ _ _ _ (by simpa using hr)⟩
            refine ⟨q', _, c', rfl, ht0.trans (ht.mono fun k _ h => h), setRow_at hx4, ho.block fun g hg => setRow_other _ _ _ _ fun e => ?_⟩
            have := (ho.lt g hg).1
            omega
        · intro gv v hC
          obtain ⟨q', n', c', rfl, ht, hx5, ho⟩ := hC
          have HT5 := Lib.hid ht
          have HX5 := Lib.hid hx5
          have HOW5 := Lib.hid ho
          clear ht hx5 ho
          simp only [puts, List.filterMap_cons, List.filterMap_nil, _root_.id, List.setIfInBounds_toArray, List.set_cons_zero, List.set_cons_succ]
          obtain ⟨x5, hx5⟩ : ∃ x5 : Ca, x5 = { x with op := cutO x.op, q := q', n := n', c := c' } := ⟨_, rfl⟩
          rw [← hx5] at HX5
          have HK5 : Hid (OkOwn w.heap.size v x5) := by
            rw [hx5]
            exact ⟨cutL ws, HOW5.out.base (Nat.le_trans HWs.out (by have := HB4.out.size; have := HN4.out; have h := lt_heap HN4.out; omega)), cutL_len _⟩
          clear hx5 HOW5
          have HO5 : Hid (OwnE caC 42 51 v w.heap.size u3 ys) := HO4.out.block fun g hg => HT5.out.block g (HO4.out.lt g hg).2 (by simpa using HL4.out g hg)
          have HY5 : Hid (∀ y ∈ ys, OkOwn w.heap.size v y) := fun y hy => (HY4.out y hy).other fun g cs hg => HT5.out.block g (lt_heap hg) fun hm => by
            simp at hm
            rw [hm, HN4.out] at hg
            simp only [Option.some.injEq, Obj.cells.injEq] at hg
            exact absurd hg.2.1 (by decide)
          have HB5 := Lib.hid (HB4.out.trans (HT5.out.below (B := w.heap.size) (fun k hk => by have := HWs.out; simp at hk; omega) (by have := HB4.out.size; exact this)))
          clear HT5 HO4 HY4 HB4 HN4 hcb
          obtain ⟨sx, hsx⟩ : ∃ sx, sx = x5.rep.text := ⟨_, rfl⟩
          have hct : v.cell? ⟨cb, 38, none⟩ = some (.string sx) := by rw [cell_blk HX5.out, List.getElem?_toArray, hsx]; exact ca_rep x5 1 _ rfl
          clear hsx
          obtain ⟨m, hm, hml⟩ : ∃ m : Nat, min (sx.size : Int) 1300 = (m : Int) ∧ m ≤ sx.size := ⟨min sx.size 1300, by omega, Nat.min_le_left _ _⟩
          have hmi : ¬ (sx.size : Int) < m := by omega
          go_upto_region 8 with (first | ((with_reducible refine gate_st 9 (.tmp 38) _ rfl ?_); refine wl_st1G rfl 9 siz9 _ _ rfl cb 38 (.string (sx.extract 0 m)) rfl rfl rfl (caC x5) (caC { x5 with rep := x5.rep.set (sx.extract 0 m) }) _ HX5.out (by rw [caC_len]; omega) (caC_t x5 _) (fun W6 h1 h2 => ?_); have HX6 := Lib.hid h1; have HT6 := Lib.hid h2; clear h1 h2))
          obtain ⟨x6, hx6⟩ : ∃ x6 : Ca, x6 = { x5 with rep := x5.rep.set (sx.extract 0 m) } := ⟨_, rfl⟩
          rw [← hx6] at HX6
          have htw : ∀ (g : Nat) (cs : Array Value), v.heap[g]? = some (.cells cs 78 (0, 0)) → W6.heap[g]? = v.heap[g]? := fun g cs hg => HT6.out.block g (lt_heap hg) fun hm => by
            simp at hm
            rw [hm, HX5.out] at hg
            simp only [Option.some.injEq, Obj.cells.injEq] at hg
            exact absurd hg.2.1 (by decide)
          have HK6 : Hid (OkOwn w.heap.size W6 x6) := by rw [hx6]; exact HK5.out.other htw
          have HO6 : Hid (OwnE caC 42 51 W6 w.heap.size u3 ys) := HO5.out.block fun g hg => HT6.out.block g (HO5.out.lt g hg).2 (by simpa using HL4.out g hg)
          have HY6 : Hid (∀ y ∈ ys, OkOwn w.heap.size W6 y) := fun y hy => (HY5.out y hy).other htw
          have HB6 := Lib.hid (HB5.out.trans (HT6.out.below (B := w.heap.size) (fun k hk => by have := HWs.out; simp at hk; omega) HB5.out.size))
          clear hct hm hml hmi HX5 HK5 HO5 HY5 HB5 HT6 htw hx6
          have HR6 := Lib.hid (range_whole HX6.out)
          have hyl30 : ys.length ≤ 30 := by omega
          go_wp2_with (first | ((with_reducible refine gate_ld 42 (.tmp 5) rfl ?_); refine wl_ldr rfl 42 _ rfl cb 0 (caC x6) _ Try.underlying42 rfl (by rw [sizCa, caC_len]) rfl HR6.out ?_) | (refine wl_bs1 (k := 51) 22 42 224 (.agg (caC ca0).toArray) Try.underlying22 infoCa ca0_sz (by omega) (by omega) caC_len rfl (.tmp 40) rfl x6 rfl ?_) | (at_builtin; refine wl_app1 (k := 51) 22 42 224 (.agg (caC ca0).toArray) Try.underlying22 infoCa ca0_sz (by omega) caC_len caC_one' rfl (.tmp 39) (.tmp 41) rfl w.heap.size u3 ys rfl (HO6.out.below (below_alloc1 _ _)) _ _ x6 rfl (range_whole (heap_alloc_new _ _)) (by omega) (by unfold maxLen; omega) (HB6.out.alloc HB6.out.size _).size (fun v' w' hv hg => ?_); have HV := Lib.hid hv; have HGr := Lib.hid hg; clear hv hg))
          have HG := Lib.hid (grown_below HGr.out (fun g hg => ((HO6.out.lt g hg).1)) (HB6.out.alloc HB6.out.size _).size)
          have hal := below_alloc1 W6 (.cells (caC x6).toArray 42)
          have hY7 : ∀ z, OkOwn w.heap.size W6 z → OkOwn w.heap.size _ z := fun z hz => (hz.below hal).other fun g cs hg => HGr.out.block g (lt_heap hg) fun hm => by
            obtain ⟨cs', hc'⟩ := own_type (HO6.out.below hal) hm.symm
            rw [hc'] at hg
            simp only [Option.some.injEq, Obj.cells.injEq] at hg
            exact absurd hg.2.1 (by decide)
          have HY7 : Hid (∀ y ∈ ys ++ [x6], OkOwn w.heap.size _ y) := fun y hy => by
            rcases List.mem_append.1 hy with h | h
            · exact hY7 y (HY6.out y h)
            · simp at h; subst h; exact hY7 _ HK6.out
          go_roundw
          case rel => exact ⟨k + 1, ys ++ [x6], by omega, by omega, by go_num, by simp [hyl], HV, HY7, (HB6.out.alloc HB6.out.size _).trans HG.out⟩
          case measure => simp [intOf]; omega
      · have h2i : ¬ (k : Int) < 30 := by omega
        go_wp2_with fail
        go_ret
        exact ⟨_, rfl, ys, by omega, HOw.out, HYs.out, HB.out⟩
    · have h1i : ¬ (k : Int) < n := by omega
      go_wp2_with fail
      go_ret
      exact ⟨_, rfl, ys, by omega, HOw.out, HYs.out, HB.out⟩
end Go.Proofs.Ythimpgnagjgmdaa
