/- The first key behind one. -/
import Derived.Test.YtagdedjclbmlkaaC18
namespace Go.Proofs.Ytagdedjclbmlkaa
open Go.RowKit

attribute [local go_sem] Oper.semAt_some

theorem res_rowc_cell {P : Program} {fn : Func} {p t : Tmp} {T T' E : TypeId} {d : TypeDesc} (h : fn.results = #[.cell p T, .cell t E]) (tmps : Array Value) (w : World) (g b : Nat) (cs : Array Value) (fr : Nat × Nat) (v : Value)
    (hp : tmps.getD p undef = .pointer (some ⟨g, 0, none⟩)) (hg : w.heap[g]? = some (.cells cs T' fr)) (hu : P.underlying T = some d) (hd : (match d with | .struct _ | .array _ _ => true | _ => false) = true) (hi : (P.info? T).map (·.size) = some cs.size)
    (hq : tmps.getD t undef = .pointer (some ⟨b, 0, none⟩)) (hb : (loadVar E ⟨b, 0, none⟩).run P w = .ok v w) :
    (results fn tmps).run P w = .ok (.tuple #[.agg cs, v]) w := by
  have hp' : tmps[p]?.getD undef = .pointer (some ⟨g, 0, none⟩) := by simpa using hp
  have hq' : tmps[t]?.getD undef = .pointer (some ⟨b, 0, none⟩) := by simpa using hq
  have hload : (loadVar T ⟨g, 0, none⟩).run P w = .ok (.agg cs) w := by
    refine run_loadVar_row _ g T' T cs fr d hg hu ?_ hi
    revert hd
    cases d <;> intro hd <;> first | rfl | exact hd
  simp [results, h, hp', hq', asAddr, hload, hb]
theorem load_bool {w : World} {b : Nat} {v : Bool} (h : Boxed w b 4 (.bool v)) : (loadVar 4 ⟨b, 0, none⟩).run Try.prog w = .ok (.bool v) w := by
  have hc := h.cell
  go_simp
theorem setRow_grown (W : World) (g : Nat) (cs : Array Value) : W.grownBy (W.setRow g cs) (some g) := ⟨rfl, rfl, rfl, by simp, fun k _ hk => setRow_other W g k cs (fun e => hk (by rw [e]))⟩
theorem keeps_setRow {W : World} {g : Nat} {old cs : Array Value} {T : TypeId} (hg : W.heap[g]? = some (.cells old T (0, 0))) : KeepsOthers W (W.setRow g cs) := KeepsOthers.of_grownBy (setRow_grown W g cs) (fun j o e ho => by
  cases e
  rw [hg] at ho
  cases ho
  rfl)
theorem keeps_below {W W' : World} (h : Below W.heap.size W W') : KeepsOthers W W' := KeepsOthers.of_grownBy (grown_of_below h) (fun j o' e _ => by cases e)
theorem exec_ltI {o : Oper} {a : Act} {w : World} (x y : Operand) (ho : o.op = .binOp .lss 3 x y 3) (m n : Int) (b : Bool) (hb : decide (m < n) = b) (hx : a.eval x = .int .i64 m) (hy : a.eval y = .int .i64 n) : (execOp a.eval o).run Try.prog w = .ok (.value (.bool b)) w := by
  subst hb
  unfold execOp
  simp only [ho, hx, hy]
  by_cases h : m < n
  · simp [go_sem, h]
  · simp [go_sem, h]
theorem siz4c : (Try.prog.info? 4).map (·.size) = some 1 := by kernel_rfl
theorem cmp_lt : ∀ x y : List UInt8, decide (Lib.compareBytes x y < 0) = ltK x y
  | [], [] => rfl
  | [], _ :: _ => rfl
  | _ :: _, [] => rfl
  | a :: x, b :: y => by
    unfold Lib.compareBytes ltK
    by_cases h1 : a < b
    · rw [if_pos h1, if_neg (fun e => by subst e; exact absurd h1 (UInt8.lt_irrefl _))]
      simp [h1]
    · rw [if_neg h1]
      by_cases h2 : b < a
      · rw [if_pos h2, if_neg (fun e => by subst e; exact absurd h2 (UInt8.lt_irrefl _))]
        simp [h1]
      · have e : a = b := by
          rw [UInt8.lt_iff_toNat_lt] at h1 h2
          exact UInt8.toNat_inj.1 (by omega)
        rw [if_neg h2, if_pos e]
        exact cmp_lt x y
theorem allO_fil {o : Option T} (h : WFO o) : allO o = (fil [] (allL [] o)).map (·.val.2) := by
  rw [fil_all h, List.filter_eq_self.2]
  intro x _
  rfl
theorem next_none {o : Option T} (h : WFO o) {k : List UInt8} (hn : ∀ x ∈ fil [] (allL [] o), ltK k x.val.2.1 = false) : nextL (allO o) k = none := by
  unfold nextL
  rw [allO_fil h, Option.map_eq_none_iff, List.find?_eq_none]
  intro y hy
  obtain ⟨x, hx, rfl⟩ := List.mem_map.1 hy
  simp [hn x hx]
theorem next_some {o : Option T} (h : WFO o) {k : List UInt8} {p : List (LV o)} {x : LV o} (hp : p ++ [x] <+: fil [] (allL [] o)) (hn : ∀ y ∈ p, ltK k y.val.2.1 = false) (hx : ltK k x.val.2.1 = true) : nextL (allO o) k = some x.val.2.1 := by
  unfold nextL
  obtain ⟨r, hr⟩ := hp
  rw [allO_fil h, ← hr, List.map_append, List.map_append, List.find?_append, List.find?_append]
  rw [List.find?_eq_none.2 (fun y hy => by
    obtain ⟨z, hz, rfl⟩ := List.mem_map.1 hy
    simp [hn z hz])]
  simp [hx]
def nextR : Option (List UInt8) → Value
  | some k => .tuple #[.agg (bC k), .bool true]
  | none => .tuple #[.agg (bC z25), .bool false]
set_option maxRecDepth 100000 in
set_option maxHeartbeats 4000000 in
theorem next_any (o : Option T) (k : List UInt8) (w : World) (B tb : Nat) (hk : k.length = 25) (hT : TreeAt w B tb o) :
    Calls Try.prog 26 #[ptrA tb, .agg (bC k)] w fun e w' => e = .returned (nextR (nextL (allO o) k)) ∧ Below w.heap.size w w' := by
  refine (callsIn_wide (n := 5)).1 ?_
  refine callsIn_of_wp_marks Try.func26 rfl trivial ?_ rfl
  simp only [Try.ntmps26, List.size_toArray, List.length_cons, List.length_nil, Nat.reduceAdd, Nat.reduceSub, Array.replicate_succ, Array.replicate_zero, List.push_toArray, List.append_toArray, List.nil_append, List.cons_append]
  have HT := Lib.hid hT
  have HK := Lib.hid hk
  have hb1 := below_alloc1 w (.cells (bC k) 30)
  have hb2 := hb1.alloc hb1.size (.cells (bC z25) 30)
  have hb3 := hb2.alloc hb2.size (.cells #[.bool false] 4)
  have HB1 := Lib.hid hb3
  have HZ1 : Hid ((((w.alloc (.cells (bC k) 30)).alloc (.cells (bC z25) 30)).alloc (.cells #[.bool false] 4)).heap.size = w.heap.size + 3) := by show _ = _; simp
  have HG0 : Hid ((((w.alloc (.cells (bC k) 30)).alloc (.cells (bC z25) 30)).alloc (.cells #[.bool false] 4)).heap[w.heap.size]? = some (.cells (bC k) 30 (0, 0))) := by
    show _ = _
    exact (heap_alloc_old _ _ (by simp; omega)).trans (heap_alloc2_old _ _ _)
  have HG1 : Hid ((((w.alloc (.cells (bC k) 30)).alloc (.cells (bC z25) 30)).alloc (.cells #[.bool false] 4)).heap[w.heap.size + 1]? = some (.cells (bC z25) 30 (0, 0))) := by
    show _ = _
    exact (heap_alloc_old _ _ (by simp)).trans (heap_alloc2_new _ _ _)
  have HG2 : Hid ((((w.alloc (.cells (bC k) 30)).alloc (.cells (bC z25) 30)).alloc (.cells #[.bool false] 4)).heap[w.heap.size + 2]? = some (.cells #[.bool false] 4 (0, 0))) := by
    show _ = _
    have := heap_alloc_new ((w.alloc (.cells (bC k) 30)).alloc (.cells (bC z25) 30)) (.cells #[.bool false] 4)
    simpa using this
  clear hT hk hb1 hb2 hb3
  gi_upto_region 1 with fail
  show Code.wpIn _ _ _ _ _ _ (((w.alloc (.cells (bC k) 30)).alloc (.cells (bC z25) 30)).alloc (.cells #[.bool false] 4))
  generalize (((w.alloc (.cells (bC k) 30)).alloc (.cells (bC z25) 30)).alloc (.cells #[.bool false] 4)) = W1 at *
  gi_upto_region 2 with (first
    | ((refine inl_ldr rfl 30 _ rfl w.heap.size 0 (bC k).toList _ Try.underlying30 rfl (by rw [sizKey]; simp [bC, HK.out]) rfl (range_whole (by simpa using HG0.out)) ?_))
    | (refine ⟨trivial, ?_⟩; gi_at_call 35; (refine (callsIn_wide.2 (keyBytes_any k _ HK.out)).mono ?_); rintro e w2 ⟨rfl, hb⟩; have HB2 := Lib.hid hb; clear hb)
    | (refine inl_strn rfl 85 _ _ rfl (bC k) (bC z25) 85 (by rw [siz25, bC_size, HK.out]) (by rw [bC_size, bC_size, HK.out]; rfl) (bC_one _) rfl rfl ?_))
  simp only [Act.put]
  have HN2 : Hid (w.heap.size + 3 ≤ w2.heap.size) := by show _ ≤ _; rw [← HZ1.out]; exact HB2.out.size
  have HBw : Hid (Below w.heap.size w (w2.alloc (.cells (bC k) 85))) := HB1.out.trans ((HB2.out.alloc HB2.out.size _).mono HB1.out.size)
  have HE1 : Hid ((w2.alloc (.cells (bC k) 85)).heap[w.heap.size + 1]? = some (.cells (bC z25) 30 (0, 0))) := by
    show _ = _
    exact ((HB2.out.alloc HB2.out.size _).block _ (lt_heap HG1.out)).trans HG1.out
  have HE2 : Hid ((w2.alloc (.cells (bC k) 85)).heap[w.heap.size + 2]? = some (.cells #[.bool false] 4 (0, 0))) := by
    show _ = _
    exact ((HB2.out.alloc HB2.out.size _).block _ (lt_heap HG2.out)).trans HG2.out
  have HE6 : Hid ((w2.alloc (.cells (bC k) 85)).heap[w2.heap.size]? = some (.cells (bC k) 85 (0, 0))) := heap_alloc_new _ _
  have HZ3 : Hid ((w2.alloc (.cells (bC k) 85)).heap.size = w2.heap.size + 1) := by show _ = _; simp
  clear HB1 HZ1 HG0 HG1 HG2 HB2
  generalize (w2.alloc (.cells (bC k) 85)) = W3 at *
  generalize w2.heap.size = nb at *
  gi_wp2_with (first
    | (refine ⟨trivial, ?_⟩; gi_at_call 45; (refine (callsIn_wide.2 (leaves_any _ none 0 0 _)).mono ?_); rintro e w5 ⟨rfl, rfl⟩))
  have hbl := below_alloc2 W3 (.cells #[.pointer (some ⟨tb, 0, none⟩)] 31) (.cells #[.slice none 0 0] 109)
  have HB0 : Hid (Below w.heap.size w ((W3.alloc (.cells #[.pointer (some ⟨tb, 0, none⟩)] 31)).alloc (.cells #[.slice none 0 0] 109))) := HBw.out.trans (hbl.mono HBw.out.size)
  have HD1 : Hid (((W3.alloc (.cells #[.pointer (some ⟨tb, 0, none⟩)] 31)).alloc (.cells #[.slice none 0 0] 109)).heap[w.heap.size + 1]? = some (.cells (bC z25) 30 (0, 0))) := (hbl.block _ (lt_heap HE1.out)).trans HE1.out
  have HD2 : Hid (((W3.alloc (.cells #[.pointer (some ⟨tb, 0, none⟩)] 31)).alloc (.cells #[.slice none 0 0] 109)).heap[w.heap.size + 2]? = some (.cells #[.bool false] 4 (0, 0))) := (hbl.block _ (lt_heap HE2.out)).trans HE2.out
  have HD6 : Hid (((W3.alloc (.cells #[.pointer (some ⟨tb, 0, none⟩)] 31)).alloc (.cells #[.slice none 0 0] 109)).heap[nb]? = some (.cells (bC k) 85 (0, 0))) := (hbl.block _ (lt_heap HE6.out)).trans HE6.out
  have HDt : Hid (((W3.alloc (.cells #[.pointer (some ⟨tb, 0, none⟩)] 31)).alloc (.cells #[.slice none 0 0] 109)).heap[W3.heap.size]? = some (.cells #[.pointer (some ⟨tb, 0, none⟩)] 31 (0, 0))) := heap_alloc2_old _ _ _
  have HDb : Hid (((W3.alloc (.cells #[.pointer (some ⟨tb, 0, none⟩)] 31)).alloc (.cells #[.slice none 0 0] 109)).heap[W3.heap.size + 1]? = some (.cells #[.slice none 0 0] 109 (0, 0))) := heap_alloc2_new _ _ _
  have hz3 := HZ3.out
  clear hbl HBw HE1 HE2 HE6
  rw [hz3] at HDt HDb ⊢
  generalize ((W3.alloc (.cells #[.pointer (some ⟨tb, 0, none⟩)] 31)).alloc (.cells #[.slice none 0 0] 109)) = W0 at *
  have hBsz := HB0.out.size
  have hT0 := HT.out.below HB0.out
  clear hz3 HZ3
  refine wpIn_rangeFunc_ownH (F := Fence.wide) rfl (by omega) (gf := 55) (lb := #[.pointer (some ⟨nb + 1, 0, none⟩), .pointer (some ⟨nb + 1 + 1, 0, none⟩)]) rfl trivial (enters_of Try.func55 (by kernel_rfl) rfl)
    (lv_stops 4 (nb + 1) (nb + 1 + 1) w.heap.size tb B _ o none 0 0 [] W0 [] (by decide) (by decide) (by decide) (by decide) rfl (by omega) hBsz hT0.n HDt.out HDb.out (.inl rfl)) KpT.trans (KpT.put hBsz) (Below.refl _ _) (fun _ => rfl)
    (fun pre W => (InO W o ∧ W.heap[nb]? = some (.cells (bC k) 85 (0, 0)) ∧ W.heap[w.heap.size + 1]? = some (.cells (bC z25) 30 (0, 0)) ∧ W.heap[w.heap.size + 2]? = some (.cells #[.bool false] 4 (0, 0)) ∧ Below w.heap.size w W) ∧ ∀ y ∈ pre, ltK k y.val.2.1 = false)
    (fun c pre W => ∃ p x, (W.heap[w.heap.size + 1]? = some (.cells (bC x.val.2.1) 30 (0, 0)) ∧ W.heap[w.heap.size + 2]? = some (.cells #[.bool true] 4 (0, 0)) ∧ Below w.heap.size w W) ∧ c = .ret ∧ pre = p ++ [x] ∧ (∀ y ∈ p, ltK k y.val.2.1 = false) ∧ ltK k x.val.2.1 = true)
    (OwnFrom.and (OwnFrom.and (ownFrom_inO _ o) (OwnFrom.and (ownFrom_cells _ _ _ _) (OwnFrom.and (ownFrom_cells _ _ _ _) (OwnFrom.and (ownFrom_cells _ _ _ _) (ownFrom_below (Nat.le_refl _) hBsz))))) (fun _ _ _ _ hs _ _ => hs))
    (fun c s X Y row hs hg hrow => by obtain ⟨p, x, hs, hr⟩ := hs; exact ⟨p, x, ⟨ownFrom_cells (β := Unit) _ _ _ _ () X Y row hs.1 hg hrow, ownFrom_cells (β := Unit) _ _ _ _ () X Y row hs.2.1 hg hrow, ownFrom_below (β := Unit) (Nat.le_refl _) hBsz () X Y row hs.2.2 hg hrow⟩, hr⟩)
    ⟨⟨hT0.ins, HD6.out, HD1.out, HD2.out, HB0.out⟩, fun _ h => by cases h⟩
    (fun x a' _ => a' = { tmps := #[ptrA tb, .agg (bC k), undef, .pointer (some ⟨w.heap.size, 0, none⟩), .pointer (some ⟨w.heap.size + 1, 0, none⟩), .pointer (some ⟨w.heap.size + 1 + 1, 0, none⟩), .pointer (some ⟨nb, 0, none⟩), .pointer (some ⟨x.val.1, 0, none⟩), .agg (bC k), .agg (bC k), ptrA tb, .func (.func 55) #[] #[.pointer (some ⟨nb + 1, 0, none⟩), .pointer (some ⟨nb + 1 + 1, 0, none⟩)], .pointer (some ⟨x.val.1, 0, none⟩), undef, undef, undef, undef, undef, undef, undef, undef, undef, undef, undef, undef], defers := [] })
    (fun x a' _ X Y row hs _ _ => hs)
    ?assign ?body ?done ?stop
  case assign =>
    rintro l pre x W K hI hK
    have HI := Lib.hid hI
    have HK2 := Lib.hid hK
    clear hI hK
    unfold encL
    gi_wp2
    exact HK2.out _ _ ((KeepsOthers.refl _).from _) (KpT.below HI.out.1.2.2.2.2.size (Below.refl _ _)) HI.out rfl
  case body =>
    rintro l pre x a' W hWl _ ⟨⟨hI, h6, h1, h2, hB⟩, hn⟩ rfl hlt
    have hx := hI.leafAt x.val x.mem
    have hkx := lvsO_len hT0.wf x.val x.mem
    have HX := Lib.hid hx
    have HI := Lib.hid hI
    have H6 := Lib.hid h6
    have H1 := Lib.hid h1
    have H2 := Lib.hid h2
    have HB := Lib.hid hB
    have HN := Lib.hid hn
    have KC : ∀ dq osq, Calls Try.prog 48 #[.slice (some ⟨nb, 0, none⟩) 25 25, .slice (some ⟨x.val.1, 26, none⟩) 25 25] (Sort.grow (redrawn W dq) osq) fun e w' => e = .returned (.int .i64 (Lib.compareBytes k x.val.2.1)) ∧ ∃ p : Regrown, w' = Sort.grow (redrawn W p.d) p.os := fun dq osq =>
      Calls.regrown_of ((compare_any nb 0 25 25 x.val.1 26 25 25 k x.val.2.1 (Sort.grow (redrawn W dq) osq) HK.out hkx (range_whole (by simpa using rg_block H6.out dq osq)) (nodeV_bytes (range_whole (rg_block hx dq osq)) hkx)).mono fun e w' h => ⟨h.1, by rw [h.2]; exact Below.refl _ _⟩)
    clear hI h6 h1 h2 hB hlt hx hn
    gi_upto_region 4 with fail
    refine wpIn_round_tail 6 (by kernel_rfl) (by kernel_rfl) (fun h => ?_) (by kernel_rfl) ?_
    · obtain ⟨_, _, h⟩ := h
      exact h
    simp only [List.take_succ_cons, List.take_zero]
    repeat (first
      | go_big_quiet_step (first | (exact KC _ _)))
    refine wpQuiet_nil ?_
    rintro _ ⟨⟨dq, osq⟩, rfl⟩
    have HB9 := Lib.hid (below_regrown W dq osq)
    have H61 : Hid ((Sort.grow (redrawn W dq) osq).heap[w.heap.size + 1]? = some (.cells (bC z25) 30 (0, 0))) := rg_block H1.out dq osq
    have H62 : Hid ((Sort.grow (redrawn W dq) osq).heap[w.heap.size + 2]? = some (.cells #[.bool false] 4 (0, 0))) := rg_block H2.out dq osq
    have H66 : Hid ((Sort.grow (redrawn W dq) osq).heap[nb]? = some (.cells (bC k) 85 (0, 0))) := rg_block H6.out dq osq
    have HXX : Hid ((Sort.grow (redrawn W dq) osq).heap[x.val.1]? = some (.cells (leafC x.val.2.1 x.val.2.2).toArray NODE (0, 0))) := rg_block HX.out dq osq
    have HKx := Lib.hid hkx
    have HWl := Lib.hid hWl
    clear KC HX H6 H1 H2 hkx hWl
    generalize Sort.grow (redrawn W dq) osq = W9 at *
    refine wl_valG rfl (.bool (ltK k x.val.2.1)) (exec_ltI (.tmp 18) (.const (.int .i64 0)) rfl _ 0 _ (cmp_lt _ _) rfl rfl) ?_
    cases hlt : ltK k x.val.2.1 with
    | false =>
      unfold wpList
      gi_wp2
      exact ⟨(keeps_below HB9.out).from _, KpT.below HB.out.size HB9.out, ⟨ownFrom_inO (β := Unit) 0 o () W W9 none HI.out (grown_of_below HB9.out) (fun r e => by cases e), H66.out, H61.out, H62.out, HB.out.trans (HB9.out.mono HB.out.size)⟩, fun y hy => by
        rcases List.mem_append.1 hy with hy | hy
        · exact HN.out y hy
        · rw [List.mem_singleton] at hy
          subst hy
          exact hlt⟩
    | true =>
      unfold wpList
      have HL := Lib.hid hlt
      clear hlt
      gi_wp2_with (first
        | ((refine inl_ldr rfl 30 _ rfl x.val.1 1 (bC x.val.2.1).toList _ Try.underlying30 rfl (by rw [sizKey]; simp [bC, HKx.out]) rfl (nodeV_key (range_whole HXX.out)) ?_))
        | ((refine inl_str rfl 30 _ _ rfl (w.heap.size + 1) (bC x.val.2.1) (bC z25) 30 (by rw [sizKey, bC_size, HKx.out]) (by rw [bC_size, bC_size, HKx.out]; rfl) (bC_one _) rfl rfl H61.out ?_))
        | ((refine in_skip rfl (by intro c hc; cases hc) (by intro c hc; cases hc) _ (exec_st1G 4 siz4c _ _ rfl (w.heap.size + 2) 0 (.bool true) rfl rfl rfl [.bool false] 4 ((setRow_other _ _ _ _ (by omega)).trans H62.out) (by simp)) ?_)))
      have hg2 : ((W9.setRow (w.heap.size + 1) (bC x.val.2.1)).heap[w.heap.size + 2]? = some (.cells #[.bool false] 4 (0, 0))) := (setRow_other _ _ _ _ (by omega)).trans H62.out
      refine ⟨((keeps_below HB9.out).trans ((keeps_setRow H61.out).trans (keeps_setRow hg2))).from _, pre, x, ⟨(setRow_other _ _ _ _ (by omega)).trans (setRow_at H61.out), setRow_at hg2, setRow_below (setRow_below (HB.out.trans (HB9.out.mono HB.out.size)) (by omega) _) (by omega) _⟩, rfl, rfl, HN.out, HL.out⟩
  case done =>
    rintro D ys W hD rfl ⟨⟨hI, h6, h1, h2, hB⟩, hn⟩ hK
    have HN := Lib.hid (next_none hT0.wf hn)
    have H1 := Lib.hid h1
    have H2 := Lib.hid h2
    have HB := Lib.hid hB
    have HKd := Lib.hid hK
    have HD := Lib.hid hD
    clear hn h1 h2 hB hK h6 hI hD
    gi_wp2_with (first
      | ((refine inl_str rfl 30 _ _ rfl (w.heap.size + 1) (bC z25) (bC z25) 30 (by rw [sizKey, bC_size]; rfl) rfl (bC_one _) rfl rfl H1.out ?_))
      | ((refine in_skip rfl (by intro c hc; cases hc) (by intro c hc; cases hc) _ (exec_st1G 4 siz4c _ _ rfl (w.heap.size + 2) 0 (.bool false) rfl rfl rfl [.bool false] 4 ((setRow_other _ _ _ _ (by omega)).trans H2.out) (by simp)) ?_)))
    have hsz := lt_heap HD2.out
    have hlD := HD.out
    have hg2 : ((W.setRow (w.heap.size + 1) (bC z25)).heap[w.heap.size + 2]? = some (.cells #[.bool false] 4 (0, 0))) := (setRow_other _ _ _ _ (by omega)).trans H2.out
    have e1 : ((W.setRow (w.heap.size + 1) (bC z25)).setRow (w.heap.size + 2) #[.bool false]).heap[w.heap.size + 1]? = some (.cells (bC z25) 30 (0, 0)) := (setRow_other _ _ _ _ (by omega)).trans (setRow_at H1.out)
    have e2 : ((W.setRow (w.heap.size + 1) (bC z25)).setRow (w.heap.size + 2) #[.bool false]).heap[w.heap.size + 2]? = some (.cells #[.bool false] 4 (0, 0)) := setRow_at hg2
    have e3 : ((W.setRow (w.heap.size + 1) (bC z25)).setRow (w.heap.size + 2) #[.bool false]).heap[D]? = some (.deferred (some [])) := (setRow_other _ _ _ _ (by omega)).trans ((setRow_other _ _ _ _ (by omega)).trans HKd.out)
    have e4 : Below w.heap.size w ((W.setRow (w.heap.size + 1) (bC z25)).setRow (w.heap.size + 2) #[.bool false]) := setRow_below (setRow_below HB.out (by omega) _) (by omega) _
    show bodyPostM _ _ _ _ _ _ _ ((W.setRow (w.heap.size + 1) (bC z25)).setRow (w.heap.size + 2) #[.bool false])
    generalize (W.setRow (w.heap.size + 1) (bC z25)).setRow (w.heap.size + 2) #[.bool false] = W8 at *
    refine ⟨by simp, .inl ⟨_, _, rfl, run_takeDeferred e3, ?_⟩⟩
    refine ⟨_, res_rowc_cell rfl _ _ (w.heap.size + 1) (w.heap.size + 2) (bC z25) (0, 0) (.bool false) rfl ((World.putObj_heap_other (by omega)).trans e1) Try.underlying30 rfl (by rw [sizKey, bC_size]; rfl) rfl (load_bool ((World.putObj_heap_other (by omega)).trans e2)), ?_, e4.trans (belowK_b (w := w) (Nat.le_refl _) W8 D _ _ (by omega) e3 rfl rfl)⟩
    rw [HN.out]
    rfl
  case stop =>
    rintro D c pre W hD hp ⟨p, x, ⟨h1, h2, hB⟩, rfl, rfl, hn, hx⟩ hK
    have HN := next_some hT0.wf hp hn hx
    have hkx := lvsO_len hT0.wf x.val x.mem
    have hsz := lt_heap HD2.out
    gi_wp2
    refine ⟨by simp, .inl ⟨_, _, rfl, run_takeDeferred hK, ?_⟩⟩
    refine ⟨_, res_rowc_cell rfl _ _ (w.heap.size + 1) (w.heap.size + 2) (bC x.val.2.1) (0, 0) (.bool true) rfl ((World.putObj_heap_other (by omega)).trans h1) Try.underlying30 rfl (by rw [sizKey, bC_size, hkx]) rfl (load_bool ((World.putObj_heap_other (by omega)).trans h2)), ?_, hB.trans (belowK_b (w := w) (Nat.le_refl _) W D _ _ (by omega) hK rfl rfl)⟩
    rw [HN]
    rfl
end Go.Proofs.Ytagdedjclbmlkaa
