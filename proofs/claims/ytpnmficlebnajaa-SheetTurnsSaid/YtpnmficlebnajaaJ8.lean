/- The document's changes; its Diff. -/
import Derived.Test.YtpnmficlebnajaaJ7
import Derived.Test.YtpnmficlebnajaaJ4
namespace Go.Proofs.Ytpnmficlebnajaa
open Go.RowKit

structure RCh where
  n : ByteArray
  k : Int
  was : ByteArray
  is : ByteArray
def rchC (c : RCh) : List Value := [.string c.n, .int .i64 c.k, .string c.was, .string c.is]
theorem rchC_len (c : RCh) : (rchC c).length = 4 := rfl
theorem rchC_one (c : RCh) : ∀ u ∈ rchC c, u.oneCell' = true := fun u hu => by
  simp only [rchC, List.mem_cons, List.not_mem_nil, or_false] at hu
  rcases hu with rfl | rfl | rfl | rfl <;> rfl
theorem rchC_all (c : RCh) : ((rchC c).toArray).all (·.oneCell') = true := by
  rw [Array.all_eq_true']; intro u hu; exact rchC_one c u (by simpa using hu)
def rch0 : RCh := ⟨⟨#[]⟩, 0, ⟨#[]⟩, ⟨#[]⟩⟩
theorem infoRC : (Try.prog.info? 54).map (fun i => (i.zero, i.size, i.bytes)) = some (some (.agg (rchC rch0).toArray), 4, 56) := by kernel_rfl
theorem sizRC : (Try.prog.info? 54).map (·.size) = some 4 := by kernel_rfl
theorem sizRC' (x : RCh) : (Try.prog.info? 54).map (·.size) = some (rchC x).length := by rw [sizRC]; rfl
theorem sizRC'' (x : RCh) : (Try.prog.info? 54).map (·.size) = some (rchC x).toArray.size := by rw [sizRC]; rfl
theorem rchC_sz (x : RCh) : (rchC x).toArray.size = 4 := rfl
theorem builtRC (c : RCh) : Try.prog.built 54 [(0, .string c.n), (1, .int .i64 c.k), (2, .string c.was), (3, .string c.is)] = some (rchC c).toArray := by
  obtain ⟨n, k, s, t⟩ := c
  kernel_rfl
def toRC (c : Ch) : RCh := ⟨tq c.n, c.k, c.was, c.is⟩
section
variable {ops : Array Oper} {rest : List Oper} {o : Oper} {a : Act} {w : World} {Q : Exit → Act → World → Prop}
theorem ld_RC (hw : Region.wanted o (yielded ops a.tmps) = true) (x : Operand) (ho : o.op = .load 54 x) (b i : Nat) (y : RCh) (hx : a.eval x = .pointer (some ⟨b, i, none⟩)) (hc : w.rangeAt b i (rchC y))
    (h : wpList Try.prog ops Q rest (a.put o.dst (.agg (rchC y).toArray)) w) : wpList Try.prog ops Q (o :: rest) a w :=
  wl_ldr hw _ x ho b i (rchC y) _ Try.underlying54 rfl (sizRC' y) hx hc h
theorem bs_RC (hw : Region.wanted o (yielded ops a.tmps) = true) (x : Operand) (ho : o.op = .buildSlice 48 1 #[(0, x)]) (y : RCh) (hx : a.eval x = .agg (rchC y).toArray)
    (h : wpList Try.prog ops Q rest (a.put o.dst (.slice (some ⟨w.heap.size, 0, none⟩) 1 1)) (w.alloc (.cells (rchC y).toArray 54))) : wpList Try.prog ops Q (o :: rest) a w :=
  wl_bs1 (k := 4) _ _ 56 _ Try.underlying48 infoRC (rchC_sz rch0) (by omega) (by omega) rchC_len hw x ho y hx h
theorem app_RC (hgd : o.guard = none) (s x : Operand) (ho : o.op = .call { callee := .builtin .append, args := #[s, x], argTypes := #[48, 48] })
    (base : Nat) (v : Value) (xs : List RCh) (hs : a.eval s = v) (hown : OwnE rchC 54 4 w base v xs) (b c : Nat) (y : RCh) (hx : a.eval x = .slice (some ⟨b, 0, none⟩) 1 c)
    (hr : w.rangeAt b 0 (rchC y)) (hlen : xs.length ≤ 1000000) (hbase : base ≤ w.heap.size)
    (h : ∀ v' w', OwnE rchC 54 4 w' base v' (xs ++ [y]) → w.grownBy w' v.ownBlock → wpList Try.prog ops Q rest (a.put o.dst v') w') : wpList Try.prog ops Q (o :: rest) a w :=
  wl_app1 (k := 4) _ _ 56 _ Try.underlying48 infoRC (rchC_sz rch0) (by omega) rchC_len rchC_one hgd s x ho base v xs hs hown b c y hx hr (by omega) (by unfold maxLen; omega) hbase h
end

set_option maxRecDepth 100000 in
set_option maxHeartbeats 4000000 in
theorem rdiff_any (qa : Option Addr) (a : List Ent) (na ca : Nat) (qb : Option Addr) (b : List Ent) (nb cb : Nat) (w : World) (hna : a.length = na) (hca : na ≤ ca) (hma : ca ≤ maxLen) (hqa : SlAt rentC 2 w qa (a.map toR)) (hnb : b.length = nb) (hcb : nb ≤ cb) (hmb : cb ≤ maxLen) (hqb : SlAt rentC 2 w qb (b.map toR))
    (ha : UpR a) (hb : UpR b) (hla : na ≤ 1000) (hlb : nb ≤ 1000) :
    Calls Try.prog 19 #[.slice qa na ca, .slice qb nb cb] w fun e w' => Below w.heap.size w w' ∧ ∃ v', e = .returned v' ∧ OwnE rchC 54 4 w' w.heap.size v' ((diffL a b).map toRC) := by
  have HOV := Lib.hid (rover_any qa a na ca qb b nb cb w hna hqa hnb hqb ha.right hb.right hla hlb)
  have HLO : Hid ((overL a b).length ≤ 2000) := by have := over_le a b; show _ ≤ _; omega
  have HRO : Hid (∀ e ∈ overL a b, rightB e.n = true) := (over_up ha hb).right
  have HGA : Hid (∀ W nm, Below w.heap.size w W → rightB nm = true → Calls Try.prog 41 #[.slice qa na ca, .string (tq nm)] W fun e w' => e = .returned (.tuple #[.string (getT a nm), .bool (getB a nm)]) ∧ W = w') := fun W nm h hr => rget_any qa a na ca nm W hna hca hma (hqa.below h) ha.right hr
  have HGB : Hid (∀ W nm, Below w.heap.size w W → rightB nm = true → Calls Try.prog 41 #[.slice qb nb cb, .string (tq nm)] W fun e w' => e = .returned (.tuple #[.string (getT b nm), .bool (getB b nm)]) ∧ W = w') := fun W nm h hr => rget_any qb b nb cb nm W hnb hcb hmb (hqb.below h) hb.right hr
  clear hna hca hma hqa hnb hcb hmb hqb ha hb hla hlb
  go_enter Try.func19, Try.ntmps19
  generalize hov : overL a b = ov at *
  go_wp2_with (go_at_call 21; (with_reducible refine HOV.out.mono ?_); rintro e w3 ⟨hb3, v3, rfl, ho3⟩; obtain ⟨q3, cap3, rfl, hc3, hm3, hq3, hq3'⟩ := ho3.at rentC_len; have HQ3 := Lib.hid hq3; have HW3 := Lib.hid hb3; clear hb3 ho3 hq3 hq3')
  obtain ⟨n, hn⟩ : ∃ n, Hid (ov.length = n) := ⟨_, rfl⟩
  have hnm : (ov.map toR).length = n := by rw [List.length_map, hn.out]
  rw [hnm] at hc3
  rw [hn.out]
  have hn2 : n ≤ 2000 := by rw [← hn.out]; exact HLO.out
  clear HOV HLO
  go_loopw [5, 7] (fun v i wr => ∃ k : Nat, k ≤ n ∧ i = .int .i64 k ∧ Hid (Below w3.heap.size w3 wr) ∧ Hid (OwnE rchC 54 4 wr w3.heap.size v (((ov.take k).filterMap (chOf a b)).map toRC))) (fun _ i _ => n - (intOf i).toNat)
  case atStart => exact ⟨0, Nat.zero_le _, rfl, Below.refl _ _, OwnE.nil _ _⟩
  case round =>
    obtain ⟨k, hk, rfl, HW, HO⟩ := hrel
    by_cases hlt : k < n
    · have hlt' : (k : Int) < n := by omega
      have hk0 : (0 : Int) ≤ (k : Int) := by omega
      have hk2 : k < ov.length := by rw [hn.out]; exact hlt
      obtain ⟨bb, ob, rfl, hb, hr⟩ := HQ3.out k (by simpa using hk2)
      rw [List.getElem_map] at hr
      have hcn : wr.cell? ⟨bb, ob + k * 2, none⟩ = some (.string (tq ov[k].n)) := (rentC_cells (range_of_block hr (HW.out.block bb hb))).1
      have HTk : Hid (((ov.take (k + 1)).filterMap (chOf a b)).map toRC = ((ov.take k).filterMap (chOf a b)).map toRC ++ (chOf a b ov[k]).toList.map toRC) := by
        show _ = _
        rw [List.take_succ_eq_append_getElem hk2, List.filterMap_append, List.filterMap_cons, List.filterMap_nil, List.map_append]
        cases chOf a b ov[k] <;> rfl
      have hcl : (((ov.take k).filterMap (chOf a b)).map toRC).length ≤ 1000000 := by rw [List.length_map]; exact Nat.le_trans (List.length_filterMap_le _ _) (by rw [List.length_take]; omega)
      have HW1 : Hid (Below w.heap.size w wr) := HW3.out.trans (HW.out.mono HW3.out.size)
      have KA := Lib.hid (HGA.out wr ov[k].n HW1.out (HRO.out _ (List.getElem_mem hk2)))
      have KB := Lib.hid (HGB.out wr ov[k].n HW1.out (HRO.out _ (List.getElem_mem hk2)))
      unfold getT getB at KA KB
      clear hr HW1
      generalize ov[k] = x at *
      generalize ((ov.take k).filterMap (chOf a b)).map toRC = out at *
      have HCH : Hid (chOf a b x = match getR a x.n, getR b x.n with
        | none, t => some ⟨x.n, x.hn, 1, ⟨#[]⟩, t.getD ⟨#[]⟩⟩
        | some s, none => some ⟨x.n, x.hn, 2, s, ⟨#[]⟩⟩
        | some s, some t => if s = t then none else some ⟨x.n, x.hn, 3, s, t⟩) := rfl
      generalize getR a x.n = ga at *
      generalize getR b x.n = gb at *
      obtain ⟨xn, hxn⟩ : ∃ xn, Hid (tq x.n = xn) := ⟨_, rfl⟩
      rw [hxn.out] at hcn KA KB
      cases ga with
      | none =>
        simp only [Option.getD_none, Option.isSome_none] at KA
        generalize hgt : gb.getD ⟨#[]⟩ = t at *
        generalize gb.isSome = tb at *
        have HC0 : Hid (chOf a b x = some ⟨x.n, x.hn, 1, ⟨#[]⟩, t⟩) := by rw [← hgt]; exact HCH.out
        clear hgt
        have HC : Hid ((chOf a b x).toList.map toRC = [⟨xn, 1, ⟨#[]⟩, t⟩]) := by
          show _ = _
          rw [HC0.out]
          show [toRC _] = _
          rw [toRC, ← hxn.out]
        clear HCH HC0
        have hWa : Below w3.heap.size w3 (wr.alloc (.cells (rchC ⟨xn, 1, ⟨#[]⟩, t⟩).toArray 54)) := HW.out.trans ((below_alloc1 _ _).mono HW.out.size)
        have hOa := HO.out.below (below_alloc1 wr (.cells (rchC ⟨xn, 1, ⟨#[]⟩, t⟩).toArray 54))
        have hga := heap_alloc_new wr (.cells (rchC ⟨xn, 1, ⟨#[]⟩, t⟩).toArray 54)
        have HWa := Lib.hid hWa
        have HOa := Lib.hid hOa
        have HGa := Lib.hid hga
        clear hWa hOa hga
        go_wp2_with (first
          | (go_at_call 41; (with_reducible refine KA.out.mono ?_); rintro e w' ⟨rfl, rfl⟩)
          | (go_at_call 41; (with_reducible refine KB.out.mono ?_); rintro e w' ⟨rfl, rfl⟩)
          | ((with_reducible refine gate_bd 54 #[(0, .tmp 48), (1, .const (.int .i64 1)), (2, .const (.string ⟨#[]⟩)), (3, .tmp 49)] rfl ?_); refine wl_bd rfl 54 [(0, .tmp 48), (1, .const (.int .i64 1)), (2, .const (.string ⟨#[]⟩)), (3, .tmp 49)] rfl _ rfl (rchC ⟨xn, 1, ⟨#[]⟩, t⟩).toArray (builtRC ⟨xn, 1, ⟨#[]⟩, t⟩) ?_)
          | (refine bs_RC rfl _ rfl ⟨xn, 1, ⟨#[]⟩, t⟩ rfl ?_)
          | (at_builtin; (refine app_RC rfl _ _ rfl w3.heap.size _ out rfl HOa.out wr.heap.size 1 ⟨xn, 1, ⟨#[]⟩, t⟩ rfl (range_whole HGa.out) hcl HWa.out.size ?_); intro v' w4 ho4 hg4))
        have hb4 : Below w3.heap.size w3 w4 := HWa.out.trans (grown_below hg4 (fun z hz => (HOa.out.lt z hz).1) HWa.out.size)
        go_roundw
        case rel => exact ⟨k + 1, by omega, by go_num, hb4, by rw [HTk.out, HC.out]; exact ho4⟩
        case measure => simp [intOf]; omega
      | some s =>
        simp only [Option.getD_some, Option.isSome_some] at KA
        cases gb with
        | none =>
          simp only [Option.getD_none, Option.isSome_none] at KB
          have HC0 : Hid (chOf a b x = some ⟨x.n, x.hn, 2, s, ⟨#[]⟩⟩) := HCH.out
          have HC : Hid ((chOf a b x).toList.map toRC = [⟨xn, 2, s, ⟨#[]⟩⟩]) := by
            show _ = _
            rw [HC0.out]
            show [toRC _] = _
            rw [toRC, ← hxn.out]
          clear HCH HC0
          have hWa : Below w3.heap.size w3 (wr.alloc (.cells (rchC ⟨xn, 2, s, ⟨#[]⟩⟩).toArray 54)) := HW.out.trans ((below_alloc1 _ _).mono HW.out.size)
          have hOa := HO.out.below (below_alloc1 wr (.cells (rchC ⟨xn, 2, s, ⟨#[]⟩⟩).toArray 54))
          have hga := heap_alloc_new wr (.cells (rchC ⟨xn, 2, s, ⟨#[]⟩⟩).toArray 54)
          have HWa := Lib.hid hWa
          have HOa := Lib.hid hOa
          have HGa := Lib.hid hga
          clear hWa hOa hga
          go_wp2_with (first
            | (go_at_call 41; (with_reducible refine KA.out.mono ?_); rintro e w' ⟨rfl, rfl⟩)
            | (go_at_call 41; (with_reducible refine KB.out.mono ?_); rintro e w' ⟨rfl, rfl⟩)
            | ((with_reducible refine gate_bd 54 #[(0, .tmp 60), (1, .const (.int .i64 2)), (2, .tmp 61), (3, .const (.string ⟨#[]⟩))] rfl ?_); refine wl_bd rfl 54 [(0, .tmp 60), (1, .const (.int .i64 2)), (2, .tmp 61), (3, .const (.string ⟨#[]⟩))] rfl _ rfl (rchC ⟨xn, 2, s, ⟨#[]⟩⟩).toArray (builtRC ⟨xn, 2, s, ⟨#[]⟩⟩) ?_)
            | (refine bs_RC rfl _ rfl ⟨xn, 2, s, ⟨#[]⟩⟩ rfl ?_)
            | (at_builtin; (refine app_RC rfl _ _ rfl w3.heap.size _ out rfl HOa.out wr.heap.size 1 ⟨xn, 2, s, ⟨#[]⟩⟩ rfl (range_whole HGa.out) hcl HWa.out.size ?_); intro v' w4 ho4 hg4))
          have hb4 : Below w3.heap.size w3 w4 := HWa.out.trans (grown_below hg4 (fun z hz => (HOa.out.lt z hz).1) HWa.out.size)
          go_roundw
          case rel => exact ⟨k + 1, by omega, by go_num, hb4, by rw [HTk.out, HC.out]; exact ho4⟩
          case measure => simp [intOf]; omega
        | some t =>
          simp only [Option.getD_some, Option.isSome_some] at KB
          by_cases hst : s = t
          · have HC : Hid (chOf a b x = none) := by rw [HCH.out]; exact if_pos hst
            clear HCH
            subst hst
            go_wp2_with (first
              | (go_at_call 41; (with_reducible refine KA.out.mono ?_); rintro e w' ⟨rfl, rfl⟩)
              | (go_at_call 41; (with_reducible refine KB.out.mono ?_); rintro e w' ⟨rfl, rfl⟩))
            go_roundw
            case rel => exact ⟨k + 1, by omega, by go_num, HW.out, by rw [HTk.out, HC.out]; show OwnE _ _ _ _ _ _ (out ++ []); rw [List.append_nil]; exact HO.out⟩
            case measure => simp [intOf]; omega
          · have hne : (s.toList == t.toList) = false := by simpa using listS hst
            have HC0 : Hid (chOf a b x = some ⟨x.n, x.hn, 3, s, t⟩) := by rw [HCH.out]; exact if_neg hst
            clear hst
            have HC : Hid ((chOf a b x).toList.map toRC = [⟨xn, 3, s, t⟩]) := by
              show _ = _
              rw [HC0.out]
              show [toRC _] = _
              rw [toRC, ← hxn.out]
            clear HCH HC0
            have hWa : Below w3.heap.size w3 (wr.alloc (.cells (rchC ⟨xn, 3, s, t⟩).toArray 54)) := HW.out.trans ((below_alloc1 _ _).mono HW.out.size)
            have hOa := HO.out.below (below_alloc1 wr (.cells (rchC ⟨xn, 3, s, t⟩).toArray 54))
            have hga := heap_alloc_new wr (.cells (rchC ⟨xn, 3, s, t⟩).toArray 54)
            have HWa := Lib.hid hWa
            have HOa := Lib.hid hOa
            have HGa := Lib.hid hga
            clear hWa hOa hga
            go_wp2_with (first
              | (go_at_call 41; (with_reducible refine KA.out.mono ?_); rintro e w' ⟨rfl, rfl⟩)
              | (go_at_call 41; (with_reducible refine KB.out.mono ?_); rintro e w' ⟨rfl, rfl⟩)
              | ((with_reducible refine gate_bd 54 #[(0, .tmp 73), (1, .const (.int .i64 3)), (2, .tmp 74), (3, .tmp 75)] rfl ?_); refine wl_bd rfl 54 [(0, .tmp 73), (1, .const (.int .i64 3)), (2, .tmp 74), (3, .tmp 75)] rfl _ rfl (rchC ⟨xn, 3, s, t⟩).toArray (builtRC ⟨xn, 3, s, t⟩) ?_)
              | (refine bs_RC rfl _ rfl ⟨xn, 3, s, t⟩ rfl ?_)
              | (at_builtin; (refine app_RC rfl _ _ rfl w3.heap.size _ out rfl HOa.out wr.heap.size 1 ⟨xn, 3, s, t⟩ rfl (range_whole HGa.out) hcl HWa.out.size ?_); intro v' w4 ho4 hg4))
            have hb4 : Below w3.heap.size w3 w4 := HWa.out.trans (grown_below hg4 (fun z hz => (HOa.out.lt z hz).1) HWa.out.size)
            go_roundw
            case rel => exact ⟨k + 1, by omega, by go_num, hb4, by rw [HTk.out, HC.out]; exact ho4⟩
            case measure => simp [intOf]; omega
    · obtain rfl : k = n := by omega
      have HOf : Hid (OwnE rchC 54 4 wr w3.heap.size u5 ((diffL a b).map toRC)) := by
        have := HO.out
        rw [List.take_of_length_le (by rw [hn.out]; omega)] at this
        unfold diffL
        rw [hov]
        exact this
      go_wp2_with fail
      go_ret
      exact ⟨HW3.out.trans (HW.out.mono HW3.out.size), _, rfl, HOf.out.base HW3.out.size⟩
end Go.Proofs.Ytpnmficlebnajaa
