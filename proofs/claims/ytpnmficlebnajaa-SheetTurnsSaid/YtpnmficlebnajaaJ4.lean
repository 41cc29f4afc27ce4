/- Changes in memory; Over; Diff. -/
import Derived.Test.YtpnmficlebnajaaJ3
namespace Go.Proofs.Ytpnmficlebnajaa
open Go.RowKit

def chC (c : Ch) : List Value := (bC c.n).toList ++ [.int .i64 c.k, .string c.was, .string c.is]
theorem chC_len (c : Ch) : (chC c).length = 15 := by simp [chC, bC, c.hn]
theorem chC_one (c : Ch) : ∀ u ∈ chC c, u.oneCell' = true := fun u hu => by
  simp only [chC, bC, List.mem_append, List.mem_map, List.mem_cons, List.not_mem_nil, or_false] at hu
  rcases hu with ⟨b, _, rfl⟩ | rfl | rfl | rfl <;> rfl
theorem chC_all (c : Ch) : ((chC c).toArray).all (·.oneCell') = true := by
  rw [Array.all_eq_true']; intro u hu; exact chC_one c u (by simpa using hu)
def ch0 : Ch := ⟨z12, rfl, 0, ⟨#[]⟩, ⟨#[]⟩⟩
theorem infoC : (Try.prog.info? 56).map (fun i => (i.zero, i.size, i.bytes)) = some (some (.agg (chC ch0).toArray), 15, 56) := by kernel_rfl
theorem sizC : (Try.prog.info? 56).map (·.size) = some 15 := by kernel_rfl
theorem sizC' (x : Ch) : (Try.prog.info? 56).map (·.size) = some (chC x).length := by rw [sizC, chC_len]
theorem sizC'' (x : Ch) : (Try.prog.info? 56).map (·.size) = some (chC x).toArray.size := by rw [sizC, List.size_toArray, chC_len]
theorem chC_sz (x : Ch) : (chC x).toArray.size = 15 := by rw [List.size_toArray, chC_len]
theorem builtC (c : Ch) : Try.prog.built 56 [(0, .agg (bC c.n)), (1, .int .i64 c.k), (2, .string c.was), (3, .string c.is)] = some (chC c).toArray := by
  obtain ⟨n, hn, kk, s, t⟩ := c
  obtain ⟨a, b, c, d, e, f, g, i, j, k, m, n, rfl⟩ := list12 n hn
  kernel_rfl
theorem run_buildC (n : List UInt8) (hn : n.length = 12) (k : Int) (s t : ByteArray) (w : World) : (Instr.build 56 #[(0, .agg (bC n)), (1, .int .i64 k), (2, .string s), (3, .string t)]).run Try.prog w = .ok (.agg (chC ⟨n, hn, k, s, t⟩).toArray) w := run_build w _ _ _ (builtC ⟨n, hn, k, s, t⟩)
section
variable {ops : Array Oper} {rest : List Oper} {o : Oper} {a : Act} {w : World} {Q : Exit → Act → World → Prop}
theorem ld_C (hw : Region.wanted o (yielded ops a.tmps) = true) (x : Operand) (ho : o.op = .load 56 x) (b i : Nat) (y : Ch) (hx : a.eval x = .pointer (some ⟨b, i, none⟩)) (hc : w.rangeAt b i (chC y))
    (h : wpList Try.prog ops Q rest (a.put o.dst (.agg (chC y).toArray)) w) : wpList Try.prog ops Q (o :: rest) a w :=
  wl_ldr hw _ x ho b i (chC y) _ Try.underlying56 rfl (sizC' y) hx hc h
theorem bs_C (hw : Region.wanted o (yielded ops a.tmps) = true) (x : Operand) (ho : o.op = .buildSlice 46 1 #[(0, x)]) (y : Ch) (hx : a.eval x = .agg (chC y).toArray)
    (h : wpList Try.prog ops Q rest (a.put o.dst (.slice (some ⟨w.heap.size, 0, none⟩) 1 1)) (w.alloc (.cells (chC y).toArray 56))) : wpList Try.prog ops Q (o :: rest) a w :=
  wl_bs1 (k := 15) _ _ 56 _ Try.underlying46 infoC (chC_sz ch0) (by omega) (by omega) chC_len hw x ho y hx h
theorem app_C (hgd : o.guard = none) (s x : Operand) (ho : o.op = .call { callee := .builtin .append, args := #[s, x], argTypes := #[46, 46] })
    (base : Nat) (v : Value) (xs : List Ch) (hs : a.eval s = v) (hown : OwnE chC 56 15 w base v xs) (b c : Nat) (y : Ch) (hx : a.eval x = .slice (some ⟨b, 0, none⟩) 1 c)
    (hr : w.rangeAt b 0 (chC y)) (hlen : xs.length ≤ 1000000) (hbase : base ≤ w.heap.size)
    (h : ∀ v' w', OwnE chC 56 15 w' base v' (xs ++ [y]) → w.grownBy w' v.ownBlock → wpList Try.prog ops Q rest (a.put o.dst v') w') : wpList Try.prog ops Q (o :: rest) a w :=
  wl_app1 (k := 15) _ _ 56 _ Try.underlying46 infoC (chC_sz ch0) (by omega) chC_len chC_one hgd s x ho base v xs hs hown b c y hx hr (by omega) (by unfold maxLen; omega) hbase h
end
theorem tells_texts {a : List Ent} (h : UpR a) (n : List UInt8) : getM (putE [] a) n = getR a n := by
  have := getM_putE a [] h n
  rw [getM_nil] at this
  show getM (a.foldl _ []) n = _
  rw [this]; simp
theorem tells_over {a b : List Ent} (ha : UpR a) (hb : UpR b) : Tells (putE (putE [] a) b) (overL a b) := fun n hn => by
  show getM (b.foldl _ _) n = _
  rw [getM_putE b _ hb n, tells_texts ha, getR_over ha hb n hn]

set_option maxRecDepth 100000 in
set_option maxHeartbeats 4000000 in
theorem over_any (qa : Option Addr) (a : List Ent) (na ca : Nat) (qb : Option Addr) (b : List Ent) (nb cb : Nat) (w : World) (hna : a.length = na) (hca : na ≤ ca) (hma : ca ≤ maxLen) (hqa : SlAt entC 13 w qa a) (hnb : b.length = nb) (hcb : nb ≤ cb) (hmb : cb ≤ maxLen) (hqb : SlAt entC 13 w qb b)
    (ha : UpR a) (hb : UpR b) (hla : na ≤ 1000) (hlb : nb ≤ 1000) :
    Calls Try.prog 20 #[.slice qa na ca, .slice qb nb cb] w fun e w' => Below w.heap.size w w' ∧ ∃ v', e = .returned v' ∧ OwnE entC 44 13 w' w.heap.size v' (overL a b) := by
  have HTA := Lib.hid (texts_any qa a na ca w hna hca hma hqa)
  have HQ := Lib.hid hqb
  have HN := Lib.hid hnb
  have HTO := Lib.hid (tells_over ha hb)
  have HUO := Lib.hid (over_up ha hb)
  have HLO : Hid ((overL a b).length ≤ 100000) := by have := over_le a b; show _ ≤ _; omega
  clear hna hca hma hqa hnb hqb ha hb
  unfold maxLen at hmb
  go_enter Try.func20, Try.ntmps20
  go_wp2_with (go_at_call 40; (refine HTA.out.mono ?_); rintro e w1 ⟨r, rfl, hm1, hr1, hb1⟩; have HM1 := Lib.hid hm1; have HR1 := Lib.hid hr1; have HB1 := Lib.hid hb1; clear hm1 hr1 hb1)
  have HQ1 := Lib.hid (HQ.out.below HB1.out)
  have HM1 : Hid (MapIs w1 r (putE (putE [] a) (b.take 0))) := HM1.out
  go_loopw [12] (fun i wr => ∃ k : Nat, k ≤ nb ∧ i = .int .i64 k ∧ Hid (MapIs wr r (putE (putE [] a) (b.take k))) ∧ Hid (Below w.heap.size w wr) ∧ Hid (Turn [r] w1 wr)) (fun i _ => nb - (intOf i).toNat)
  case atStart => exact ⟨0, Nat.zero_le _, rfl, HM1, HB1, Turn.refl _ _⟩
  case round =>
    obtain ⟨k, hk, rfl, HM, HW, HT⟩ := hrel
    by_cases hlt : k < nb
    · have hlt' : (k : Int) < nb := by omega
      have hk2 : k < b.length := by rw [HN.out]; exact hlt
      obtain ⟨bb, ob, rfl, hb, hr⟩ := HQ.out k hk2
      have hbr : bb ≠ r := fun e => by have := HR1.out; omega
      have HR : Hid (wr.rangeAt bb (ob + k * 13) (entC b[k])) := range_of_block hr (HW.out.block bb hb)
      have HPn : Hid (putE (putE [] a) (b.take (k + 1)) = putM (putE (putE [] a) (b.take k)) b[k].n b[k].t) := putE_next _ hk2
      clear hr
      generalize b[k] = x at *
      generalize putE (putE [] a) (b.take k) = m at *
      have HX12 : Hid (x.n.length = 12) := x.hn
      have hba := below_alloc1 wr (.cells (entC x).toArray 44)
      have HW1 : Hid (Below w.heap.size w (wr.alloc (.cells (entC x).toArray 44))) := HW.out.trans (hba.mono HW.out.size)
      have HM1 : Hid (MapIs (wr.alloc (.cells (entC x).toArray 44)) r m) := HM.out.block (hba.block _ HM.out.lt)
      have HT1 : Hid (Turn [r] w1 (wr.alloc (.cells (entC x).toArray 44))) := HT.out.trans (Turn.of_below hba)
      have hr1 : (wr.alloc (.cells (entC x).toArray 44)).rangeAt wr.heap.size 0 (entC x) := range_whole (heap_alloc_new _ _)
      have HX1 := Lib.hid (ent_name hr1)
      have hxt : (wr.alloc (.cells (entC x).toArray 44)).cell? ⟨wr.heap.size, 12, none⟩ = some (.string x.t) := by have := ent_text hr1; simpa using this
      clear hr1 hba
      go_upto_region 5 with (first
        | (with_reducible refine ld_E rfl _ rfl bb (ob + k * 13) x rfl HR.out ?_)
        | (refine wl_strn rfl 44 _ _ rfl (entC x).toArray _ _ (sizE'' x) (entC_sz x) (entC_all x) rfl rfl ?_))
      generalize wr.alloc (.cells (entC x).toArray 44) = W1 at *
      generalize wr.heap.size = g at *
      go_wp2_with (first
        | (with_reducible refine ld_N rfl _ rfl g 0 x.n HX12.out rfl HX1.out ?_)
        | (refine wl_mu rfl (.tmp 16) (.tmp 18) (.tmp 20) rfl r rfl x.n rfl HX12.out x.t rfl m HM1.out ?_; intro W2 hm2 ht2))
      have hb2 : Below w.heap.size w W2 := HW1.out.trans (ht2.below (by intro x hx; rw [List.mem_singleton] at hx; rw [hx]; exact HR1.out) HW1.out.size)
      have ht3 : Turn [r] w1 W2 := HT1.out.trans ht2
      go_roundw
      case rel => exact ⟨k + 1, by omega, by go_num, by rw [HPn.out]; exact hm2, hb2, ht3⟩
      case measure => simp [intOf]; omega
    · obtain rfl : k = nb := by omega
      have HL : Hid (Calls Try.prog 42 #[.map (some r)] wr fun e w' => Below wr.heap.size wr w' ∧ ∃ v', e = .returned v' ∧ OwnE entC 44 13 w' wr.heap.size v' (overL a b)) := by
        have h := HM.out
        rw [List.take_of_length_le (by rw [HN.out]; omega)] at h
        exact list_any r _ (overL a b) wr h HTO.out HUO.out HLO.out
      go_wp2_with (go_at_call 42; (refine HL.out.mono ?_); rintro e w3 ⟨hb3, v3, rfl, ho3⟩)
      go_ret
      exact ⟨HW.out.trans (hb3.mono HW.out.size), _, rfl, ho3.base HW.out.size⟩

theorem listS {s t : ByteArray} (h : s ≠ t) : ¬ s.toList = t.toList := fun e => h (ByteArray.ext (Array.toList_inj.mp (by rw [← ByteArray.toList_eq, ← ByteArray.toList_eq]; exact e)))
theorem neqS {s t : ByteArray} (h : s ≠ t) (W : World) : (binOp .neq 9 (.string s) (.string t)).run Try.prog W = .ok (.bool true) W := by
  have h1 := listS h
  go_simp
set_option maxRecDepth 100000 in
set_option maxHeartbeats 4000000 in
theorem diff_any (qa : Option Addr) (a : List Ent) (na ca : Nat) (qb : Option Addr) (b : List Ent) (nb cb : Nat) (w : World) (hna : a.length = na) (hca : na ≤ ca) (hma : ca ≤ maxLen) (hqa : SlAt entC 13 w qa a) (hnb : b.length = nb) (hcb : nb ≤ cb) (hmb : cb ≤ maxLen) (hqb : SlAt entC 13 w qb b)
    (ha : UpR a) (hb : UpR b) (hla : na ≤ 1000) (hlb : nb ≤ 1000) :
    Calls Try.prog 18 #[.slice qa na ca, .slice qb nb cb] w fun e w' => Below w.heap.size w w' ∧ ∃ v', e = .returned v' ∧ OwnE chC 56 15 w' w.heap.size v' (diffL a b) := by
  have HTA := Lib.hid (texts_any qa a na ca w hna hca hma hqa)
  have HTB : Hid (∀ W, Below w.heap.size w W → Calls Try.prog 40 #[.slice qb nb cb] W fun e w' => ∃ r, e = .returned (.map (some r)) ∧ MapIs w' r (putE [] b) ∧ W.heap.size ≤ r ∧ Below W.heap.size W w') := fun W h => texts_any qb b nb cb W hnb hcb hmb (hqb.below h)
  have HOV : Hid (∀ W, Below w.heap.size w W → Calls Try.prog 20 #[.slice qa na ca, .slice qb nb cb] W fun e w' => Below W.heap.size W w' ∧ ∃ v', e = .returned v' ∧ OwnE entC 44 13 w' W.heap.size v' (overL a b)) := fun W h => over_any qa a na ca qb b nb cb W hna hca hma (hqa.below h) hnb hcb hmb (hqb.below h) ha hb hla hlb
  have HLO : Hid ((overL a b).length ≤ 2000) := by have := over_le a b; show _ ≤ _; omega
  have HGA := Lib.hid (tells_texts ha)
  have HGB := Lib.hid (tells_texts hb)
  clear hna hca hma hqa hnb hcb hmb hqb ha hb hla hlb
  go_enter Try.func18, Try.ntmps18
  go_upto_region 2 with (first
    | (go_at_call 40; (with_reducible refine HTA.out.mono ?_); rintro e w1 ⟨r, rfl, hm1, hr1, hb1⟩; have HM1 := Lib.hid hm1; have HB1 := Lib.hid hb1; clear hm1 hr1 hb1)
    | (go_at_call 40; (with_reducible refine (HTB.out _ HB1.out).mono ?_); rintro e w2 ⟨r2, rfl, hm2, hr2, hb2⟩; have HM2 := Lib.hid hm2; have HB2 := Lib.hid hb2; clear hm2 hr2 hb2))
  have HM1' := Lib.hid (HM1.out.block (HB2.out.block _ HM1.out.lt))
  have HW2 : Hid (Below w.heap.size w w2) := HB1.out.trans (HB2.out.mono HB1.out.size)
  clear HM1 HB1 HB2 HTA HTB
  generalize hov : overL a b = ov at *
  go_wp2_with (go_at_call 20; (with_reducible refine (HOV.out _ HW2.out).mono ?_); rintro e w3 ⟨hb3, v3, rfl, ho3⟩; obtain ⟨q3, cap3, rfl, hc3, hm3, hq3, hq3'⟩ := ho3.at entC_len; have HQ3 := Lib.hid hq3; have HB3 := Lib.hid hb3; clear hb3 ho3 hq3 hq3')
  obtain ⟨n, hn⟩ : ∃ n, Hid (ov.length = n) := ⟨_, rfl⟩
  rw [hn.out] at hc3 ⊢
  have hn2 : n ≤ 2000 := by rw [← hn.out]; exact HLO.out
  have HMA := Lib.hid (HM1'.out.block (HB3.out.block _ HM1'.out.lt))
  have HMB := Lib.hid (HM2.out.block (HB3.out.block _ HM2.out.lt))
  have HW3 : Hid (Below w.heap.size w w3) := HW2.out.trans (HB3.out.mono HW2.out.size)
  clear HM1' HM2 HB3 HW2 HOV HLO
  go_loopw [7, 22] (fun v i wr => ∃ k : Nat, k ≤ n ∧ i = .int .i64 k ∧ Hid (Below w3.heap.size w3 wr) ∧ Hid (OwnE chC 56 15 wr w3.heap.size v ((ov.take k).filterMap (chOf a b)))) (fun _ i _ => n - (intOf i).toNat)
  case atStart => exact ⟨0, Nat.zero_le _, rfl, Below.refl _ _, OwnE.nil _ _⟩
  case round =>
    obtain ⟨k, hk, rfl, HW, HO⟩ := hrel
    by_cases hlt : k < n
    · have hlt' : (k : Int) < n := by omega
      have hk2 : k < ov.length := by rw [hn.out]; exact hlt
      obtain ⟨bb, ob, rfl, hb, hr⟩ := HQ3.out k hk2
      have HR : Hid (wr.rangeAt bb (ob + k * 13) (entC ov[k])) := range_of_block hr (HW.out.block bb hb)
      have HTk : Hid ((ov.take (k + 1)).filterMap (chOf a b) = (ov.take k).filterMap (chOf a b) ++ (chOf a b ov[k]).toList) := by
        show _ = _
        rw [List.take_succ_eq_append_getElem hk2, List.filterMap_append, List.filterMap_cons, List.filterMap_nil]
        cases chOf a b ov[k] <;> rfl
      have hcl : ((ov.take k).filterMap (chOf a b)).length ≤ 1000000 := Nat.le_trans (List.length_filterMap_le _ _) (by rw [List.length_take]; omega)
      clear hr
      generalize ov[k] = x at *
      generalize (ov.take k).filterMap (chOf a b) = out at *
      have HX12 : Hid (x.n.length = 12) := x.hn
      have hba := below_alloc1 wr (.cells (entC x).toArray 44)
      have HW1 : Hid (Below w3.heap.size w3 (wr.alloc (.cells (entC x).toArray 44))) := HW.out.trans (hba.mono HW.out.size)
      have HO1 := Lib.hid (HO.out.below hba)
      have hr1 : (wr.alloc (.cells (entC x).toArray 44)).rangeAt wr.heap.size 0 (entC x) := range_whole (heap_alloc_new _ _)
      have HX1 := Lib.hid (ent_name hr1)
      have hba1 : wr.heap.size < (wr.alloc (.cells (entC x).toArray 44)).heap.size := lt_heap (heap_alloc_new _ _)
      clear hr1 hba HO HW
      go_upto_region 6 with (first
        | (with_reducible refine ld_E rfl _ rfl bb (ob + k * 13) x rfl HR.out ?_)
        | (refine wl_strn rfl 44 _ _ rfl (entC x).toArray _ _ (sizE'' x) (entC_sz x) (entC_all x) rfl rfl ?_))
      generalize wr.alloc (.cells (entC x).toArray 44) = W1 at *
      generalize wr.heap.size = g at *
      have hla := (HMA.out.block (HW1.out.block _ HMA.out.lt)).lookOk x.n HX12.out
      have hlb := (HMB.out.block (HW1.out.block _ HMB.out.lt)).lookOk x.n HX12.out
      rw [HGA.out] at hla
      rw [HGB.out] at hlb
      have HCH : Hid (chOf a b x = match getR a x.n, getR b x.n with
        | none, t => some ⟨x.n, x.hn, 1, ⟨#[]⟩, t.getD ⟨#[]⟩⟩
        | some s, none => some ⟨x.n, x.hn, 2, s, ⟨#[]⟩⟩
        | some s, some t => if s = t then none else some ⟨x.n, x.hn, 3, s, t⟩) := rfl
      generalize getR a x.n = ga at *
      generalize getR b x.n = gb at *
      cases ga with
      | none =>
        simp only [Option.getD_none, Option.isSome_none] at hla
        generalize hgt : gb.getD ⟨#[]⟩ = t at *
        generalize gb.isSome = tb at *
        have HC : Hid (chOf a b x = some ⟨x.n, x.hn, 1, ⟨#[]⟩, t⟩) := by rw [← hgt]; exact HCH.out
        clear HCH
        go_upto_region 9 with (first
          | (with_reducible refine ld_N rfl _ rfl g 0 x.n HX12.out rfl HX1.out ?_))
        have hWa : Below w3.heap.size w3 (W1.alloc (.cells (chC ⟨x.n, x.hn, 1, ⟨#[]⟩, t⟩).toArray 56)) := HW1.out.trans ((below_alloc1 _ _).mono HW1.out.size)
        have hOa := HO1.out.below (below_alloc1 W1 (.cells (chC ⟨x.n, x.hn, 1, ⟨#[]⟩, t⟩).toArray 56))
        have hga := heap_alloc_new W1 (.cells (chC ⟨x.n, x.hn, 1, ⟨#[]⟩, t⟩).toArray 56)
        have HWa := Lib.hid hWa
        have HOa := Lib.hid hOa
        have HGa := Lib.hid hga
        clear hWa hOa hga hla hlb
        go_wp2_with (first
          | (with_reducible refine ld_N rfl _ rfl g 0 x.n HX12.out rfl HX1.out ?_)
          | ((with_reducible refine gate_bd 56 #[(0, .tmp 45), (1, .const (.int .i64 1)), (2, .const (.string ⟨#[]⟩)), (3, .tmp 46)] rfl ?_); refine wl_bd rfl 56 [(0, .tmp 45), (1, .const (.int .i64 1)), (2, .const (.string ⟨#[]⟩)), (3, .tmp 46)] rfl _ rfl (chC ⟨x.n, x.hn, 1, ⟨#[]⟩, t⟩).toArray (builtC ⟨x.n, x.hn, 1, ⟨#[]⟩, t⟩) ?_)
          | (refine bs_C rfl _ rfl ⟨x.n, x.hn, 1, ⟨#[]⟩, t⟩ rfl ?_)
          | (at_builtin; (refine app_C rfl _ _ rfl w3.heap.size _ out rfl HOa.out W1.heap.size 1 ⟨x.n, x.hn, 1, ⟨#[]⟩, t⟩ rfl (range_whole HGa.out) hcl HWa.out.size ?_); intro v' w4 ho4 hg4))
        have hb4 : Below w3.heap.size w3 w4 := HWa.out.trans (grown_below hg4 (fun z hz => (HOa.out.lt z hz).1) HWa.out.size)
        go_roundw
        case rel => exact ⟨k + 1, by omega, by go_num, hb4, by rw [HTk.out, HC.out]; exact ho4⟩
        case measure => simp [intOf]; omega
      | some s =>
        simp only [Option.getD_some, Option.isSome_some] at hla
        cases gb with
        | none =>
          simp only [Option.getD_none, Option.isSome_none] at hlb
          have HC : Hid (chOf a b x = some ⟨x.n, x.hn, 2, s, ⟨#[]⟩⟩) := HCH.out
          clear HCH
          go_upto_region 11 with (first
            | (with_reducible refine ld_N rfl _ rfl g 0 x.n HX12.out rfl HX1.out ?_))
          have hWa : Below w3.heap.size w3 (W1.alloc (.cells (chC ⟨x.n, x.hn, 2, s, ⟨#[]⟩⟩).toArray 56)) := HW1.out.trans ((below_alloc1 _ _).mono HW1.out.size)
          have hOa := HO1.out.below (below_alloc1 W1 (.cells (chC ⟨x.n, x.hn, 2, s, ⟨#[]⟩⟩).toArray 56))
          have hga := heap_alloc_new W1 (.cells (chC ⟨x.n, x.hn, 2, s, ⟨#[]⟩⟩).toArray 56)
          have HWa := Lib.hid hWa
          have HOa := Lib.hid hOa
          have HGa := Lib.hid hga
          clear hWa hOa hga hla hlb
          go_wp2_with (first
            | (with_reducible refine ld_N rfl _ rfl g 0 x.n HX12.out rfl HX1.out ?_)
            | ((with_reducible refine gate_bd 56 #[(0, .tmp 55), (1, .const (.int .i64 2)), (2, .tmp 56), (3, .const (.string ⟨#[]⟩))] rfl ?_); refine wl_bd rfl 56 [(0, .tmp 55), (1, .const (.int .i64 2)), (2, .tmp 56), (3, .const (.string ⟨#[]⟩))] rfl _ rfl (chC ⟨x.n, x.hn, 2, s, ⟨#[]⟩⟩).toArray (builtC ⟨x.n, x.hn, 2, s, ⟨#[]⟩⟩) ?_)
            | (refine bs_C rfl _ rfl ⟨x.n, x.hn, 2, s, ⟨#[]⟩⟩ rfl ?_)
            | (at_builtin; (refine app_C rfl _ _ rfl w3.heap.size _ out rfl HOa.out W1.heap.size 1 ⟨x.n, x.hn, 2, s, ⟨#[]⟩⟩ rfl (range_whole HGa.out) hcl HWa.out.size ?_); intro v' w4 ho4 hg4))
          have hb4 : Below w3.heap.size w3 w4 := HWa.out.trans (grown_below hg4 (fun z hz => (HOa.out.lt z hz).1) HWa.out.size)
          go_roundw
          case rel => exact ⟨k + 1, by omega, by go_num, hb4, by rw [HTk.out, HC.out]; exact ho4⟩
          case measure => simp [intOf]; omega
        | some t =>
          simp only [Option.getD_some, Option.isSome_some] at hlb
          by_cases hst : s = t
          · have HC : Hid (chOf a b x = none) := by rw [HCH.out]; exact if_pos hst
            clear HCH
            subst hst
            have hne := neq9s s
            go_wp2_with (first
              | (with_reducible refine ld_N rfl _ rfl g 0 x.n HX12.out rfl HX1.out ?_))
            go_roundw
            case rel => exact ⟨k + 1, by omega, by go_num, HW1.out, by rw [HTk.out, HC.out]; show OwnE _ _ _ _ _ _ (out ++ []); rw [List.append_nil]; exact HO1.out⟩
            case measure => simp [intOf]; omega
          · have hne : (s.toList == t.toList) = false := by simpa using listS hst
            have HCH : Hid (chOf a b x = some ⟨x.n, x.hn, 3, s, t⟩) := by rw [HCH.out]; exact if_neg hst
            have HST := Lib.hid hst
            clear hst
            have HC : Hid (chOf a b x = some ⟨x.n, x.hn, 3, s, t⟩) := HCH.out
            clear HCH
            go_upto_region 13 with (first
              | (with_reducible refine ld_N rfl _ rfl g 0 x.n HX12.out rfl HX1.out ?_))
            have hWa : Below w3.heap.size w3 (W1.alloc (.cells (chC ⟨x.n, x.hn, 3, s, t⟩).toArray 56)) := HW1.out.trans ((below_alloc1 _ _).mono HW1.out.size)
            have hOa := HO1.out.below (below_alloc1 W1 (.cells (chC ⟨x.n, x.hn, 3, s, t⟩).toArray 56))
            have hga := heap_alloc_new W1 (.cells (chC ⟨x.n, x.hn, 3, s, t⟩).toArray 56)
            have HWa := Lib.hid hWa
            have HOa := Lib.hid hOa
            have HGa := Lib.hid hga
            clear hWa hOa hga hla hlb
            go_wp2_with (first
              | (with_reducible refine ld_N rfl _ rfl g 0 x.n HX12.out rfl HX1.out ?_)
              | ((with_reducible refine gate_bd 56 #[(0, .tmp 66), (1, .const (.int .i64 3)), (2, .tmp 67), (3, .tmp 68)] rfl ?_); refine wl_bd rfl 56 [(0, .tmp 66), (1, .const (.int .i64 3)), (2, .tmp 67), (3, .tmp 68)] rfl _ rfl (chC ⟨x.n, x.hn, 3, s, t⟩).toArray (builtC ⟨x.n, x.hn, 3, s, t⟩) ?_)
              | (refine bs_C rfl _ rfl ⟨x.n, x.hn, 3, s, t⟩ rfl ?_)
              | (at_builtin; (refine app_C rfl _ _ rfl w3.heap.size _ out rfl HOa.out W1.heap.size 1 ⟨x.n, x.hn, 3, s, t⟩ rfl (range_whole HGa.out) hcl HWa.out.size ?_); intro v' w4 ho4 hg4))
            have hb4 : Below w3.heap.size w3 w4 := HWa.out.trans (grown_below hg4 (fun z hz => (HOa.out.lt z hz).1) HWa.out.size)
            go_roundw
            case rel => exact ⟨k + 1, by omega, by go_num, hb4, by rw [HTk.out, HC.out]; exact ho4⟩
            case measure => simp [intOf]; omega
    · obtain rfl : k = n := by omega
      have HOf : Hid (OwnE chC 56 15 wr w3.heap.size u7 (diffL a b)) := by
        have := HO.out
        rw [List.take_of_length_le (by rw [hn.out]; omega)] at this
        unfold diffL
        rw [hov]
        exact this
      go_wp2_with fail
      go_ret
      exact ⟨HW3.out.trans (HW.out.mono HW3.out.size), _, rfl, HOf.out.base HW3.out.size⟩
end Go.Proofs.Ytpnmficlebnajaa
