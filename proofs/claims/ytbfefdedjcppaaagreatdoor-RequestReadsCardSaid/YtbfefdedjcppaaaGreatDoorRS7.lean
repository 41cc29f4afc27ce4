/- law 26: RequestReplySame: the walk. -/
import Derived.Test.YtbfefdedjcppaaaGreatDoorEL6
import Derived.Deep.DeepCutAuto
import Derived.Deep.CutBlock
namespace Go.Proofs.YtbfefdedjcppaaaGreatDoor
open Go.RowKit Go.Deep

def ev0 : Ev := ⟨0, z25, false, false, rfl⟩
theorem infoEv : (Tryz.prog.info? 62).map (fun i => (i.zero, i.size, i.bytes)) = some (some (.agg (evC ev0).toArray), 28, 40) := by kernel_rfl
theorem ev0_sz : (Value.agg (evC ev0).toArray).cells.size = 28 := by show (evC ev0).toArray.size = 28; simp [evC_len]
theorem slAt_blk {W : World} {b : Nat} {v : Ev} (h : W.heap[b]? = some (.cells (evC v).toArray 62 (0, 0))) : SlAt evC 28 W (some ⟨b, 0, none⟩) [v] := fun i hi => by
  obtain rfl : i = 0 := by simp at hi; omega
  exact ⟨b, 0, rfl, lt_heap h, by rw [Nat.zero_mul]; exact range_whole h⟩
theorem exec_st1E {P : Program} {o : Oper} {a : Act} {w : World} (T : TypeId) (hsz : (P.info? T).map (·.size) = some 1) (x y : Operand) (ho : o.op = .store T x y) (b i : Nat) (v : Value) (hx : a.eval x = .pointer (some ⟨b, i, none⟩)) (hy : a.eval y = v) (h1 : v.oneCell' = true) (cur new : List Value) (T' : TypeId) (hg : w.heap[b]? = some (.cells cur.toArray T' (0, 0))) (hi : i + 1 ≤ cur.length) (hn : cur.take i ++ [v] ++ cur.drop (i + 1) = new) :
    (execOp a.eval o).run P w = .ok .skip (w.setRow b new.toArray) := by
  subst hn
  exact exec_st1 T hsz x y ho b i v hx hy h1 cur T' hg hi
theorem exec_pkF {P : Program} {o : Oper} {a : Act} {w : World} (x y z : Operand) (ho : o.op = .pick x y z) (v : Value) (hx : a.eval x = .bool false) (hz : a.eval z = v) : (execOp a.eval o).run P w = .ok (.value v) w := by
  unfold execOp
  simp only [ho, hx, hz]
  simp [go_sem]
theorem exec_pkT {P : Program} {o : Oper} {a : Act} {w : World} (x y z : Operand) (ho : o.op = .pick x y z) (v : Value) (hx : a.eval x = .bool true) (hz : a.eval y = v) : (execOp a.eval o).run P w = .ok (.value v) w := by
  unfold execOp
  simp only [ho, hx, hz]
  simp [go_sem]
/-- The law's three variables. -/
structure RsA (w W : World) (x y : RpD) (u u' : Value) (v : Ev) : Prop where
  bel : Below w.heap.size w W
  a : W.heap[w.heap.size]? = some (.cells (ryC x u).toArray 59 (0, 0))
  b : W.heap[w.heap.size + 1]? = some (.cells (ryC y u').toArray 59 (0, 0))
  v : W.heap[w.heap.size + 2]? = some (.cells (evC v).toArray 62 (0, 0))
theorem RsA.below {w W W' : World} {x y : RpD} {u u' : Value} {v : Ev} (h : RsA w W x y u u' v) (hb : Below W.heap.size W W') : RsA w W' x y u u' v :=
  ⟨h.bel.trans (hb.mono h.bel.size), (hb.block _ (lt_heap h.a)).trans h.a, (hb.block _ (lt_heap h.b)).trans h.b, (hb.block _ (lt_heap h.v)).trans h.v⟩
theorem RsA.setA {w W : World} {x y x' : RpD} {u u' u2 : Value} {v : Ev} (h : RsA w W x y u u' v) : RsA w (W.setRow w.heap.size (ryC x' u2).toArray) x' y u2 u' v :=
  ⟨setRow_below h.bel (Nat.le_refl _) _, setRow_at h.a, (setRow_other _ _ _ _ (by omega)).trans h.b, (setRow_other _ _ _ _ (by omega)).trans h.v⟩
theorem RsA.setB {w W : World} {x y y' : RpD} {u u' u2 : Value} {v : Ev} (h : RsA w W x y u u' v) : RsA w (W.setRow (w.heap.size + 1) (ryC y' u2).toArray) x y' u u2 v :=
  ⟨setRow_below h.bel (Nat.le_succ _) _, (setRow_other _ _ _ _ (by omega)).trans h.a, setRow_at h.b, (setRow_other _ _ _ _ (by omega)).trans h.v⟩
theorem RsA.drew {w W : World} {x y : RpD} {u u' : Value} {v : Ev} (h : RsA w W x y u u' v) : RsA w W.drew x y u u' v := ⟨h.bel.drew, h.a, h.b, h.v⟩
theorem RsA.turn {w W W' : World} {x y : RpD} {u u' : Value} {v : Ev} {g : Nat} (h : RsA w W x y u u' v) (ht : Turn [g] W W') (hg : w.heap.size + 2 < g) : RsA w W' x y u u' v := by
  have hk : ∀ k, k < W.heap.size → k ≤ w.heap.size + 2 → W'.heap[k]? = W.heap[k]? := fun k a b => ht.block k a (by simp; omega)
  exact ⟨h.bel.trans (ht.below (fun k hk => by simp at hk; omega) h.bel.size), (hk _ (lt_heap h.a) (by omega)).trans h.a, (hk _ (lt_heap h.b) (by omega)).trans h.b, (hk _ (lt_heap h.v) (by omega)).trans h.v⟩
def RsC (w : World) (x y x' y' : RpD) (u u' s s' : Value) (v : Ev) : Nat → World → Prop
  | 0, W => RsA w W x y u u' v
  | 1, W => RsA w W x y u u' v
  | 2, W => RsA w W x y u u' v
  | 3, W => RsA w W x' y s u' v
  | _, W => RsA w W x' y' s s' v
theorem RsA.start (w : World) (x y : RpD) (u u' : Value) (v : Ev) : RsA w (((w.alloc (.cells (ryC x u).toArray 59)).alloc (.cells (ryC y u').toArray 59)).alloc (.cells (evC v).toArray 62)) x y u u' v := by
  refine ⟨(below_alloc2 _ _ _).alloc (by simp; omega) _, ?_, ?_, ?_⟩
  · rw [heap_alloc_old _ _ (by simp; omega)]; exact heap_alloc2_old _ _ _
  · rw [heap_alloc_old _ _ (by simp)]; exact heap_alloc2_new _ _ _
  · have := heap_alloc_new ((w.alloc (.cells (ryC x u).toArray 59)).alloc (.cells (ryC y u').toArray 59)) (.cells (evC v).toArray 62); simpa using this
set_option maxRecDepth 100000 in
set_option maxHeartbeats 8000000 in
theorem RequestReplySame_walkI (x y : RpD) (q q' : Option Addr) (n n' c c' : Nat) (es fs : List Ev) (v : Ev) (i : Int) (w : World) (hn : es.length = n) (hn' : fs.length = n') (hnc : n ≤ c) (hcm : c ≤ maxLen) (hnc' : n' ≤ c') (hcm' : c' ≤ maxLen) (hq : SlAt evC 28 w q es) (hq' : SlAt evC 28 w q' fs) (hq0 : q = none → c = 0) (hmx : MX w) :
    Calls Tryz.prog 4 #[.agg (ryC x (.slice q n c)).toArray, .agg (ryC y (.slice q' n' c')).toArray, .agg (evC v).toArray, .int .i64 i] w fun e w' => e = .returned (.bool true) ∧ Below w.heap.size w w' := by
  have HS0 := Lib.hid (RsA.start w x y (.slice q n c) (.slice q' n' c') v)
  have HQ := Lib.hid (slAt_take hq 20)
  have HQ' := Lib.hid (slAt_take hq' 20)
  have HN : Hid ((es.take 20).length = min n 20) := by show _ = _; rw [List.length_take, hn, Nat.min_comm]
  have HN' : Hid ((fs.take 20).length = min n' 20) := by show _ = _; rw [List.length_take, hn', Nat.min_comm]
  have hm20 : min n 20 ≤ 20 := Nat.min_le_right _ _
  have hm20' : min n' 20 ≤ 20 := Nat.min_le_right _ _
  have HMX := Lib.hid hmx
  have HC1 := Lib.hid (fun W => cut26_any x q n c W hnc hcm)
  have HC2 := Lib.hid (fun W => cut26_any y q' n' c' W hnc' hcm')
  have hmc : min n 20 ≤ c := by omega
  clear hq hq' hn hn' hmx hnc hnc' hcm' hcm
  go_enter Tryz.func4, Tryz.ntmps4
  go_upto_region 1 with fail
  generalize ((w.alloc (.cells (ryC x (.slice q n c)).toArray 59)).alloc (.cells (ryC y (.slice q' n' c')).toArray 59)).alloc (.cells (evC v).toArray 62) = W1 at *
  generalize es.take 20 = es1 at *
  generalize fs.take 20 = fs1 at *
  generalize min n 20 = m at *
  generalize min n' 20 = m' at *
  generalize cutRp x = x1 at *
  generalize cutRp y = y1 at *
  refine wp_region_chain (RsC w x y x1 y1 (.slice q n c) (.slice q' n' c') (.slice q m c) (.slice q' m' c') v)
    [some (15, .agg (ryC x (.slice q n c)).toArray), some (16, .agg (ryC x1 (.slice q m c)).toArray), some (17, .agg (ryC y (.slice q' n' c')).toArray), some (18, .agg (ryC y1 (.slice q' m' c')).toArray), none, none] [1, 3, 4, 5]
    (by kernel_rfl) (by kernel_rfl) rfl (by simp) (by simp) (by decide) (by decide) (fun r hr => by have h2 : r + 1 < 4 := hr; obtain rfl | rfl | rfl : r = 0 ∨ r = 1 ∨ r = 2 := (by omega); all_goals (show _ = true; kernel_rfl)) HS0.out.drew ?_ ?_ ?_
  · intro i hi hE a w' k hfr hdep hC hkk K hK
    have hi6 : i < 6 := hi
    obtain rfl | rfl : i = 0 ∨ i = 2 := by simp at hE; omega
    · have hA : w'.heap[w.heap.size]? = some (.cells (ryC x (.slice q n c)).toArray 59 (0, 0)) := by
        match k, hC, hkk with
        | 0, hC, _ => exact hC.a
        | k + 1, _, hkk => have := hkk 0 (by simp) (by omega); exact absurd this (by decide +kernel)
      exact wpOp_ldr rfl rfl 59 (.tmp 4) rfl w.heap.size 0 (ryC x (.slice q n c)) _ Tryz.underlying59 rfl (by rw [sizRy, ryC_len]) (hfr.off 4 (by simp)) (range_whole hA) hK
    · have hB : w'.heap[w.heap.size + 1]? = some (.cells (ryC y (.slice q' n' c')).toArray 59 (0, 0)) := by
        match k, hC, hkk with
        | 0, hC, _ => exact hC.b
        | 1, hC, _ => exact hC.b
        | k + 2, _, hkk => have := hkk 1 (by simp) (by omega); exact absurd this (by decide +kernel)
      exact wpOp_ldr rfl rfl 59 (.tmp 5) rfl (w.heap.size + 1) 0 (ryC y (.slice q' n' c')) _ Tryz.underlying59 rfl (by rw [sizRy, ryC_len]) (hfr.off 5 (by simp)) (range_whole hB) hK
  · intro r hr a w' hfr hdep hC K hK
    have h4 : r < 4 := hr
    obtain rfl | rfl | rfl | rfl : r = 0 ∨ r = 1 ∨ r = 2 ∨ r = 3 := by omega
    · have hx := hdep 0 (by kernel_rfl) 15 _ rfl
      refine wpOp_call rfl rfl (exec_calls rfl (enters_of Tryz.func13 (by kernel_rfl) rfl) (vs := #[.agg (ryC x (.slice q n c)).toArray]) (by simp [Act.eval, hx]) w') (HC1.out w') (fun e w2 hR => ?_)
      obtain ⟨rfl, hb⟩ := hR
      exact ⟨_, rfl, hK _ (RsA.below hC hb)⟩
    · have hx := hdep 2 (by kernel_rfl) 17 _ rfl
      refine wpOp_call rfl rfl (exec_calls rfl (enters_of Tryz.func13 (by kernel_rfl) rfl) (vs := #[.agg (ryC y (.slice q' n' c')).toArray]) (by simp [Act.eval, hx]) w') (HC2.out w') (fun e w2 hR => ?_)
      obtain ⟨rfl, hb⟩ := hR
      exact ⟨_, rfl, hK _ (RsA.below hC hb)⟩
    · have hx := hdep 1 (by kernel_rfl) 16 _ rfl
      exact wpOp_skip rfl rfl (exec_str 59 (.tmp 4) (.tmp 16) rfl w.heap.size (ryC x1 (.slice q m c)).toArray (ryC x (.slice q n c)).toArray 59 (by rw [sizRy, List.size_toArray, ryC_len]) (by rw [List.size_toArray, List.size_toArray, ryC_len, ryC_len]) (by rw [← Array.all_toList]; exact ryC_one _ _ rfl) (hfr.off 4 (by simp)) hx (RsA.a hC)) (hK _ (RsA.setA hC))
    · have hx := hdep 3 (by kernel_rfl) 18 _ rfl
      exact wpOp_skip rfl rfl (exec_str 59 (.tmp 5) (.tmp 18) rfl (w.heap.size + 1) (ryC y1 (.slice q' m' c')).toArray (ryC y (.slice q' n' c')).toArray 59 (by rw [sizRy, List.size_toArray, ryC_len]) (by rw [List.size_toArray, List.size_toArray, ryC_len, ryC_len]) (by rw [← Array.all_toList]; exact ryC_one _ _ rfl) (hfr.off 5 (by simp)) hx (RsA.b hC)) (hK _ (RsA.setB hC))
  intro W2 hC2
  have HS2 : Hid (RsA w W2 x1 y1 (.slice q m c) (.slice q' m' c') v) := hC2
  clear hC2 HS0 HC1 HC2
  simp only [puts, List.filterMap_cons, List.filterMap_nil, _root_.id, List.setIfInBounds_toArray, List.set_cons_zero, List.set_cons_succ]
  have HQ2 := Lib.hid (HQ.out.below HS2.out.bel)
  have HQ2' := Lib.hid (HQ'.out.below HS2.out.bel)
  have HR0 := Lib.hid (range_app_left (xs := rpC x1) (range_whole HS2.out.a))
  have HR1 := Lib.hid (range_app_left (xs := rpC y1) (range_whole HS2.out.b))
  have s0 : W2.cell? ⟨w.heap.size, 14, none⟩ = some (.slice q m c) := by rw [cell_blk HS2.out.a, List.getElem?_toArray]; exact ryC_sl _ _
  have s1 : W2.cell? ⟨w.heap.size + 1, 14, none⟩ = some (.slice q' m' c') := by rw [cell_blk HS2.out.b, List.getElem?_toArray]; exact ryC_sl _ _
  obtain ⟨z, HZ⟩ : ∃ z : Bool, Hid (z = (eqR x1 y1 && decide (m = m'))) := ⟨_, rfl⟩
  go_upto_region 2 with fail
  go_cut [9] (fun s9 wx => s9 = .bool z ∧ wx = W2)
  case first => as_aux_lemma =>
    have keep : ∀ (b1 : Bool), z = b1 → Hid (z = b1) := fun _ h => h
    by_cases hb : eqR x1 y1 = true
    · by_cases hlen : m = m'
      · have HZ1 := keep true (by rw [HZ.out, hb]; simp [hlen])
        have hbn : ((m : Int) == (m' : Int)) = true := by simp [hlen]
        clear keep HZ
        go_wp2_with (first
        | ((with_reducible refine gate_ld 56 (.tmp 19) rfl ?_); refine wl_ldr rfl 56 _ rfl w.heap.size 0 (rpC x1) _ Tryz.underlying56 rfl (by rw [sizRp, rpC_len]) rfl HR0.out ?_)
        | ((with_reducible refine gate_ld 56 (.tmp 21) rfl ?_); refine wl_ldr rfl 56 _ rfl (w.heap.size + 1) 0 (rpC y1) _ Tryz.underlying56 rfl (by rw [sizRp, rpC_len]) rfl HR1.out ?_)
        | ((with_reducible refine gate_op (.binOp .eql 56 (.tmp 20) (.tmp 22) 56) rfl ?_); refine wl_val rfl (.bool true) (exec_eqlG _ 56 (.tmp 20) (.tmp 22) rfl (rpC x1).toArray (rpC y1).toArray _ rfl rfl (run_eqGuard_agg _ .eql 56 _ _ _ _ (by kernel_rfl)) (by rw [eqlRp, hb])) ?_))
        go_meet
        case rel => exact ⟨by rw [HZ1.out], rfl⟩
      · have HZ1 := keep false (by rw [HZ.out, hb]; simp [hlen])
        have hbn : ((m : Int) == (m' : Int)) = false := by simp; omega
        clear keep HZ
        go_wp2_with (first
        | ((with_reducible refine gate_ld 56 (.tmp 19) rfl ?_); refine wl_ldr rfl 56 _ rfl w.heap.size 0 (rpC x1) _ Tryz.underlying56 rfl (by rw [sizRp, rpC_len]) rfl HR0.out ?_)
        | ((with_reducible refine gate_ld 56 (.tmp 21) rfl ?_); refine wl_ldr rfl 56 _ rfl (w.heap.size + 1) 0 (rpC y1) _ Tryz.underlying56 rfl (by rw [sizRp, rpC_len]) rfl HR1.out ?_)
        | ((with_reducible refine gate_op (.binOp .eql 56 (.tmp 20) (.tmp 22) 56) rfl ?_); refine wl_val rfl (.bool true) (exec_eqlG _ 56 (.tmp 20) (.tmp 22) rfl (rpC x1).toArray (rpC y1).toArray _ rfl rfl (run_eqGuard_agg _ .eql 56 _ _ _ _ (by kernel_rfl)) (by rw [eqlRp, hb])) ?_))
        go_meet
        case rel => exact ⟨by rw [HZ1.out], rfl⟩
    · have hb' : eqR x1 y1 = false := by simpa using hb
      have HZ1 := keep false (by rw [HZ.out, hb']; rfl)
      clear keep HZ hb
      go_wp2_with (first
      | ((with_reducible refine gate_ld 56 (.tmp 19) rfl ?_); refine wl_ldr rfl 56 _ rfl w.heap.size 0 (rpC x1) _ Tryz.underlying56 rfl (by rw [sizRp, rpC_len]) rfl HR0.out ?_)
      | ((with_reducible refine gate_ld 56 (.tmp 21) rfl ?_); refine wl_ldr rfl 56 _ rfl (w.heap.size + 1) 0 (rpC y1) _ Tryz.underlying56 rfl (by rw [sizRp, rpC_len]) rfl HR1.out ?_)
      | ((with_reducible refine gate_op (.binOp .eql 56 (.tmp 20) (.tmp 22) 56) rfl ?_); refine wl_val rfl (.bool false) (exec_eqlG _ 56 (.tmp 20) (.tmp 22) rfl (rpC x1).toArray (rpC y1).toArray _ rfl rfl (run_eqGuard_agg _ .eql 56 _ _ _ _ (by kernel_rfl)) (by rw [eqlRp, hb'])) ?_))
      go_meet
      case rel => exact ⟨by rw [HZ1.out], rfl⟩
  case rest =>
  obtain ⟨rfl, hwc⟩ := hcut
  rw [hwc]
  clear hwc HR0 HR1
  have HB0 : Hid (Below W2.heap.size W2 W2) := Below.refl _ _
  have HLa := Lib.hid (lt_heap HS2.out.a)
  have HLb := Lib.hid (lt_heap HS2.out.b)
  obtain ⟨zS, HZS⟩ : ∃ z : Bool, Hid (z = sameB x1 y1 es1 fs1) := ⟨_, rfl⟩
  have HZT : Hid (eqR x1 y1 = true → m = m' → (∀ j (h : j < es1.length) (h' : j < fs1.length), j < m → eqE es1[j] fs1[j] = true) → zS = true) := fun h1 h2 h3 => by
    rw [HZS.out]
    unfold sameB
    rw [h1, HN.out, HN'.out, (allE_iff es1 fs1 (by rw [HN.out, HN'.out, h2])).2 fun j h h' => h3 j h h' (by rw [← HN.out]; exact h)]
    simp [h2]
  have HZF : Hid (eqR x1 y1 = false ∨ m ≠ m' ∨ (∃ j, ∃ (h : j < es1.length) (h' : j < fs1.length), eqE es1[j] fs1[j] = false) → zS = false) := by
    rintro (h1 | h1 | ⟨j, h, h', h1⟩)
    · rw [HZS.out]; unfold sameB; rw [h1]; rfl
    · rw [HZS.out]; unfold sameB; rw [HN.out, HN'.out]; simp [h1]
    · rw [HZS.out]; unfold sameB
      by_cases hl : es1.length = fs1.length
      · cases ha : allE es1 fs1 with
        | false => simp
        | true =>
          have := (allE_iff es1 fs1 hl).1 ha j h h'
          rw [h1] at this; cases this
      · simp [hl]
  go_upto_block 0 with fail
  go_cut [9, 10] (fun s9 s10 wx => s9 = .bool zS ∧ (∃ u : Value, s10 = u) ∧ Hid (Below W2.heap.size W2 wx))
  case first => as_aux_lemma =>
    go_wp2_with fail
    go_loopw [9, 10] (fun s9 s10 wr => ∃ (b : Bool) (k : Nat), k ≤ m ∧ s9 = .bool b ∧ s10 = .int .i64 (k : Int) ∧ Hid (Below W2.heap.size W2 wr) ∧ Hid (b = true → eqR x1 y1 = true ∧ m = m' ∧ ∀ j (h : j < es1.length) (h' : j < fs1.length), j < k → eqE es1[j] fs1[j] = true) ∧ Hid (b = false → zS = false)) (fun _ s10 _ => m - (intOf s10).toNat)
    case atStart => exact ⟨z, 0, Nat.zero_le _, rfl, rfl, HB0.out, (fun h => by rw [HZ.out, Bool.and_eq_true, decide_eq_true_iff] at h; exact ⟨h.1, h.2, fun j _ _ hj => absurd hj (Nat.not_lt_zero _)⟩), (fun h => HZF.out (by
      rw [HZ.out, Bool.and_eq_false_iff, decide_eq_false_iff_not] at h
      rcases h with h | h
      · exact .inl h
      · exact .inr (.inl h)))⟩
    case round =>
      obtain ⟨b, k, hk, rfl, rfl, HBr, HT, HF⟩ := hrel
      have t0 : wr.cell? ⟨w.heap.size, 14, none⟩ = some (.slice q m c) := (cell_of (HBr.out.block _ HLa.out) 14).trans s0
      have t1 : wr.cell? ⟨w.heap.size + 1, 14, none⟩ = some (.slice q' m' c') := (cell_of (HBr.out.block _ HLb.out) 14).trans s1
      by_cases hlt : k < m
      · have hlt' : (k : Int) < (m : Int) := by omega
        cases b
        · have HE := Lib.hid (HF.out rfl)
          clear HT HF HZT HZF HZ
          go_wp2_with fail
          go_meet
          case rel => exact ⟨by rw [HE.out], ⟨_, rfl⟩, HBr.out⟩
        · obtain ⟨he1, hmm, hall⟩ := HT.out rfl
          have HAll := Lib.hid hall
          have HR1 := Lib.hid he1
          have HMM := Lib.hid hmm
          have hlt2 : k < m' := by omega
          clear HT HF hall he1 hmm
          obtain ⟨b0, o0, rfl, hb0, hr0⟩ := (HQ2.out.below HBr.out) k (by rw [HN.out]; exact hlt)
          obtain ⟨b1, o1, rfl, hb1, hr1⟩ := (HQ2'.out.below HBr.out) k (by rw [HN'.out]; exact hlt2)
          have HR0r := Lib.hid hr0
          have HR1r := Lib.hid hr1
          have hle : k < es1.length := by rw [HN.out]; exact hlt
          have hlf : k < fs1.length := by rw [HN'.out]; exact hlt2
          have HF2 : Hid (eqE es1[k] fs1[k] = true → ∀ j (h : j < es1.length) (h' : j < fs1.length), j < k + 1 → eqE es1[j] fs1[j] = true) := fun he j h h' hj => by
            rcases Nat.lt_or_eq_of_le (Nat.le_of_lt_succ hj) with h1 | rfl
            · exact HAll.out j h h' h1
            · exact he
          have HFn : Hid (eqE es1[k] fs1[k] = false → zS = false) := fun he => HZF.out (.inr (.inr ⟨k, hle, hlf, he⟩))
          clear hr0 hr1 hb0 hb1 HAll HZF HZT HZ
          generalize es1[k] = e0 at *
          generalize fs1[k] = f0 at *
          go_upto_region 6 with fail
          have hS : wr.drew.heap[w.heap.size]? = wr.heap[w.heap.size]? ∧ wr.drew.heap[w.heap.size + 1]? = wr.heap[w.heap.size + 1]? ∧ wr.drew.rangeAt b0 (o0 + k * 28) (evC e0) ∧ wr.drew.rangeAt b1 (o1 + k * 28) (evC f0) := ⟨rfl, rfl, HR0r.out, HR1r.out⟩
          refine wp_region_held_drew (S := fun W => W.heap[w.heap.size]? = wr.heap[w.heap.size]? ∧ W.heap[w.heap.size + 1]? = wr.heap[w.heap.size + 1]? ∧ W.rangeAt b0 (o0 + k * 28) (evC e0) ∧ W.rangeAt b1 (o1 + k * 28) (evC f0)) (by kernel_rfl) hS (fun hH => ?_)
          show wpAnyH Tryz.prog Region.Mode.any _ _ _ 12 #[false, false, false, false, false, false, false, false, false, false, false, false] _ _
          refine takeR (i := 0) (v := .pointer (some ⟨w.heap.size, 14, none⟩)) 43 rfl rfl (by kernel_rfl) (by kernel_rfl) (by kernel_rfl) (fun _ _ _ h => h) (Or.inl ⟨rfl, fun w' hS => exec_fRy (.tmp 4) 1 14 (by simp) rfl w.heap.size 0 rfl⟩) hH ?_
          simp only [Act.put, List.setIfInBounds_toArray, List.set_cons_zero, List.set_cons_succ]
          refine takeR (i := 1) (v := .slice (some ⟨b0, o0, none⟩) m c) 44 rfl rfl (by kernel_rfl) (by kernel_rfl) (by kernel_rfl) (fun _ _ _ h => h) (Or.inl ⟨rfl, fun w' hS => exec_ld1G 57 agEvs _ rfl w.heap.size 14 _ rfl ((cell_of hS.1 14).trans t0)⟩) hH ?_
          simp only [Act.put, List.setIfInBounds_toArray, List.set_cons_zero, List.set_cons_succ]
          refine takeR (i := 2) (v := .int .i64 (k : Int)) 45 rfl rfl (by kernel_rfl) (by kernel_rfl) (by kernel_rfl) (fun _ _ _ h => h) (Or.inl ⟨rfl, fun w' hS => exec_mvT (.tmp 10) rfl _ rfl⟩) hH ?_
          simp only [Act.put, List.setIfInBounds_toArray, List.set_cons_zero, List.set_cons_succ]
          refine takeR (i := 3) (v := .pointer (some ⟨b0, o0 + k * 28, none⟩)) 46 rfl rfl (by kernel_rfl) (by kernel_rfl) (by kernel_rfl) (fun _ _ _ h => h) (Or.inl ⟨rfl, fun w' hS => exec_ixE (.tmp 44) (.tmp 45) rfl b0 o0 m _ k rfl rfl hlt⟩) hH ?_
          simp only [Act.put, List.setIfInBounds_toArray, List.set_cons_zero, List.set_cons_succ]
          refine takeR (i := 4) (v := .agg (evC e0).toArray) 47 rfl rfl (by kernel_rfl) (by kernel_rfl) (by kernel_rfl) (fun _ _ _ h => h) (Or.inl ⟨rfl, fun w' hS => exec_ldr 62 (.tmp 46) rfl b0 (o0 + k * 28) (evC e0) _ Tryz.underlying62 rfl (by rw [sizEv, evC_len]) rfl hS.2.2.1⟩) hH ?_
          simp only [Act.put, List.setIfInBounds_toArray, List.set_cons_zero, List.set_cons_succ]
          refine takeR (i := 5) (v := .pointer (some ⟨(w.heap.size + 1), 14, none⟩)) 48 rfl rfl (by kernel_rfl) (by kernel_rfl) (by kernel_rfl) (fun _ _ _ h => h) (Or.inl ⟨rfl, fun w' hS => exec_fRy (.tmp 5) 1 14 (by simp) rfl (w.heap.size + 1) 0 rfl⟩) hH ?_
          simp only [Act.put, List.setIfInBounds_toArray, List.set_cons_zero, List.set_cons_succ]
          refine takeR (i := 6) (v := .slice (some ⟨b1, o1, none⟩) m' c') 49 rfl rfl (by kernel_rfl) (by kernel_rfl) (by kernel_rfl) (fun _ _ _ h => h) (Or.inl ⟨rfl, fun w' hS => exec_ld1G 57 agEvs _ rfl (w.heap.size + 1) 14 _ rfl ((cell_of hS.2.1 14).trans t1)⟩) hH ?_
          simp only [Act.put, List.setIfInBounds_toArray, List.set_cons_zero, List.set_cons_succ]
          refine takeR (i := 7) (v := .int .i64 (k : Int)) 50 rfl rfl (by kernel_rfl) (by kernel_rfl) (by kernel_rfl) (fun _ _ _ h => h) (Or.inl ⟨rfl, fun w' hS => exec_mvT (.tmp 10) rfl _ rfl⟩) hH ?_
          simp only [Act.put, List.setIfInBounds_toArray, List.set_cons_zero, List.set_cons_succ]
          refine takeR (i := 8) (v := .pointer (some ⟨b1, o1 + k * 28, none⟩)) 51 rfl rfl (by kernel_rfl) (by kernel_rfl) (by kernel_rfl) (fun _ _ _ h => h) (Or.inl ⟨rfl, fun w' hS => exec_ixE (.tmp 49) (.tmp 50) rfl b1 o1 m' _ k rfl rfl hlt2⟩) hH ?_
          simp only [Act.put, List.setIfInBounds_toArray, List.set_cons_zero, List.set_cons_succ]
          refine takeR (i := 9) (v := .agg (evC f0).toArray) 52 rfl rfl (by kernel_rfl) (by kernel_rfl) (by kernel_rfl) (fun _ _ _ h => h) (Or.inl ⟨rfl, fun w' hS => exec_ldr 62 (.tmp 51) rfl b1 (o1 + k * 28) (evC f0) _ Tryz.underlying62 rfl (by rw [sizEv, evC_len]) rfl hS.2.2.2⟩) hH ?_
          simp only [Act.put, List.setIfInBounds_toArray, List.set_cons_zero, List.set_cons_succ]
          refine takeR (i := 10) (v := .bool (eqE e0 f0)) 53 rfl rfl (by kernel_rfl) (by kernel_rfl) (by kernel_rfl) (fun _ _ _ h => h) (Or.inl ⟨rfl, fun w' hS => exec_eqlG _ 62 (.tmp 47) (.tmp 52) rfl (evC e0).toArray (evC f0).toArray _ rfl rfl (run_eqGuard_agg _ .eql 62 _ _ _ _ (by kernel_rfl)) (eqlEv _ _ _)⟩) hH ?_
          simp only [Act.put, List.setIfInBounds_toArray, List.set_cons_zero, List.set_cons_succ]
          refine takeR (i := 11) (v := .bool (eqE e0 f0)) 9 rfl rfl (by kernel_rfl) (by kernel_rfl) (by kernel_rfl) (fun _ _ _ h => h) (Or.inl ⟨rfl, fun w' hS => exec_asT (.tmp 53) rfl _ rfl⟩) hH ?_
          simp only [Act.put, List.setIfInBounds_toArray, List.set_cons_zero, List.set_cons_succ]
          refine wpAnyH_done (by kernel_rfl) ?_ _
          try simp only [Act.put, List.getElem_toArray, List.getElem_cons_zero, List.getElem_cons_succ, List.setIfInBounds_toArray, List.set_cons_zero, List.set_cons_succ]
          have HBd : Hid (Below W2.heap.size W2 wr.drew) := HBr.out.drew
          generalize hee : eqE e0 f0 = be at *
          clear hS hH t0 t1
          have HEE := Lib.hid hee
          clear hee
          go_wp2_with fail
          go_roundw
          case rel => exact ⟨be, k + 1, by omega, rfl, by simp, HBd.out, (fun h => ⟨HR1.out, HMM.out, HF2.out h⟩), (fun h => HFn.out h)⟩
          case measure => simp [intOf]; omega
      · obtain rfl : k = m := by omega
        have HE : Hid (b = zS) := by
          cases b
          · exact (HF.out rfl).symm
          · exact (HZT.out (HT.out rfl).1 (HT.out rfl).2.1 (HT.out rfl).2.2).symm
        clear HT HF HZT HZF HZ
        go_wp2_with fail
        go_meet
        case rel => exact ⟨by rw [HE.out], ⟨_, rfl⟩, HBr.out⟩
  case rest =>
  obtain ⟨rfl, ⟨u10, rfl⟩, HB3⟩ := hcut
  have HS3 := Lib.hid (HS2.out.below HB3.out)
  clear HS2 HQ2 HQ2' HB0 HLa HLb s0 s1 HZT HZF HZ HB3
  generalize wc = W3 at *
  clear W2
  go_upto_region 8 with (first
    | ((with_reducible refine gate_ld 59 _ rfl ?_); refine wl_ldr rfl 59 _ rfl w.heap.size 0 (ryC x1 (.slice q m c)) _ Tryz.underlying59 rfl (by rw [sizRy, ryC_len]) rfl (range_whole HS3.out.a) ?_)
    | ((with_reducible refine gate_st 59 _ _ rfl ?_); refine wl_strn rfl _ _ _ rfl (ryC x1 (.slice q m c)).toArray #[Value.int IntKind.i64 0, Value.string ⟨#[]⟩, Value.int IntKind.u8 0, Value.int IntKind.u8 0, Value.int IntKind.u8 0, Value.int IntKind.u8 0, Value.int IntKind.u8 0, Value.int IntKind.u8 0, Value.int IntKind.u8 0, Value.int IntKind.u8 0, Value.int IntKind.u8 0, Value.int IntKind.u8 0, Value.int IntKind.i64 0, Value.int IntKind.i64 0, Value.slice none 0 0] _ (by rw [sizRy, List.size_toArray, ryC_len]) (by rw [List.size_toArray, ryC_len]; rfl) (by rw [← Array.all_toList]; exact ryC_one _ _ rfl) (by simp [Act.eval]) rfl ?_))
  have HG4 : Hid ((W3.alloc (.cells (ryC x1 (.slice q m c)).toArray 59)).heap[W3.heap.size]? = some (.cells (ryC x1 (.slice q m c)).toArray 59 (0, 0))) := heap_alloc_new _ _
  have hba := below_alloc1 W3 (.cells (ryC x1 (.slice q m c)).toArray 59)
  have HS4 := Lib.hid (HS3.out.below hba)
  have hg2 : w.heap.size + 2 < W3.heap.size := lt_heap HS3.out.v
  have HZ4 : Hid ((W3.alloc (.cells (ryC x1 (.slice q m c)).toArray 59)).heap.size = W3.heap.size + 1) := by show _ = _; simp
  clear hba HS3
  try simp only [Act.put]
  generalize W3.alloc (.cells (ryC x1 (.slice q m c)).toArray 59) = W4 at *
  generalize W3.heap.size = g at *
  have s4 : W4.cell? ⟨w.heap.size, 14, none⟩ = some (.slice q m c) := by rw [cell_blk HS4.out.a, List.getElem?_toArray]; exact ryC_sl _ _
  have hbe := below_alloc1 W4 (.cells #[] 62)
  have s4' : (W4.alloc (.cells #[] 62)).cell? ⟨w.heap.size, 14, none⟩ = some (.slice q m c) := (cell_of (hbe.block _ (lt_heap HS4.out.a)) 14).trans s4
  have HO4 : Hid (OwnE evC 62 28 (W4.alloc (.cells #[] 62)) (g + 1) (.slice (some ⟨W4.heap.size, 0, none⟩) 0 0) []) := ⟨by simp, .inr ⟨W4.heap.size, 0, #[], rfl, by have := HZ4.out; omega, heap_alloc_new _ _, by simp, by unfold maxLen; omega, rfl, rfl⟩⟩
  have HQ5 := Lib.hid (HQ.out.below (HS4.out.below hbe).bel)
  clear hbe
  go_upto_region 9 with (first
    | ((with_reducible refine gate_op (.call { callee := .builtin .append, args := #[.tmp 55, .tmp 57], argTypes := #[57, 57] }) rfl ?_); refine wl_appO (enc := evC) (k := 28) rfl 57 62 40 _ Tryz.underlying57 infoEv ev0_sz (by omega) evC_len evC_one' (.tmp 55) (.tmp 57) rfl (g + 1) _ [] rfl HO4.out q m c es1 rfl HN.out HQ5.out hq0 (by simp; omega) (by unfold maxLen; simp; omega) (by simp; have := HZ4.out; omega) (fun v3 W5 h1 h2 _ => ?_); have HO5 := Lib.hid h1; have hb5 : Below W4.heap.size W4 W5 := (below_alloc1 W4 (.cells #[] 62)).grown h2 (by simp) (fun k e => by have : W4.heap.size = k := (by simpa [Value.ownBlock, Act.eval, Act.put] using e); omega); have HB5 := Lib.hid hb5; clear h1 h2 hb5; obtain ⟨q3, c3, rfl⟩ := HO5.out.slice)
    | ((with_reducible refine gate_st 57 _ _ rfl ?_); refine wl_st1G rfl 57 sizEvs _ _ rfl g 14 (.slice q3 ([] ++ es1).length c3) rfl (by first | rfl | simp [Act.eval]) rfl (ryC x1 (.slice q m c)) (ryC x1 (.slice q3 ([] ++ es1).length c3)) _ ((HB5.out.block _ (lt_heap HG4.out)).trans HG4.out) (by rw [ryC_len]; omega) (ryC_setE x1 _ _) (fun W6 h1 h2 => ?_); have HG6 := Lib.hid h1; have HT6 := Lib.hid h2; clear h1 h2; try simp only [Act.put]))
  have hl0 : ([] ++ es1).length = m := HN.out
  have HG6' : Hid (W6.heap[g]? = some (.cells (ryC x1 (.slice q3 m c3)).toArray 59 (0, 0))) := by have := HG6.out; rwa [hl0] at this
  have HO6 : Hid (OwnE evC 62 28 W6 (g + 1) (.slice q3 m c3) es1) := by
    have h5 := HO5.out
    rw [hl0, List.nil_append] at h5
    exact h5.block fun k e => HT6.out.block k (h5.lt k e).2 (by have := (h5.lt k e).1; simp; omega)
  have HS6 := Lib.hid ((HS4.out.below HB5.out).turn HT6.out hg2)
  clear HG6 HT6 HO5 HB5 HO4 HQ5 s4 s4' HS4 HG4 HZ4 hl0
  have s6 : W6.cell? ⟨g, 14, none⟩ = some (.slice q3 m c3) := by rw [cell_blk HG6'.out, List.getElem?_toArray]; exact ryC_sl _ _
  obtain ⟨J, HJ⟩ : ∃ J : Nat, Hid (J = (i % 18446744073709551616).toNat % m) := ⟨_, rfl⟩
  go_upto_if 63 with fail
  go_cut [] (fun wx => Hid (RsA w wx x1 y1 (.slice q m c) (.slice q' m' c') v) ∧ Hid (wx.heap[g]? = some (.cells (ryC x1 (.slice q3 m c3)).toArray 59 (0, 0))) ∧ Hid (OwnE evC 62 28 wx (g + 1) (.slice q3 m c3) (es1.set J v)))
  case first => as_aux_lemma =>
    by_cases hm0 : m = 0
    · have hz : decide ((0 : Int) < (m : Int)) = false := by simp [hm0]
      have HE : Hid (es1.set J v = es1) := by
        have : es1 = [] := List.length_eq_zero_iff.1 (HN.out.trans hm0)
        show _ = _
        rw [this]; rfl
      have hz2 : ¬ (0 : Int) < (m : Int) := by omega
      clear hm0
      go_wp2_with fail
      go_meet
      case rel => exact ⟨HS6.out, HG6'.out, by rw [HE.out]; exact HO6.out⟩
    · have hz : decide ((0 : Int) < (m : Int)) = true := by simp; omega
      have hz2 : (0 : Int) < (m : Int) := by omega
      have hJm : J < m := by rw [HJ.out]; exact Nat.mod_lt _ (by omega)
      obtain ⟨g3, cur, hq3, hg3, hh3, hl3, hput⟩ := own_put HO6.out J (by rw [HN.out]; exact hJm) v
      subst hq3
      have HP := Lib.hid hput
      have HH := Lib.hid hh3
      have hu64 : (i % 18446744073709551616).toNat < 2 ^ 64 := by omega
      clear hput hh3 hm0
      go_upto_region 10 with fail
      have hS : W6.drew.heap[w.heap.size + 2]? = W6.heap[w.heap.size + 2]? ∧ W6.drew.heap[g]? = W6.heap[g]? := ⟨rfl, rfl⟩
      refine wp_region_held_drew (S := fun W => W.heap[w.heap.size + 2]? = W6.heap[w.heap.size + 2]? ∧ W.heap[g]? = W6.heap[g]?) (by kernel_rfl) hS (fun hH => ?_)
      show wpAnyH Tryz.prog Region.Mode.any _ _ _ 13 #[false, false, false, false, false, false, false, false, false, false, false, false, false] _ _
      refine takeR (i := 0) (v := .pointer (some ⟨g, 14, none⟩)) 64 rfl rfl (by kernel_rfl) (by kernel_rfl) (by kernel_rfl) (fun _ _ _ h => h) (Or.inl ⟨rfl, fun w' hS => exec_fRy (.tmp 11) 1 14 (by simp) rfl g 0 rfl⟩) hH ?_
      simp only [Act.put, List.setIfInBounds_toArray, List.set_cons_zero, List.set_cons_succ]
      refine takeR (i := 1) (v := .slice (some ⟨g3, 0, none⟩) m c3) 65 rfl rfl (by kernel_rfl) (by kernel_rfl) (by kernel_rfl) (fun _ _ _ h => h) (Or.inl ⟨rfl, fun w' hS => exec_ld1G 57 agEvs _ rfl g 14 _ rfl ((cell_of hS.2 14).trans s6)⟩) hH ?_
      simp only [Act.put, List.setIfInBounds_toArray, List.set_cons_zero, List.set_cons_succ]
      refine takeR (i := 2) (v := .int .i64 i) 66 rfl rfl (by kernel_rfl) (by kernel_rfl) (by kernel_rfl) (fun _ _ _ h => h) (Or.inl ⟨rfl, fun w' hS => exec_mvT (.tmp 3) rfl _ rfl⟩) hH ?_
      simp only [Act.put, List.setIfInBounds_toArray, List.set_cons_zero, List.set_cons_succ]
      refine takeR (i := 3) (v := .int .u64 (((i % 18446744073709551616).toNat : Nat) : Int)) 67 rfl rfl (by kernel_rfl) (by kernel_rfl) (by kernel_rfl) (fun _ _ _ h => h) (Or.inl ⟨rfl, fun w' hS => exec_cvU (.tmp 66) rfl i rfl⟩) hH ?_
      simp only [Act.put, List.setIfInBounds_toArray, List.set_cons_zero, List.set_cons_succ]
      refine takeR (i := 4) (v := .pointer (some ⟨g, 14, none⟩)) 68 rfl rfl (by kernel_rfl) (by kernel_rfl) (by kernel_rfl) (fun _ _ _ h => h) (Or.inl ⟨rfl, fun w' hS => exec_fRy (.tmp 11) 1 14 (by simp) rfl g 0 rfl⟩) hH ?_
      simp only [Act.put, List.setIfInBounds_toArray, List.set_cons_zero, List.set_cons_succ]
      refine takeR (i := 5) (v := .slice (some ⟨g3, 0, none⟩) m c3) 69 rfl rfl (by kernel_rfl) (by kernel_rfl) (by kernel_rfl) (fun _ _ _ h => h) (Or.inl ⟨rfl, fun w' hS => exec_ld1G 57 agEvs _ rfl g 14 _ rfl ((cell_of hS.2 14).trans s6)⟩) hH ?_
      simp only [Act.put, List.setIfInBounds_toArray, List.set_cons_zero, List.set_cons_succ]
      refine takeR (i := 6) (v := .int .i64 (m : Int)) 70 rfl rfl (by kernel_rfl) (by kernel_rfl) (by kernel_rfl) (fun _ _ _ h => h) (Or.inl ⟨rfl, fun w' hS => exec_lenE (.tmp 69) rfl _ m c3 rfl⟩) hH ?_
      simp only [Act.put, List.setIfInBounds_toArray, List.set_cons_zero, List.set_cons_succ]
      refine takeR (i := 7) (v := .int .u64 (m : Int)) 71 rfl rfl (by kernel_rfl) (by kernel_rfl) (by kernel_rfl) (fun _ _ _ h => h) (Or.inl ⟨rfl, fun w' hS => exec_cvIU (.tmp 70) rfl m (by omega) rfl⟩) hH ?_
      simp only [Act.put, List.setIfInBounds_toArray, List.set_cons_zero, List.set_cons_succ]
      refine takeR (i := 8) (v := .int .u64 ((J : Nat) : Int)) 72 rfl rfl (by kernel_rfl) (by kernel_rfl) (by kernel_rfl) (fun _ _ _ h => h) (Or.inl ⟨rfl, fun w' hS => by rw [HJ.out]; exact exec_rem (.tmp 67) (.tmp 71) rfl _ m (by omega) rfl rfl hu64⟩) hH ?_
      simp only [Act.put, List.setIfInBounds_toArray, List.set_cons_zero, List.set_cons_succ]
      refine takeR (i := 9) (v := .int .i64 (J : Int)) 73 rfl rfl (by kernel_rfl) (by kernel_rfl) (by kernel_rfl) (fun _ _ _ h => h) (Or.inl ⟨rfl, fun w' hS => exec_cvI (.tmp 72) rfl J (by omega) rfl⟩) hH ?_
      simp only [Act.put, List.setIfInBounds_toArray, List.set_cons_zero, List.set_cons_succ]
      refine takeR (i := 10) (v := .agg (evC v).toArray) 74 rfl rfl (by kernel_rfl) (by kernel_rfl) (by kernel_rfl) (fun _ _ _ h => h) (Or.inl ⟨rfl, fun w' hS => exec_ldr 62 (.tmp 6) rfl (w.heap.size + 2) 0 (evC v) _ Tryz.underlying62 rfl (by rw [sizEv, evC_len]) rfl (range_whole (hS.1.trans HS6.out.v))⟩) hH ?_
      simp only [Act.put, List.setIfInBounds_toArray, List.set_cons_zero, List.set_cons_succ]
      refine takeR (i := 11) (v := .pointer (some ⟨g3, 0 + J * 28, none⟩)) 75 rfl rfl (by kernel_rfl) (by kernel_rfl) (by kernel_rfl) (fun _ _ _ h => h) (Or.inl ⟨rfl, fun w' hS => exec_ixE (.tmp 65) (.tmp 73) rfl g3 0 m c3 J rfl rfl hJm⟩) hH ?_
      simp only [Act.put, List.setIfInBounds_toArray, List.set_cons_zero, List.set_cons_succ]
      simp only [Nat.zero_add]
      have HT7 : Turn [g3] W6 (W6.drew.setRow g3 (RowIn cur (J * 28) (evC v)).toArray) := ⟨rfl, rfl, rfl, by simp, fun b _ hr => setRow_other _ _ _ _ (by simpa using hr)⟩
      have hH7 : W6.drew.heap[g3]? = some (.cells cur.toArray 62 (0, 0)) := HH.out
      have HS7 := Lib.hid (HS6.out.turn HT7 (by omega))
      have HG7 : Hid ((W6.drew.setRow g3 (RowIn cur (J * 28) (evC v)).toArray).heap[g]? = some (.cells (ryC x1 (.slice (some ⟨g3, 0, none⟩) m c3)).toArray 59 (0, 0))) := (setRow_other _ _ _ _ (by omega)).trans HG6'.out
      have HO7 := Lib.hid (HP.out _ (setRow_at hH7))
      refine oneH 12 (by kernel_rfl) (wpOp_skip rfl rfl (exec_stR 62 (.tmp 75) (.tmp 74) rfl g3 (J * 28) (evC v) (by rw [sizEv, evC_len]) rfl rfl (evC_one' v) cur 62 hH7 (by rw [evC_len]; exact hl3)) ⟨⟨(setRow_other _ _ _ _ (by omega)), (setRow_other _ _ _ _ (by omega))⟩, ?_⟩)
      simp only [Act.put, List.getElem_toArray, List.getElem_cons_zero, List.getElem_cons_succ, List.setIfInBounds_toArray, List.set_cons_zero, List.set_cons_succ]
      refine wpAnyH_done (by kernel_rfl) ?_ _
      try simp only [Act.put, List.getElem_toArray, List.getElem_cons_zero, List.getElem_cons_succ, List.setIfInBounds_toArray, List.set_cons_zero, List.set_cons_succ]
      clear HT7 hH7 hH hS
      go_wp2_with fail
      go_meet
      case rel => exact ⟨HS7.out, HG7.out, HO7.out⟩
  case rest =>
  obtain ⟨HS8, HG8, HO8⟩ := hcut
  clear HS6 HG6' HO6 s6
  generalize wc = W8 at *
  clear W6
  go_upto_region 12 with (first
    | ((with_reducible refine gate_ld 59 _ rfl ?_); refine wl_ldr rfl 59 _ rfl w.heap.size 0 (ryC x1 (.slice q m c)) _ Tryz.underlying59 rfl (by rw [sizRy, ryC_len]) rfl (range_whole HS8.out.a) ?_)
    | ((with_reducible refine gate_st 59 _ _ rfl ?_); refine wl_strn rfl _ _ _ rfl (ryC x1 (.slice q m c)).toArray #[Value.int IntKind.i64 0, Value.string ⟨#[]⟩, Value.int IntKind.u8 0, Value.int IntKind.u8 0, Value.int IntKind.u8 0, Value.int IntKind.u8 0, Value.int IntKind.u8 0, Value.int IntKind.u8 0, Value.int IntKind.u8 0, Value.int IntKind.u8 0, Value.int IntKind.u8 0, Value.int IntKind.u8 0, Value.int IntKind.i64 0, Value.int IntKind.i64 0, Value.slice none 0 0] _ (by rw [sizRy, List.size_toArray, ryC_len]) (by rw [List.size_toArray, ryC_len]; rfl) (by rw [← Array.all_toList]; exact ryC_one _ _ rfl) (by simp [Act.eval]) rfl ?_))
  have HG9 : Hid ((W8.alloc (.cells (ryC x1 (.slice q m c)).toArray 59)).heap[W8.heap.size]? = some (.cells (ryC x1 (.slice q m c)).toArray 59 (0, 0))) := heap_alloc_new _ _
  have hba := below_alloc1 W8 (.cells (ryC x1 (.slice q m c)).toArray 59)
  have HS9 := Lib.hid (HS8.out.below hba)
  have HC9 := Lib.hid ((hba.block _ (lt_heap HG8.out)).trans HG8.out)
  have HO9 := Lib.hid (HO8.out.below hba)
  have HOl : Hid (∀ k, (Value.slice q3 m c3).ownBlock = some k → g + 1 ≤ k ∧ k < W8.heap.size) := fun k e => HO8.out.lt k e
  have hgl : g < W8.heap.size := lt_heap HG8.out
  have HZ9 : Hid ((W8.alloc (.cells (ryC x1 (.slice q m c)).toArray 59)).heap.size = W8.heap.size + 1) := by show _ = _; simp
  clear hba HS8 HG8 HO8
  try simp only [Act.put]
  generalize W8.alloc (.cells (ryC x1 (.slice q m c)).toArray 59) = W9 at *
  generalize W8.heap.size = g2 at *
  go_cut [] (fun wx => ∃ (q4 : Option Addr) (c4 : Nat), Hid (RsA w wx x1 y1 (.slice q m c) (.slice q' m' c') v) ∧ Hid (wx.heap[g]? = some (.cells (ryC x1 (.slice q3 m c3)).toArray 59 (0, 0))) ∧ Hid (OwnE evC 62 28 wx (g + 1) (.slice q3 m c3) (es1.set J v)) ∧ Hid (wx.heap[g2]? = some (.cells (ryC x1 (.slice q4 (m + 1) c4)).toArray 59 (0, 0))) ∧ Hid (OwnE evC 62 28 wx (g2 + 1) (.slice q4 (m + 1) c4) (es1 ++ [v])))
  case first => as_aux_lemma =>
    have hla := lt_heap HS9.out.a
    have hlv := lt_heap HS9.out.v
    have KS : ∀ W, Below W9.heap.size W9 W → W.heap[w.heap.size]? = W9.heap[w.heap.size]? ∧ W.heap[w.heap.size + 2]? = W9.heap[w.heap.size + 2]? := fun W hW => ⟨hW.block _ hla, hW.block _ hlv⟩
    have hbd : Below W9.heap.size W9 W9.drew := ⟨rfl, rfl, rfl, Nat.le_refl _, fun _ _ => rfl⟩
    have hgs : g2 + 1 ≤ W9.heap.size := by have := HZ9.out; omega
    have KQ : ∀ W, Below W9.heap.size W9 W → SlAt evC 28 W q es1 := fun W hW => HQ.out.below (HS9.out.below hW).bel
    refine wp_region_held_drew (S := fun W => W.heap[w.heap.size]? = W9.heap[w.heap.size]? ∧ W.heap[w.heap.size + 2]? = W9.heap[w.heap.size + 2]?) (by kernel_rfl) (KS _ hbd) (fun hH => ?_)
    show wpAnyH Tryz.prog Region.Mode.any _ _ _ 9 #[false, false, false, false, false, false, false, false, false] _ _
    refine takeR (i := 1) (v := .pointer (some ⟨w.heap.size, 14, none⟩)) 78 rfl rfl (by kernel_rfl) (by kernel_rfl) (by kernel_rfl) (fun _ _ _ h => h) (Or.inl ⟨rfl, fun w' hS => exec_fRy (.tmp 4) 1 14 (by simp) rfl w.heap.size 0 rfl⟩) hH ?_
    simp only [Act.put, List.setIfInBounds_toArray, List.set_cons_zero, List.set_cons_succ]
    refine takeR (i := 2) (v := .slice q m c) 79 rfl rfl (by kernel_rfl) (by kernel_rfl) (by kernel_rfl) (fun _ _ _ h => h) (Or.inl ⟨rfl, fun w' hS => exec_ld1G 57 agEvs _ rfl w.heap.size 14 _ rfl (by rw [cell_blk (hS.1.trans HS9.out.a), List.getElem?_toArray]; exact ryC_sl _ _)⟩) hH ?_
    simp only [Act.put, List.setIfInBounds_toArray, List.set_cons_zero, List.set_cons_succ]
    refine takeR (i := 4) (v := .agg (evC v).toArray) 81 rfl rfl (by kernel_rfl) (by kernel_rfl) (by kernel_rfl) (fun _ _ _ h => h) (Or.inl ⟨rfl, fun w' hS => exec_ldr 62 (.tmp 6) rfl (w.heap.size + 2) 0 (evC v) _ Tryz.underlying62 rfl (by rw [sizEv, evC_len]) rfl (range_whole (hS.2.trans HS9.out.v))⟩) hH ?_
    simp only [Act.put, List.setIfInBounds_toArray, List.set_cons_zero, List.set_cons_succ]
    refine twoReady 0 5 (by kernel_rfl) ?_ ?_
    · refine wpOp_wp rfl rfl (op_bs0 (enc := evC) (k := 28) 57 62 Tryz.underlying57 sizEv rfl W9.heap.size hbd.size (fun v1 w1 ho1 hg1 _ => ⟨KS _ (hbd.grown hg1 hbd.size (fun k e => by cases e)), ?_⟩))
      have hb1 := hbd.grown hg1 hbd.size (fun k e => by cases e)
      simp only [Act.put, List.getElem_toArray, List.getElem_cons_zero, List.getElem_cons_succ, List.setIfInBounds_toArray, List.set_cons_zero, List.set_cons_succ]
      refine twoReady 3 5 (by kernel_rfl) ?_ ?_
      · refine wpOp_wp rfl rfl (op_app (enc := evC) (k := 28) 57 62 40 _ Tryz.underlying57 infoEv ev0_sz (by omega) evC_len evC_one' (.tmp 77) (.tmp 79) rfl W9.heap.size v1 [] rfl ho1 q m c es1 rfl HN.out (KQ _ hb1) hq0 (by simp; omega) (by unfold maxLen; simp; omega) hb1.size (fun v2 w2 ho2 hg2 _ => ⟨KS _ (hb1.grown hg2 hb1.size (fun k e => (ho1.lt k e).1)), ?_⟩))
        have hb2 := hb1.grown hg2 hb1.size (fun k e => (ho1.lt k e).1)
        simp only [Act.put, List.getElem_toArray, List.getElem_cons_zero, List.getElem_cons_succ, List.setIfInBounds_toArray, List.set_cons_zero, List.set_cons_succ]
        refine oneH 5 (by kernel_rfl) (wpOp_wp rfl rfl (op_bs1 (enc := evC) (k := 28) 57 62 40 _ Tryz.underlying57 infoEv ev0_sz (by omega) (by omega) evC_len (.tmp 81) rfl v rfl ⟨KS _ (hb2.trans ((below_alloc1 w2 _).mono hb2.size)), ?_⟩))
        simp only [Act.put, List.getElem_toArray, List.getElem_cons_zero, List.getElem_cons_succ, List.setIfInBounds_toArray, List.set_cons_zero, List.set_cons_succ]
        have ho3 := ho2.below (below_alloc1 w2 (.cells (evC v).toArray 62))
        have hb3 := hb2.trans ((below_alloc1 w2 (.cells (evC v).toArray 62)).mono hb2.size)
        have hr3 : (w2.alloc (.cells (evC v).toArray 62)).heap[w2.heap.size]? = some (.cells (evC v).toArray 62 (0, 0)) := heap_alloc_new _ _
        clear ho1 ho2 hb1 hb2 hg1 hg2
        generalize w2.alloc (.cells (evC v).toArray 62) = w3 at *
        generalize w2.heap.size = b5 at *
        refine oneH 6 (by kernel_rfl) (wpOp_wp rfl rfl (op_app (enc := evC) (k := 28) 57 62 40 _ Tryz.underlying57 infoEv ev0_sz (by omega) evC_len evC_one' (.tmp 80) (.tmp 82) rfl W9.heap.size v2 ([] ++ es1) rfl ho3 (some ⟨b5, 0, none⟩) 1 1 [v] rfl rfl (slAt_blk hr3) (fun e => by cases e) (by rw [List.nil_append, HN.out]; omega) (by rw [List.nil_append, HN.out]; unfold maxLen; omega) hb3.size (fun v4 w4 ho4 hg4 _ => ⟨KS _ (hb3.grown hg4 hb3.size (fun k e => (ho3.lt k e).1)), ?_⟩)))
        have hb4 := hb3.grown hg4 hb3.size (fun k e => (ho3.lt k e).1)
        simp only [Act.put, List.getElem_toArray, List.getElem_cons_zero, List.getElem_cons_succ, List.setIfInBounds_toArray, List.set_cons_zero, List.set_cons_succ]
        refine oneH 7 (by kernel_rfl) (wpOp_val rfl rfl (exec_fRy (.tmp 12) 1 14 (by simp) rfl g2 0 rfl) ⟨KS _ hb4, ?_⟩)
        simp only [Act.put, List.getElem_toArray, List.getElem_cons_zero, List.getElem_cons_succ, List.setIfInBounds_toArray, List.set_cons_zero, List.set_cons_succ]
        obtain ⟨q4, c4, rfl⟩ := ho4.slice
        have hl4 : (([] ++ es1) ++ [v]).length = m + 1 := by rw [List.nil_append, List.length_append, HN.out]; rfl
        rw [hl4] at ho4 ⊢
        rw [List.nil_append] at ho4
        have hd4 : w4.heap[g2]? = some (.cells (ryC x1 (.slice q m c)).toArray 59 (0, 0)) := (hb4.block _ (by omega)).trans HG9.out
        have HT4 : Turn [g2] w4 (w4.setRow g2 (ryC x1 (.slice q4 (m + 1) c4)).toArray) := ⟨rfl, rfl, rfl, by simp, fun b _ hr => setRow_other _ _ _ _ (by simpa using hr)⟩
        have hg22 : w.heap.size + 2 < g2 := by omega
        refine oneH 8 (by kernel_rfl) (wpOp_skip rfl rfl (exec_st1E 57 sizEvs (.tmp 84) (.tmp 83) rfl g2 14 (.slice q4 (m + 1) c4) rfl rfl rfl (ryC x1 (.slice q m c)) (ryC x1 (.slice q4 (m + 1) c4)) 59 hd4 (by rw [ryC_len]; omega) (ryC_setE x1 _ _)) ⟨⟨(setRow_other _ _ _ _ (by omega)).trans (KS _ hb4).1, (setRow_other _ _ _ _ (by omega)).trans (KS _ hb4).2⟩, ?_⟩)
        simp only [Act.put, List.getElem_toArray, List.getElem_cons_zero, List.getElem_cons_succ, List.setIfInBounds_toArray, List.set_cons_zero, List.set_cons_succ]
        refine wpAnyH_done (by kernel_rfl) ?_ _
        try simp only [Act.put, List.getElem_toArray, List.getElem_cons_zero, List.getElem_cons_succ, List.setIfInBounds_toArray, List.set_cons_zero, List.set_cons_succ]
        have HSx := Lib.hid ((HS9.out.below hb4).turn HT4 hg22)
        have HCx : Hid ((w4.setRow g2 (ryC x1 (.slice q4 (m + 1) c4)).toArray).heap[g]? = some (.cells (ryC x1 (.slice q3 m c3)).toArray 59 (0, 0))) := (setRow_other _ _ _ _ (by omega)).trans ((hb4.block _ (by omega)).trans HC9.out)
        have HOx : Hid (OwnE evC 62 28 (w4.setRow g2 (ryC x1 (.slice q4 (m + 1) c4)).toArray) (g + 1) (.slice q3 m c3) (es1.set J v)) := (HO9.out.below hb4).block fun k e => setRow_other _ _ _ _ (by have := (HOl.out k e).2; omega)
        have HDx := Lib.hid (setRow_at (cs := (ryC x1 (.slice q4 (m + 1) c4)).toArray) hd4)
        have HODx : Hid (OwnE evC 62 28 (w4.setRow g2 (ryC x1 (.slice q4 (m + 1) c4)).toArray) (g2 + 1) (.slice q4 (m + 1) c4) (es1 ++ [v])) := (ho4.block fun k e => setRow_other _ _ _ _ (by have := (ho4.lt k e).1; omega)).base hgs
        clear HT4 hd4 ho3 ho4 hb3 hb4 hr3 hg4 hH KS KQ
        go_wp2_with fail
        go_meet
        case rel => exact ⟨q4, c4, HSx.out, HCx.out, HOx.out, HDx.out, HODx.out⟩
      · refine wpOp_wp rfl rfl (op_bs1 (enc := evC) (k := 28) 57 62 40 _ Tryz.underlying57 infoEv ev0_sz (by omega) (by omega) evC_len (.tmp 81) rfl v rfl ⟨KS _ (hb1.trans ((below_alloc1 w1 _).mono hb1.size)), ?_⟩)
        simp only [Act.put, List.getElem_toArray, List.getElem_cons_zero, List.getElem_cons_succ, List.setIfInBounds_toArray, List.set_cons_zero, List.set_cons_succ]
        have hb2 := hb1.trans ((below_alloc1 w1 (.cells (evC v).toArray 62)).mono hb1.size)
        have ho2 := ho1.below (below_alloc1 w1 (.cells (evC v).toArray 62))
        refine oneH 3 (by kernel_rfl) (wpOp_wp rfl rfl (op_app (enc := evC) (k := 28) 57 62 40 _ Tryz.underlying57 infoEv ev0_sz (by omega) evC_len evC_one' (.tmp 77) (.tmp 79) rfl W9.heap.size v1 [] rfl ho2 q m c es1 rfl HN.out (KQ _ hb2) hq0 (by simp; omega) (by unfold maxLen; simp; omega) hb2.size (fun v2 w3 ho3 hg3 _ => ⟨KS _ (hb2.grown hg3 hb2.size (fun k e => (ho2.lt k e).1)), ?_⟩)))
        simp only [Act.put, List.getElem_toArray, List.getElem_cons_zero, List.getElem_cons_succ, List.setIfInBounds_toArray, List.set_cons_zero, List.set_cons_succ]
        have hb3 := hb2.grown hg3 hb2.size (fun k e => (ho2.lt k e).1)
        have hr3 : w3.heap[w1.heap.size]? = some (.cells (evC v).toArray 62 (0, 0)) := by
          obtain ⟨_, _, _, _, hblk⟩ := hg3
          exact (hblk _ (by simp) fun e => by have := (ho1.lt _ e.symm).2; omega).trans (heap_alloc_new _ _)
        clear ho1 ho2 hb1 hb2 hg1 hg3
        generalize w1.heap.size = b5 at *
        refine oneH 6 (by kernel_rfl) (wpOp_wp rfl rfl (op_app (enc := evC) (k := 28) 57 62 40 _ Tryz.underlying57 infoEv ev0_sz (by omega) evC_len evC_one' (.tmp 80) (.tmp 82) rfl W9.heap.size v2 ([] ++ es1) rfl ho3 (some ⟨b5, 0, none⟩) 1 1 [v] rfl rfl (slAt_blk hr3) (fun e => by cases e) (by rw [List.nil_append, HN.out]; omega) (by rw [List.nil_append, HN.out]; unfold maxLen; omega) hb3.size (fun v4 w4 ho4 hg4 _ => ⟨KS _ (hb3.grown hg4 hb3.size (fun k e => (ho3.lt k e).1)), ?_⟩)))
        have hb4 := hb3.grown hg4 hb3.size (fun k e => (ho3.lt k e).1)
        simp only [Act.put, List.getElem_toArray, List.getElem_cons_zero, List.getElem_cons_succ, List.setIfInBounds_toArray, List.set_cons_zero, List.set_cons_succ]
        refine oneH 7 (by kernel_rfl) (wpOp_val rfl rfl (exec_fRy (.tmp 12) 1 14 (by simp) rfl g2 0 rfl) ⟨KS _ hb4, ?_⟩)
        simp only [Act.put, List.getElem_toArray, List.getElem_cons_zero, List.getElem_cons_succ, List.setIfInBounds_toArray, List.set_cons_zero, List.set_cons_succ]
        obtain ⟨q4, c4, rfl⟩ := ho4.slice
        have hl4 : (([] ++ es1) ++ [v]).length = m + 1 := by rw [List.nil_append, List.length_append, HN.out]; rfl
        rw [hl4] at ho4 ⊢
        rw [List.nil_append] at ho4
        have hd4 : w4.heap[g2]? = some (.cells (ryC x1 (.slice q m c)).toArray 59 (0, 0)) := (hb4.block _ (by omega)).trans HG9.out
        have HT4 : Turn [g2] w4 (w4.setRow g2 (ryC x1 (.slice q4 (m + 1) c4)).toArray) := ⟨rfl, rfl, rfl, by simp, fun b _ hr => setRow_other _ _ _ _ (by simpa using hr)⟩
        have hg22 : w.heap.size + 2 < g2 := by omega
        refine oneH 8 (by kernel_rfl) (wpOp_skip rfl rfl (exec_st1E 57 sizEvs (.tmp 84) (.tmp 83) rfl g2 14 (.slice q4 (m + 1) c4) rfl rfl rfl (ryC x1 (.slice q m c)) (ryC x1 (.slice q4 (m + 1) c4)) 59 hd4 (by rw [ryC_len]; omega) (ryC_setE x1 _ _)) ⟨⟨(setRow_other _ _ _ _ (by omega)).trans (KS _ hb4).1, (setRow_other _ _ _ _ (by omega)).trans (KS _ hb4).2⟩, ?_⟩)
        simp only [Act.put, List.getElem_toArray, List.getElem_cons_zero, List.getElem_cons_succ, List.setIfInBounds_toArray, List.set_cons_zero, List.set_cons_succ]
        refine wpAnyH_done (by kernel_rfl) ?_ _
        try simp only [Act.put, List.getElem_toArray, List.getElem_cons_zero, List.getElem_cons_succ, List.setIfInBounds_toArray, List.set_cons_zero, List.set_cons_succ]
        have HSx := Lib.hid ((HS9.out.below hb4).turn HT4 hg22)
        have HCx : Hid ((w4.setRow g2 (ryC x1 (.slice q4 (m + 1) c4)).toArray).heap[g]? = some (.cells (ryC x1 (.slice q3 m c3)).toArray 59 (0, 0))) := (setRow_other _ _ _ _ (by omega)).trans ((hb4.block _ (by omega)).trans HC9.out)
        have HOx : Hid (OwnE evC 62 28 (w4.setRow g2 (ryC x1 (.slice q4 (m + 1) c4)).toArray) (g + 1) (.slice q3 m c3) (es1.set J v)) := (HO9.out.below hb4).block fun k e => setRow_other _ _ _ _ (by have := (HOl.out k e).2; omega)
        have HDx := Lib.hid (setRow_at (cs := (ryC x1 (.slice q4 (m + 1) c4)).toArray) hd4)
        have HODx : Hid (OwnE evC 62 28 (w4.setRow g2 (ryC x1 (.slice q4 (m + 1) c4)).toArray) (g2 + 1) (.slice q4 (m + 1) c4) (es1 ++ [v])) := (ho4.block fun k e => setRow_other _ _ _ _ (by have := (ho4.lt k e).1; omega)).base hgs
        clear HT4 hd4 ho3 ho4 hb3 hb4 hr3 hg4 hH KS KQ
        go_wp2_with fail
        go_meet
        case rel => exact ⟨q4, c4, HSx.out, HCx.out, HOx.out, HDx.out, HODx.out⟩
    · refine wpOp_wp rfl rfl (op_bs1 (enc := evC) (k := 28) 57 62 40 _ Tryz.underlying57 infoEv ev0_sz (by omega) (by omega) evC_len (.tmp 81) rfl v rfl ⟨KS _ (hbd.trans ((below_alloc1 W9.drew _).mono hbd.size)), ?_⟩)
      simp only [Act.put, List.getElem_toArray, List.getElem_cons_zero, List.getElem_cons_succ, List.setIfInBounds_toArray, List.set_cons_zero, List.set_cons_succ]
      have hb1 := hbd.trans ((below_alloc1 W9.drew (.cells (evC v).toArray 62)).mono hbd.size)
      have hr1 : (W9.drew.alloc (.cells (evC v).toArray 62)).heap[W9.drew.heap.size]? = some (.cells (evC v).toArray 62 (0, 0)) := heap_alloc_new _ _
      have hs1 : W9.drew.heap.size < (W9.drew.alloc (.cells (evC v).toArray 62)).heap.size := by simp
      generalize W9.drew.alloc (.cells (evC v).toArray 62) = w1 at *
      generalize W9.drew.heap.size = b5 at *
      refine oneH 0 (by kernel_rfl) (wpOp_wp rfl rfl (op_bs0 (enc := evC) (k := 28) 57 62 Tryz.underlying57 sizEv rfl W9.heap.size hb1.size (fun v1 w2 ho2 hg2 hown => ⟨KS _ (hb1.grown hg2 hb1.size (fun k e => by cases e)), ?_⟩)))
      have hb2 := hb1.grown hg2 hb1.size (fun k e => by cases e)
      have hr2 : w2.heap[b5]? = some (.cells (evC v).toArray 62 (0, 0)) := by
        obtain ⟨_, _, _, _, hblk⟩ := hg2
        exact (hblk _ hs1 (by simp)).trans hr1
      have hl2 := lt_heap hr2
      simp only [Act.put, List.getElem_toArray, List.getElem_cons_zero, List.getElem_cons_succ, List.setIfInBounds_toArray, List.set_cons_zero, List.set_cons_succ]
      refine oneH 3 (by kernel_rfl) (wpOp_wp rfl rfl (op_app (enc := evC) (k := 28) 57 62 40 _ Tryz.underlying57 infoEv ev0_sz (by omega) evC_len evC_one' (.tmp 77) (.tmp 79) rfl W9.heap.size v1 [] rfl ho2 q m c es1 rfl HN.out (KQ _ hb2) hq0 (by simp; omega) (by unfold maxLen; simp; omega) hb2.size (fun v2 w3 ho3 hg3 _ => ⟨KS _ (hb2.grown hg3 hb2.size (fun k e => (ho2.lt k e).1)), ?_⟩)))
      simp only [Act.put, List.getElem_toArray, List.getElem_cons_zero, List.getElem_cons_succ, List.setIfInBounds_toArray, List.set_cons_zero, List.set_cons_succ]
      have hb3 := hb2.grown hg3 hb2.size (fun k e => (ho2.lt k e).1)
      have hr3 : w3.heap[b5]? = some (.cells (evC v).toArray 62 (0, 0)) := by
        obtain ⟨_, _, _, _, hblk⟩ := hg3
        exact (hblk _ hl2 fun e => by rw [hown] at e; simp only [Option.some.injEq] at e; omega).trans hr2
      clear ho2 hb1 hb2 hg2 hg3 hr1 hr2 hown hl2 hs1
      refine oneH 6 (by kernel_rfl) (wpOp_wp rfl rfl (op_app (enc := evC) (k := 28) 57 62 40 _ Tryz.underlying57 infoEv ev0_sz (by omega) evC_len evC_one' (.tmp 80) (.tmp 82) rfl W9.heap.size v2 ([] ++ es1) rfl ho3 (some ⟨b5, 0, none⟩) 1 1 [v] rfl rfl (slAt_blk hr3) (fun e => by cases e) (by rw [List.nil_append, HN.out]; omega) (by rw [List.nil_append, HN.out]; unfold maxLen; omega) hb3.size (fun v4 w4 ho4 hg4 _ => ⟨KS _ (hb3.grown hg4 hb3.size (fun k e => (ho3.lt k e).1)), ?_⟩)))
      have hb4 := hb3.grown hg4 hb3.size (fun k e => (ho3.lt k e).1)
      simp only [Act.put, List.getElem_toArray, List.getElem_cons_zero, List.getElem_cons_succ, List.setIfInBounds_toArray, List.set_cons_zero, List.set_cons_succ]
      refine oneH 7 (by kernel_rfl) (wpOp_val rfl rfl (exec_fRy (.tmp 12) 1 14 (by simp) rfl g2 0 rfl) ⟨KS _ hb4, ?_⟩)
      simp only [Act.put, List.getElem_toArray, List.getElem_cons_zero, List.getElem_cons_succ, List.setIfInBounds_toArray, List.set_cons_zero, List.set_cons_succ]
      obtain ⟨q4, c4, rfl⟩ := ho4.slice
      have hl4 : (([] ++ es1) ++ [v]).length = m + 1 := by rw [List.nil_append, List.length_append, HN.out]; rfl
      rw [hl4] at ho4 ⊢
      rw [List.nil_append] at ho4
      have hd4 : w4.heap[g2]? = some (.cells (ryC x1 (.slice q m c)).toArray 59 (0, 0)) := (hb4.block _ (by omega)).trans HG9.out
      have HT4 : Turn [g2] w4 (w4.setRow g2 (ryC x1 (.slice q4 (m + 1) c4)).toArray) := ⟨rfl, rfl, rfl, by simp, fun b _ hr => setRow_other _ _ _ _ (by simpa using hr)⟩
      have hg22 : w.heap.size + 2 < g2 := by omega
      refine oneH 8 (by kernel_rfl) (wpOp_skip rfl rfl (exec_st1E 57 sizEvs (.tmp 84) (.tmp 83) rfl g2 14 (.slice q4 (m + 1) c4) rfl rfl rfl (ryC x1 (.slice q m c)) (ryC x1 (.slice q4 (m + 1) c4)) 59 hd4 (by rw [ryC_len]; omega) (ryC_setE x1 _ _)) ⟨⟨(setRow_other _ _ _ _ (by omega)).trans (KS _ hb4).1, (setRow_other _ _ _ _ (by omega)).trans (KS _ hb4).2⟩, ?_⟩)
      simp only [Act.put, List.getElem_toArray, List.getElem_cons_zero, List.getElem_cons_succ, List.setIfInBounds_toArray, List.set_cons_zero, List.set_cons_succ]
      refine wpAnyH_done (by kernel_rfl) ?_ _
      try simp only [Act.put, List.getElem_toArray, List.getElem_cons_zero, List.getElem_cons_succ, List.setIfInBounds_toArray, List.set_cons_zero, List.set_cons_succ]
      have HSx := Lib.hid ((HS9.out.below hb4).turn HT4 hg22)
      have HCx : Hid ((w4.setRow g2 (ryC x1 (.slice q4 (m + 1) c4)).toArray).heap[g]? = some (.cells (ryC x1 (.slice q3 m c3)).toArray 59 (0, 0))) := (setRow_other _ _ _ _ (by omega)).trans ((hb4.block _ (by omega)).trans HC9.out)
      have HOx : Hid (OwnE evC 62 28 (w4.setRow g2 (ryC x1 (.slice q4 (m + 1) c4)).toArray) (g + 1) (.slice q3 m c3) (es1.set J v)) := (HO9.out.below hb4).block fun k e => setRow_other _ _ _ _ (by have := (HOl.out k e).2; omega)
      have HDx := Lib.hid (setRow_at (cs := (ryC x1 (.slice q4 (m + 1) c4)).toArray) hd4)
      have HODx : Hid (OwnE evC 62 28 (w4.setRow g2 (ryC x1 (.slice q4 (m + 1) c4)).toArray) (g2 + 1) (.slice q4 (m + 1) c4) (es1 ++ [v])) := (ho4.block fun k e => setRow_other _ _ _ _ (by have := (ho4.lt k e).1; omega)).base hgs
      clear HT4 hd4 ho3 ho4 hb3 hb4 hr3 hg4 hH KS KQ
      go_wp2_with fail
      go_meet
      case rel => exact ⟨q4, c4, HSx.out, HCx.out, HOx.out, HDx.out, HODx.out⟩
  case rest =>
  obtain ⟨q4, c4, HS10, HG10, HO10, HD10, HOD10⟩ := hcut
  clear HS9 HC9 HO9 HG9 HZ9 HOl hgl
  generalize wc = W10 at *
  clear W9
  have hecl : (es1.set J v).length = m := by rw [List.length_set]; exact HN.out
  have HEl := Lib.hid hecl
  clear hecl HJ
  generalize es1.set J v = ec at *
  obtain ⟨zT, HZT⟩ : ∃ z : Bool, Hid (z = !(allE es1 ec)) := ⟨_, rfl⟩
  have HZ1 : Hid ((∀ j (h : j < ec.length) (h' : j < es1.length), j < m → eqE ec[j] es1[j] = true) → zT = false) := fun h => by
    rw [HZT.out, (allE_iff es1 ec (by rw [HN.out, HEl.out])).2 fun j hj hj' => by rw [eqE_symm]; exact h j hj' hj (by rw [← HN.out]; exact hj)]
    rfl
  have HZ2 : Hid ((∃ j, ∃ (h : j < ec.length) (h' : j < es1.length), eqE ec[j] es1[j] = false) → zT = true) := by
    rintro ⟨j, h, h', h1⟩
    rw [HZT.out]
    cases ha : allE es1 ec with
    | false => rfl
    | true =>
      have := (allE_iff es1 ec (by rw [HN.out, HEl.out])).1 ha j h' h
      rw [eqE_symm, h1] at this; cases this
  have HLa := Lib.hid (lt_heap HS10.out.a)
  have HLg := Lib.hid (lt_heap HG10.out)
  have sa : W10.cell? ⟨w.heap.size, 14, none⟩ = some (.slice q m c) := by rw [cell_blk HS10.out.a, List.getElem?_toArray]; exact ryC_sl _ _
  have sg : W10.cell? ⟨g, 14, none⟩ = some (.slice q3 m c3) := by rw [cell_blk HG10.out, List.getElem?_toArray]; exact ryC_sl _ _
  have HQa := Lib.hid (HQ.out.below HS10.out.bel)
  have HQg := Lib.hid (HO10.out.slat evC_len)
  go_upto_block 2 with fail
  go_cut [13, 14] (fun s13 s14 wx => s13 = .bool zT ∧ (∃ u : Value, s14 = u) ∧ Hid (Below W10.heap.size W10 wx))
  case first => as_aux_lemma =>
    go_wp2_with fail
    go_loopw [13, 14] (fun s13 s14 wr => ∃ (b : Bool) (k : Nat), k ≤ m ∧ s13 = .bool b ∧ s14 = .int .i64 (k : Int) ∧ Hid (Below W10.heap.size W10 wr) ∧ Hid (b = false → ∀ j (h : j < ec.length) (h' : j < es1.length), j < k → eqE ec[j] es1[j] = true) ∧ Hid (b = true → zT = true)) (fun _ s14 _ => m - (intOf s14).toNat)
    case atStart => exact ⟨false, 0, Nat.zero_le _, rfl, rfl, Below.refl _ _, (fun _ j _ _ h => absurd h (Nat.not_lt_zero _)), (fun h => by cases h)⟩
    case round =>
      obtain ⟨b, k, hk, rfl, rfl, HBr, HF, HT⟩ := hrel
      have t0 : wr.cell? ⟨g, 14, none⟩ = some (.slice q3 m c3) := (cell_of (HBr.out.block _ HLg.out) 14).trans sg
      have t1 : wr.cell? ⟨w.heap.size, 14, none⟩ = some (.slice q m c) := (cell_of (HBr.out.block _ HLa.out) 14).trans sa
      by_cases hlt : k < m
      · have hlt' : (k : Int) < (m : Int) := by omega
        have HBd : Hid (Below W10.heap.size W10 wr.drew) := HBr.out.drew
        cases b
        · have HAll := Lib.hid (HF.out rfl)
          clear HF HT
          obtain ⟨b0, o0, hq3, hb0, hr0⟩ := (HQg.out.below HBr.out) k (by rw [HEl.out]; exact hlt)
          obtain ⟨b1, o1, hq1, hb1, hr1⟩ := (HQa.out.below HBr.out) k (by rw [HN.out]; exact hlt)
          have HR0r := Lib.hid hr0
          have HR1r := Lib.hid hr1
          rw [hq3] at t0
          rw [hq1] at t1
          have hle : k < ec.length := by rw [HEl.out]; exact hlt
          have hlf : k < es1.length := by rw [HN.out]; exact hlt
          have HF2 : Hid ((!eqE ec[k] es1[k]) = false → ∀ j (h : j < ec.length) (h' : j < es1.length), j < k + 1 → eqE ec[j] es1[j] = true) := fun he j h h' hj => by
            rcases Nat.lt_or_eq_of_le (Nat.le_of_lt_succ hj) with h1 | rfl
            · exact HAll.out j h h' h1
            · simpa using he
          have HFn : Hid ((!eqE ec[k] es1[k]) = true → zT = true) := fun he => HZ2.out ⟨k, hle, hlf, by simpa using he⟩
          clear hr0 hr1 hb0 hb1 HAll hq3 hq1
          generalize ec[k] = e0 at *
          generalize es1[k] = f0 at *
          go_upto_region 17 with fail
          have hS : wr.drew.heap[w.heap.size]? = wr.heap[w.heap.size]? ∧ wr.drew.heap[g]? = wr.heap[g]? ∧ wr.drew.rangeAt b0 (o0 + k * 28) (evC e0) ∧ wr.drew.rangeAt b1 (o1 + k * 28) (evC f0) := ⟨rfl, rfl, HR0r.out, HR1r.out⟩
          refine wp_region_held_drew (S := fun W => W.heap[w.heap.size]? = wr.heap[w.heap.size]? ∧ W.heap[g]? = wr.heap[g]? ∧ W.rangeAt b0 (o0 + k * 28) (evC e0) ∧ W.rangeAt b1 (o1 + k * 28) (evC f0)) (by kernel_rfl) hS (fun hH => ?_)
          show wpAnyH Tryz.prog Region.Mode.any _ _ _ 15 #[false, false, false, false, false, false, false, false, false, false, false, false, false, false, false] _ _
          refine takeR (i := 0) (v := .bool false) 92 rfl rfl (by kernel_rfl) (by kernel_rfl) (by kernel_rfl) (fun _ _ _ h => h) (Or.inl ⟨rfl, fun w' hS => exec_mvT (.tmp 13) rfl _ rfl⟩) hH ?_
          simp only [Act.put, List.setIfInBounds_toArray, List.set_cons_zero, List.set_cons_succ]
          refine takeR (i := 1) (v := .bool false) 93 rfl rfl (by kernel_rfl) (by kernel_rfl) (by kernel_rfl) (fun _ _ _ h => h) (Or.inl ⟨rfl, fun w' hS => exec_mvT (.tmp 92) rfl _ rfl⟩) hH ?_
          simp only [Act.put, List.setIfInBounds_toArray, List.set_cons_zero, List.set_cons_succ]
          refine takeR (i := 2) (v := .pointer (some ⟨g, 14, none⟩)) 94 rfl rfl (by kernel_rfl) (by kernel_rfl) (by kernel_rfl) (fun _ _ _ h => h) (Or.inl ⟨rfl, fun w' hS => exec_fRy (.tmp 11) 1 14 (by simp) rfl g 0 rfl⟩) hH ?_
          simp only [Act.put, List.setIfInBounds_toArray, List.set_cons_zero, List.set_cons_succ]
          refine takeR (i := 3) (v := .slice (some ⟨b0, o0, none⟩) m c3) 95 rfl rfl (by kernel_rfl) (by kernel_rfl) (by kernel_rfl) (fun _ _ _ h => h) (Or.inl ⟨rfl, fun w' hS => exec_ld1G 57 agEvs _ rfl g 14 _ rfl ((cell_of hS.2.1 14).trans t0)⟩) hH ?_
          simp only [Act.put, List.setIfInBounds_toArray, List.set_cons_zero, List.set_cons_succ]
          refine takeR (i := 4) (v := .int .i64 (k : Int)) 96 rfl rfl (by kernel_rfl) (by kernel_rfl) (by kernel_rfl) (fun _ _ _ h => h) (Or.inl ⟨rfl, fun w' hS => exec_mvT (.tmp 14) rfl _ rfl⟩) hH ?_
          simp only [Act.put, List.setIfInBounds_toArray, List.set_cons_zero, List.set_cons_succ]
          refine takeR (i := 5) (v := .pointer (some ⟨b0, o0 + k * 28, none⟩)) 97 rfl rfl (by kernel_rfl) (by kernel_rfl) (by kernel_rfl) (fun _ _ _ h => h) (Or.inl ⟨rfl, fun w' hS => exec_ixE (.tmp 95) (.tmp 96) rfl b0 o0 m _ k rfl rfl hlt⟩) hH ?_
          simp only [Act.put, List.setIfInBounds_toArray, List.set_cons_zero, List.set_cons_succ]
          refine takeR (i := 6) (v := .agg (evC e0).toArray) 98 rfl rfl (by kernel_rfl) (by kernel_rfl) (by kernel_rfl) (fun _ _ _ h => h) (Or.inl ⟨rfl, fun w' hS => exec_ldr 62 (.tmp 97) rfl b0 (o0 + k * 28) (evC e0) _ Tryz.underlying62 rfl (by rw [sizEv, evC_len]) rfl hS.2.2.1⟩) hH ?_
          simp only [Act.put, List.setIfInBounds_toArray, List.set_cons_zero, List.set_cons_succ]
          refine takeR (i := 7) (v := .pointer (some ⟨w.heap.size, 14, none⟩)) 99 rfl rfl (by kernel_rfl) (by kernel_rfl) (by kernel_rfl) (fun _ _ _ h => h) (Or.inl ⟨rfl, fun w' hS => exec_fRy (.tmp 4) 1 14 (by simp) rfl w.heap.size 0 rfl⟩) hH ?_
          simp only [Act.put, List.setIfInBounds_toArray, List.set_cons_zero, List.set_cons_succ]
          refine takeR (i := 8) (v := .slice (some ⟨b1, o1, none⟩) m c) 100 rfl rfl (by kernel_rfl) (by kernel_rfl) (by kernel_rfl) (fun _ _ _ h => h) (Or.inl ⟨rfl, fun w' hS => exec_ld1G 57 agEvs _ rfl w.heap.size 14 _ rfl ((cell_of hS.1 14).trans t1)⟩) hH ?_
          simp only [Act.put, List.setIfInBounds_toArray, List.set_cons_zero, List.set_cons_succ]
          refine takeR (i := 9) (v := .int .i64 (k : Int)) 101 rfl rfl (by kernel_rfl) (by kernel_rfl) (by kernel_rfl) (fun _ _ _ h => h) (Or.inl ⟨rfl, fun w' hS => exec_mvT (.tmp 14) rfl _ rfl⟩) hH ?_
          simp only [Act.put, List.setIfInBounds_toArray, List.set_cons_zero, List.set_cons_succ]
          refine takeR (i := 10) (v := .pointer (some ⟨b1, o1 + k * 28, none⟩)) 102 rfl rfl (by kernel_rfl) (by kernel_rfl) (by kernel_rfl) (fun _ _ _ h => h) (Or.inl ⟨rfl, fun w' hS => exec_ixE (.tmp 100) (.tmp 101) rfl b1 o1 m _ k rfl rfl hlt⟩) hH ?_
          simp only [Act.put, List.setIfInBounds_toArray, List.set_cons_zero, List.set_cons_succ]
          refine takeR (i := 11) (v := .agg (evC f0).toArray) 103 rfl rfl (by kernel_rfl) (by kernel_rfl) (by kernel_rfl) (fun _ _ _ h => h) (Or.inl ⟨rfl, fun w' hS => exec_ldr 62 (.tmp 102) rfl b1 (o1 + k * 28) (evC f0) _ Tryz.underlying62 rfl (by rw [sizEv, evC_len]) rfl hS.2.2.2⟩) hH ?_
          simp only [Act.put, List.setIfInBounds_toArray, List.set_cons_zero, List.set_cons_succ]
          refine takeR (i := 12) (v := .bool (!eqE e0 f0)) 104 rfl rfl (by kernel_rfl) (by kernel_rfl) (by kernel_rfl) (fun _ _ _ h => h) (Or.inl ⟨rfl, fun w' hS => exec_neqG _ 62 (.tmp 98) (.tmp 103) rfl (evC e0).toArray (evC f0).toArray _ rfl rfl (run_eqGuard_agg _ .neq 62 _ _ _ _ (by kernel_rfl)) (neqEv _ _ _)⟩) hH ?_
          simp only [Act.put, List.setIfInBounds_toArray, List.set_cons_zero, List.set_cons_succ]
          refine takeR (i := 13) (v := .bool (!eqE e0 f0)) 105 rfl rfl (by kernel_rfl) (by kernel_rfl) (by kernel_rfl) (fun _ _ _ h => h) (Or.inl ⟨rfl, fun w' hS => exec_pkF (.tmp 93) (.const (.bool true)) (.tmp 104) rfl _ rfl rfl⟩) hH ?_
          simp only [Act.put, List.setIfInBounds_toArray, List.set_cons_zero, List.set_cons_succ]
          refine takeR (i := 14) (v := .bool (!eqE e0 f0)) 13 rfl rfl (by kernel_rfl) (by kernel_rfl) (by kernel_rfl) (fun _ _ _ h => h) (Or.inl ⟨rfl, fun w' hS => exec_asT (.tmp 105) rfl _ rfl⟩) hH ?_
          simp only [Act.put, List.setIfInBounds_toArray, List.set_cons_zero, List.set_cons_succ]
          refine wpAnyH_done (by kernel_rfl) ?_ _
          try simp only [Act.put, List.getElem_toArray, List.getElem_cons_zero, List.getElem_cons_succ, List.setIfInBounds_toArray, List.set_cons_zero, List.set_cons_succ]
          generalize hee : (!eqE e0 f0) = be at *
          have HEE := Lib.hid hee
          clear hee hS hH t0 t1
          go_wp2_with fail
          go_roundw
          case rel => exact ⟨be, k + 1, by omega, rfl, by simp, HBd.out, (fun h => HF2.out h), (fun h => HFn.out h)⟩
          case measure => simp [intOf]; omega
        · have HE := Lib.hid (HT.out rfl)
          clear HF HT
          go_upto_region 17 with fail
          refine wp_region_held_drew (S := fun _ => True) (by kernel_rfl) trivial (fun hH => ?_)
          show wpAnyH Tryz.prog Region.Mode.any _ _ _ 15 #[false, false, false, false, false, false, false, false, false, false, false, false, false, false, false] _ _
          refine takeR (i := 0) (v := .bool true) 92 rfl rfl (by kernel_rfl) (by kernel_rfl) (by kernel_rfl) (fun _ _ _ h => h) (Or.inl ⟨rfl, fun w' hS => exec_mvT (.tmp 13) rfl _ rfl⟩) hH ?_
          simp only [Act.put, List.setIfInBounds_toArray, List.set_cons_zero, List.set_cons_succ]
          refine takeR (i := 1) (v := .bool true) 93 rfl rfl (by kernel_rfl) (by kernel_rfl) (by kernel_rfl) (fun _ _ _ h => h) (Or.inl ⟨rfl, fun w' hS => exec_mvT (.tmp 92) rfl _ rfl⟩) hH ?_
          simp only [Act.put, List.setIfInBounds_toArray, List.set_cons_zero, List.set_cons_succ]
          refine takeR (i := 2) (v := undef) 94 rfl rfl (by kernel_rfl) (by kernel_rfl) (by kernel_rfl) (fun _ _ _ h => h) (Or.inr ⟨rfl, rfl⟩) hH ?_
          simp only [Act.put, List.setIfInBounds_toArray, List.set_cons_zero, List.set_cons_succ]
          refine takeR (i := 3) (v := undef) 95 rfl rfl (by kernel_rfl) (by kernel_rfl) (by kernel_rfl) (fun _ _ _ h => h) (Or.inr ⟨rfl, rfl⟩) hH ?_
          simp only [Act.put, List.setIfInBounds_toArray, List.set_cons_zero, List.set_cons_succ]
          refine takeR (i := 4) (v := undef) 96 rfl rfl (by kernel_rfl) (by kernel_rfl) (by kernel_rfl) (fun _ _ _ h => h) (Or.inr ⟨rfl, rfl⟩) hH ?_
          simp only [Act.put, List.setIfInBounds_toArray, List.set_cons_zero, List.set_cons_succ]
          refine takeR (i := 5) (v := undef) 97 rfl rfl (by kernel_rfl) (by kernel_rfl) (by kernel_rfl) (fun _ _ _ h => h) (Or.inr ⟨rfl, rfl⟩) hH ?_
          simp only [Act.put, List.setIfInBounds_toArray, List.set_cons_zero, List.set_cons_succ]
          refine takeR (i := 6) (v := undef) 98 rfl rfl (by kernel_rfl) (by kernel_rfl) (by kernel_rfl) (fun _ _ _ h => h) (Or.inr ⟨rfl, rfl⟩) hH ?_
          simp only [Act.put, List.setIfInBounds_toArray, List.set_cons_zero, List.set_cons_succ]
          refine takeR (i := 7) (v := undef) 99 rfl rfl (by kernel_rfl) (by kernel_rfl) (by kernel_rfl) (fun _ _ _ h => h) (Or.inr ⟨rfl, rfl⟩) hH ?_
          simp only [Act.put, List.setIfInBounds_toArray, List.set_cons_zero, List.set_cons_succ]
          refine takeR (i := 8) (v := undef) 100 rfl rfl (by kernel_rfl) (by kernel_rfl) (by kernel_rfl) (fun _ _ _ h => h) (Or.inr ⟨rfl, rfl⟩) hH ?_
          simp only [Act.put, List.setIfInBounds_toArray, List.set_cons_zero, List.set_cons_succ]
          refine takeR (i := 9) (v := undef) 101 rfl rfl (by kernel_rfl) (by kernel_rfl) (by kernel_rfl) (fun _ _ _ h => h) (Or.inr ⟨rfl, rfl⟩) hH ?_
          simp only [Act.put, List.setIfInBounds_toArray, List.set_cons_zero, List.set_cons_succ]
          refine takeR (i := 10) (v := undef) 102 rfl rfl (by kernel_rfl) (by kernel_rfl) (by kernel_rfl) (fun _ _ _ h => h) (Or.inr ⟨rfl, rfl⟩) hH ?_
          simp only [Act.put, List.setIfInBounds_toArray, List.set_cons_zero, List.set_cons_succ]
          refine takeR (i := 11) (v := undef) 103 rfl rfl (by kernel_rfl) (by kernel_rfl) (by kernel_rfl) (fun _ _ _ h => h) (Or.inr ⟨rfl, rfl⟩) hH ?_
          simp only [Act.put, List.setIfInBounds_toArray, List.set_cons_zero, List.set_cons_succ]
          refine takeR (i := 12) (v := undef) 104 rfl rfl (by kernel_rfl) (by kernel_rfl) (by kernel_rfl) (fun _ _ _ h => h) (Or.inr ⟨rfl, rfl⟩) hH ?_
          simp only [Act.put, List.setIfInBounds_toArray, List.set_cons_zero, List.set_cons_succ]
          refine takeR (i := 13) (v := .bool true) 105 rfl rfl (by kernel_rfl) (by kernel_rfl) (by kernel_rfl) (fun _ _ _ h => h) (Or.inl ⟨rfl, fun w' hS => exec_pkT (.tmp 93) (.const (.bool true)) (.tmp 104) rfl _ rfl rfl⟩) hH ?_
          simp only [Act.put, List.setIfInBounds_toArray, List.set_cons_zero, List.set_cons_succ]
          refine takeR (i := 14) (v := .bool true) 13 rfl rfl (by kernel_rfl) (by kernel_rfl) (by kernel_rfl) (fun _ _ _ h => h) (Or.inl ⟨rfl, fun w' hS => exec_asT (.tmp 105) rfl _ rfl⟩) hH ?_
          simp only [Act.put, List.setIfInBounds_toArray, List.set_cons_zero, List.set_cons_succ]
          refine wpAnyH_done (by kernel_rfl) ?_ _
          try simp only [Act.put, List.getElem_toArray, List.getElem_cons_zero, List.getElem_cons_succ, List.setIfInBounds_toArray, List.set_cons_zero, List.set_cons_succ]
          clear hH t0 t1
          go_wp2_with fail
          go_roundw
          case rel => exact ⟨true, k + 1, by omega, rfl, by simp, HBd.out, (fun h => by cases h), (fun _ => HE.out)⟩
          case measure => simp [intOf]; omega
      · obtain rfl : k = m := by omega
        have HE : Hid (b = zT) := by
          cases b
          · exact (HZ1.out (HF.out rfl)).symm
          · exact (HT.out rfl).symm
        clear HF HT
        go_wp2_with fail
        go_meet
        case rel => exact ⟨by rw [HE.out], ⟨_, rfl⟩, HBr.out⟩
  case rest =>
  obtain ⟨rfl, ⟨u14', rfl⟩, HB11⟩ := hcut
  have HS11 := Lib.hid (HS10.out.below HB11.out)
  have HG11 := Lib.hid ((HB11.out.block _ (lt_heap HG10.out)).trans HG10.out)
  have HD11 := Lib.hid ((HB11.out.block _ (lt_heap HD10.out)).trans HD10.out)
  have HO11 := Lib.hid (HO10.out.below HB11.out)
  have HOD11 := Lib.hid (HOD10.out.below HB11.out)
  clear HS10 HG10 HD10 HO10 HOD10 HB11 sa sg HLa HLg HQa HQg HZ1 HZ2
  generalize wc = W11 at *
  clear W10
  have K1 : Hid (∀ W, Below W11.heap.size W11 W → Calls Tryz.prog 14 #[.agg (ryC x1 (.slice q m c)).toArray, .agg (ryC y1 (.slice q' m' c')).toArray] W fun e w' => e = .returned (.bool zS) ∧ Below W.heap.size W w') := fun W hW => by
    rw [HZS.out]
    exact same_any x1 y1 q q' c c' m m' es1 fs1 W HN.out HN'.out (HQ.out.below (HS11.out.below hW).bel) (HQ'.out.below (HS11.out.below hW).bel) (by omega)
  have K2 : Hid (∀ W, Below W11.heap.size W11 W → Calls Tryz.prog 14 #[.agg (ryC x1 (.slice q m c)).toArray, .agg (ryC x1 (.slice q m c)).toArray] W fun e w' => e = .returned (.bool true) ∧ Below W.heap.size W w') := fun W hW => by
    have := same_any x1 x1 q q c c m m es1 es1 W HN.out HN.out (HQ.out.below (HS11.out.below hW).bel) (HQ.out.below (HS11.out.below hW).bel) (by omega)
    rwa [show sameB x1 x1 es1 es1 = true from by unfold sameB; rw [eqR_self, (allE_iff es1 es1 rfl).2 fun k _ _ => eqE_self _]; simp] at this
  have K3 : Hid (∀ W, Below W11.heap.size W11 W → Calls Tryz.prog 14 #[.agg (ryC x1 (.slice q m c)).toArray, .agg (ryC x1 (.slice q3 m c3)).toArray] W fun e w' => e = .returned (.bool (!zT)) ∧ Below W.heap.size W w') := fun W hW => by
    have := same_any x1 x1 q q3 c c3 m m es1 ec W HN.out HEl.out (HQ.out.below (HS11.out.below hW).bel) ((HO11.out.below hW).slat evC_len) (by omega)
    rwa [show sameB x1 x1 es1 ec = !zT from by unfold sameB; rw [eqR_self, HZT.out, HN.out, HEl.out]; simp] at this
  have K4 : Hid (∀ W, Below W11.heap.size W11 W → Calls Tryz.prog 14 #[.agg (ryC x1 (.slice q m c)).toArray, .agg (ryC x1 (.slice q4 (m + 1) c4)).toArray] W fun e w' => e = .returned (.bool false) ∧ Below W.heap.size W w') := fun W hW => by
    have := same_any x1 x1 q q4 c c4 m (m + 1) es1 (es1 ++ [v]) W HN.out (by rw [List.length_append, HN.out]; rfl) (HQ.out.below (HS11.out.below hW).bel) ((HOD11.out.below hW).slat evC_len) (by omega)
    rwa [show sameB x1 x1 es1 (es1 ++ [v]) = false from by unfold sameB; rw [eqR_self]; simp] at this
  have KK := Lib.hid (known26_any W11 (HMX.out.below HS11.out.bel))
  have HKa : Hid (∀ W, Below W11.heap.size W11 W → W.rangeAt w.heap.size 0 (ryC x1 (.slice q m c))) := fun W hW => range_whole ((hW.block _ (lt_heap HS11.out.a)).trans HS11.out.a)
  have HKb : Hid (∀ W, Below W11.heap.size W11 W → W.rangeAt (w.heap.size + 1) 0 (ryC y1 (.slice q' m' c'))) := fun W hW => range_whole ((hW.block _ (lt_heap HS11.out.b)).trans HS11.out.b)
  have HKc : Hid (∀ W, Below W11.heap.size W11 W → W.rangeAt g 0 (ryC x1 (.slice q3 m c3))) := fun W hW => range_whole ((hW.block _ (lt_heap HG11.out)).trans HG11.out)
  have HKd : Hid (∀ W, Below W11.heap.size W11 W → W.rangeAt g2 0 (ryC x1 (.slice q4 (m + 1) c4))) := fun W hW => range_whole ((hW.block _ (lt_heap HD11.out)).trans HD11.out)
  have HBw := Lib.hid HS11.out.bel
  clear HS11 HG11 HD11 HO11 HOD11 HZS HZT HQ HQ' HN HN' HEl HMX hq0
  go_wp2_with (first
    | (go_at_call 10; (refine KK.out.mono ?_); rintro e W12 ⟨rfl, hb⟩; have HB12 := Lib.hid hb; clear hb)
    | (go_at_call 14; (with_reducible refine (K1.out _ HB12.out).mono ?_); rintro e W13 ⟨rfl, hb⟩; have HB13 := Lib.hid (HB12.out.trans (hb.mono HB12.out.size)); clear hb)
    | (go_at_call 14; (with_reducible refine (K2.out _ HB13.out).mono ?_); rintro e W14 ⟨rfl, hb⟩; have HB14 := Lib.hid (HB13.out.trans (hb.mono HB13.out.size)); clear hb)
    | (go_at_call 14; (with_reducible refine (K3.out _ HB14.out).mono ?_); rintro e W15 ⟨rfl, hb⟩; have HB15 := Lib.hid (HB14.out.trans (hb.mono HB14.out.size)); clear hb)
    | (go_at_call 14; (with_reducible refine (K4.out _ HB15.out).mono ?_); rintro e W16 ⟨rfl, hb⟩; have HB16 := Lib.hid (HB15.out.trans (hb.mono HB15.out.size)); clear hb)
    | ((with_reducible refine gate_ld 59 (.tmp 4) rfl ?_); refine wl_ldr rfl 59 _ rfl w.heap.size 0 (ryC x1 (.slice q m c)) _ Tryz.underlying59 rfl (by rw [sizRy, ryC_len]) rfl (by first | exact HKa.out _ HB12.out | exact HKa.out _ HB13.out | exact HKa.out _ HB14.out | exact HKa.out _ HB15.out) ?_)
    | ((with_reducible refine gate_ld 59 (.tmp 5) rfl ?_); refine wl_ldr rfl 59 _ rfl (w.heap.size + 1) 0 (ryC y1 (.slice q' m' c')) _ Tryz.underlying59 rfl (by rw [sizRy, ryC_len]) rfl (by first | exact HKb.out _ HB12.out | exact HKb.out _ HB13.out | exact HKb.out _ HB14.out | exact HKb.out _ HB15.out) ?_)
    | ((with_reducible refine gate_ld 59 (.tmp 11) rfl ?_); refine wl_ldr rfl 59 _ rfl g 0 (ryC x1 (.slice q3 m c3)) _ Tryz.underlying59 rfl (by rw [sizRy, ryC_len]) rfl (by first | exact HKc.out _ HB12.out | exact HKc.out _ HB13.out | exact HKc.out _ HB14.out | exact HKc.out _ HB15.out) ?_)
    | ((with_reducible refine gate_ld 59 (.tmp 12) rfl ?_); refine wl_ldr rfl 59 _ rfl g2 0 (ryC x1 (.slice q4 (m + 1) c4)) _ Tryz.underlying59 rfl (by rw [sizRy, ryC_len]) rfl (by first | exact HKd.out _ HB12.out | exact HKd.out _ HB13.out | exact HKd.out _ HB14.out | exact HKd.out _ HB15.out) ?_))
  go_ret
  exact ⟨rfl, HBw.out.trans (HB16.out.mono HBw.out.size)⟩
end Go.Proofs.YtbfefdedjcppaaaGreatDoor
