/- PROVED: for every slice of acts the law NameSets returns true and leaves its argument as it was. No condition. -/
import Derived.Test.YtbflliiaigkmgaaN8
import Derived.Test.YtbflliiaigkmgaaL3
import Derived.Test.YtbflliiaigkmgaaL4
namespace Go.Proofs.Ytbflliiaigkmgaa
open Go.ChangeShapes Go.WideShapes Go.ChangeAt Go.RowKit Go.Deep

def stpL (out : Bool) (ks ns : List (List UInt8)) : List (List UInt8) := ns.foldl (stp out) ks
theorem stpL_snoc (out : Bool) (ks ns : List (List UInt8)) (k : Nat) (h : k < ns.length) : stpL out ks (ns.take (k + 1)) = stp out (stpL out ks (ns.take k)) ns[k] := by
  rw [stpL, List.take_succ_eq_append_getElem h, List.foldl_append]; rfl
theorem KsOk.stpL {out : Bool} : ∀ {ns ks : List (List UInt8)}, KsOk ks → (∀ n ∈ ns, n.length = 12) → KsOk (stpL out ks ns)
  | [], _, h, _ => h
  | n :: ns, ks, h, h12 => KsOk.stpL (ns := ns) (h.stp out n (h12 n (by simp))) fun m hm => h12 m (by simp [hm])
theorem Own.slice {w : World} {base : Nat} {E : TypeId} {v : Value} {ns : List (List UInt8)} (h : Own w base E v ns) : ∃ p cap, v = .slice p ns.length cap := by
  obtain ⟨_, ⟨rfl, h2⟩ | ⟨g, cap, cur, rfl, _⟩⟩ := h
  · exact ⟨none, 0, by rw [h2]⟩
  · exact ⟨_, _, rfl⟩

theorem list_post (sp : Nat) (o : Option Nat) (ks : List (List UInt8)) (w : World) (hs : SetAt w sp o ks) (hk : KsOk ks) (L : Nat) (hL : (insAll ks).length = L) :
    Calls Try.prog 27 #[.pointer (some ⟨sp, 0, none⟩)] w (SortPost (insAll ks) L w) := (list_any sp o ks w hs hk.l64).mono fun e w' ⟨hb, v', he, ho⟩ => by
  obtain ⟨p, cap, rfl, h⟩ := ho.rows.rowP (all12_perm (insAll_perm _) hk.l12) L hL
  exact ⟨hb, p, cap, he, h⟩
theorem ld22w {ops : Array Oper} {rest : List Oper} {o : Oper} {a : Act} {w : World} {Q : Exit → Act → World → Prop} (hw : Region.wanted o (yielded ops a.tmps) = true) (x : Operand) (ho : o.op = .load 22 x)
    (g : Nat) (n : List UInt8) (fr : Nat × Nat) (hx : a.eval x = .pointer (some ⟨g, 0, none⟩)) (hn : n.length = 12) (hg : w.heap[g]? = some (.cells (bC n) 22 fr))
    (h : wpList Try.prog ops Q rest (a.put o.dst (.agg (bC n))) w) : wpList Try.prog ops Q (o :: rest) a w :=
  wpList_step fun _ hK => by
    rw [if_pos hw]
    have hload : (loadVar 22 ⟨g, 0, none⟩).run Try.prog w = .ok (.agg (bC n)) w := run_loadVar_row _ g 22 22 (bC n) fr _ hg Try.underlying22 rfl (by rw [info22, bC_size, hn])
    unfold Oper.wp execOp
    simp only [ho, hx, Instr.loadAt, Instr.sureAddr, Sem.run_bind, Sem.run_pure, Result.andThen_ok, hload]
    exact hK _ _ h
theorem ldmid23w {ops : Array Oper} {rest : List Oper} {o : Oper} {a : Act} {w : World} {Q : Exit → Act → World → Prop} (hw : Region.wanted o (yielded ops a.tmps) = true) (x : Operand) (ho : o.op = .load 23 x)
    (b i : Nat) (n : List UInt8) (hx : a.eval x = .pointer (some ⟨b, i, none⟩)) (hn : n.length = 12) (hc : w.rangeAt b i (bC n).toList)
    (h : wpList Try.prog ops Q rest (a.put o.dst (.agg (bC n))) w) : wpList Try.prog ops Q (o :: rest) a w :=
  wpList_step fun _ hK => by
    rw [if_pos hw]
    have := run_loadAt_mid (P := Try.prog) _ b i 23 (bC n).toList _ hc Try.underlying23 rfl (by rw [info23]; simp [bC, hn])
    unfold Oper.wp execOp
    simp only [ho, hx, Sem.run_bind, this, Result.andThen_ok, Sem.run_pure]
    exact hK _ _ h

set_option maxRecDepth 100000 in
set_option maxHeartbeats 3200000 in
theorem NameSets_walkI (q : Option Addr) (n cap : Nat) (w : World) (hq : ActsIn w q n) (hc : n ≤ cap) (hcm : cap ≤ maxLen) :
    Calls Try.prog 7 #[.slice q n cap] w fun e w' => e = .returned (.bool true) ∧ Below w.heap.size w w' := by
  unfold maxLen at hcm
  have HACT := Lib.hid hq
  have HS0 : Hid (SetAt (w.alloc (.cells #[.map none] 39)) w.heap.size none []) := ⟨heap_alloc_new _ _, rfl⟩
  have HB0 : Hid (Below w.heap.size w (w.alloc (.cells #[.map none] 39))) := below_alloc1 _ _
  clear hq
  go_enter Try.func7, Try.ntmps7
  go_wp2_with fail
  generalize w.alloc (.cells #[.map none] 39) = W0 at *
  go_loopw [4, 5] (fun mv i wr => ∃ (k : Nat) (o : Option Nat) (ks : List (List UInt8)), k ≤ n ∧ k ≤ 80 ∧ i = .int .i64 k ∧ Hid (SetAt wr w.heap.size o ks) ∧ Hid (Own wr (w.heap.size + 1) 22 mv (insAll ks)) ∧ Hid (KsOk ks) ∧ Hid (Below w.heap.size w wr) ∧ Hid (∀ r, o = some r → w.heap.size ≤ r)) (fun _ i _ => n - (intOf i).toNat)
  case atStart => exact ⟨0, none, [], Nat.zero_le _, by omega, rfl, HS0.out, Own.nil _ _ _, ⟨by simp, fun x hx => by simp at hx, by simp⟩, HB0.out, fun r h => by cases h⟩
  case round =>
    obtain ⟨k, os, ks, hk, hk80, rfl, HS, HO, HK, HBel, HR⟩ := hrel
    rcases (Nat.lt_or_ge k n).symm with hge | hlt
    · obtain rfl : k = n := by omega
      go_wp2_with (go_at_call 15; (with_reducible refine (known_any _).mono ?_); rintro e w3 ⟨rfl, hb3⟩)
      go_ret
      exact ⟨rfl, HBel.out.trans (hb3.mono HBel.out.size)⟩
    have hlt' : (k : Int) < (n : Int) := by omega
    rcases (Nat.lt_or_ge k 80).symm with hge | hl8
    · obtain rfl : k = 80 := by omega
      go_wp2_with (go_at_call 15; (with_reducible refine (known_any _).mono ?_); rintro e w3 ⟨rfl, hb3⟩)
      go_ret
      exact ⟨rfl, HBel.out.trans (hb3.mono HBel.out.size)⟩
    have hl8' : (k : Int) < 80 := by omega
    obtain ⟨b, ob, out, A, B, rfl, hb, hA, hB, hr⟩ := HACT.out k hlt
    have HA := Lib.hid hA
    have HB := Lib.hid hB
    have HRA : Hid (wr.rangeAt b (ob + k * 25) (actL out A B)) := range_of_block hr (HBel.out.block b hb)
    have HAB : Hid ((A ++ B).length = 24) := by show (A ++ B).length = 24; rw [List.length_append, hA, hB]
    have HM : Hid (∀ x ∈ [A, B], x.length = 12) := fun x hx => by
      simp only [List.mem_cons, List.not_mem_nil, or_false] at hx
      rcases hx with rfl | rfl <;> assumption
    obtain ⟨pm, cm, hu4⟩ := HO.out.slice
    subst hu4
    obtain ⟨L, hL⟩ : ∃ L, Hid ((insAll ks).length = L) := ⟨_, rfl⟩
    rw [hL.out] at HO
    rw [hL.out]
    have hL64 : L ≤ 64 := by rw [← hL.out, insAll_len]; exact HK.out.l64
    have hsz : w.heap.size + 1 ≤ wr.heap.size := (lt_heap HS.out.1)
    clear hr hA hB hb
    cases out
    case false =>
      go_upto_region 9 with (first
        | (with_reducible refine ld55 rfl _ rfl b (ob + k * 25) false A B rfl HA.out HB.out HRA.out ?_)
        | (rw [← act_zero]; with_reducible refine st55n rfl _ _ rfl false A B rfl rfl HA.out HB.out ?_)
        | (with_reducible refine ldmid23 rfl _ rfl wr.heap.size 1 A rfl HA.out (ActAt.ra ⟨heap_alloc_new _ _⟩) ?_)
        | (with_reducible refine ldmid23 rfl _ rfl wr.heap.size 13 B rfl HB.out (ActAt.rb ⟨heap_alloc_new _ _⟩ HA.out) ?_)
        | (with_reducible refine bd56 rfl _ _ rfl A B rfl rfl HA.out HB.out ?_)
        | (rw [← z24_eq]; with_reducible refine st56n rfl _ _ rfl (A ++ B) (wr.heap.size + 1) (World.size_alloc _ _) rfl rfl HAB.out ?_))
      have HAC : Hid (ActAt ((wr.alloc (.cells (actL false A B).toArray 55)).alloc (.cells (bC (A ++ B)) 56)) wr.heap.size false A B) := ⟨heap_alloc2_old _ _ _⟩
      have HPR : Hid (((wr.alloc (.cells (actL false A B).toArray 55)).alloc (.cells (bC (A ++ B)) 56)).heap[wr.heap.size + 1]? = some (.cells (bC (A ++ B)) 56)) := heap_alloc2_new _ _ _
      have hb2 : Below wr.heap.size wr ((wr.alloc (.cells (actL false A B).toArray 55)).alloc (.cells (bC (A ++ B)) 56)) := below_alloc2 _ _ _
      have HS2 : Hid (SetAt ((wr.alloc (.cells (actL false A B).toArray 55)).alloc (.cells (bC (A ++ B)) 56)) w.heap.size os ks) := HS.out.below hb2 (Nat.le_refl _)
      have HO2 : Hid (Own ((wr.alloc (.cells (actL false A B).toArray 55)).alloc (.cells (bC (A ++ B)) 56)) (w.heap.size + 1) 22 (.slice pm L cm) (insAll ks)) := HO.out.below hb2
      have HBW : Hid (Below w.heap.size w ((wr.alloc (.cells (actL false A B).toArray 55)).alloc (.cells (bC (A ++ B)) 56))) := HBel.out.trans (hb2.mono (by omega))
      clear HS HO HBel HRA hb2
      generalize ((wr.alloc (.cells (actL false A B).toArray 55)).alloc (.cells (bC (A ++ B)) 56)) = W2 at *
      generalize wr.heap.size = ab at *
      go_wp2_with fail
      go_loopw [4, 9] (fun mv jv wi => ∃ j : Nat, j ≤ 2 ∧ jv = .int .i64 j ∧ Hid (Own wi (w.heap.size + 1) 22 mv (insAll (stpL false ks ([A, B].take j)))) ∧ Hid (Below W2.heap.size W2 wi)) (fun _ jv _ => 2 - (intOf jv).toNat)
      case atStart => exact ⟨0, by omega, rfl, HO2.out, Below.refl _ _⟩
      case round =>
        obtain ⟨j, hj, rfl, HOj, HBj⟩ := hrel
        rcases (Nat.lt_or_ge j 2).symm with hge | hj2
        · obtain rfl : j = 2 := by omega
          have HO3 : Hid (Own wr (w.heap.size + 1) 22 u4 (insAll (stpL false ks [A, B]))) := HOj.out
          have HKe : Hid (KsOk (stpL false ks [A, B])) := HK.out.stpL HM.out
          have HS3 : Hid (SetAt wr w.heap.size os ks) := HS2.out.below HBj.out (Nat.le_refl _)
          have hac3 : ActAt wr ab false A B := ⟨(HBj.out.block _ (lt_heap HAC.out.hg)).trans HAC.out.hg⟩
          have HAC3 := Lib.hid hac3
          have hce := hac3.out
          have HBW3 : Hid (Below w.heap.size w wr) := HBW.out.trans (HBj.out.mono HBW.out.size)
          have hz3 : w.heap.size + 1 ≤ wr.heap.size := by have := HBj.out.size; have := lt_heap HPR.out; omega
          have HLks : Hid (ks.length = L) := by show ks.length = L; rw [← hL.out, insAll_len]
          clear hac3 HOj HS2 HAC HPR HO2 HBW HBj
          obtain ⟨pe, ce, hu4⟩ := HO3.out.slice
          subst hu4
          obtain ⟨Le, hLe⟩ : ∃ Le, Hid ((insAll (stpL false ks [A, B])).length = Le) := ⟨_, rfl⟩
          rw [hLe.out] at HO3
          rw [hLe.out]
          have HLke : Hid ((stpL false ks [A, B]).length = Le) := by show (stpL false ks [A, B]).length = Le; rw [← hLe.out, insAll_len]
          have hLe64 : Le ≤ 64 := by rw [← HLke.out]; exact HKe.out.l64
          have HSn : Hid (SetAt (wr.alloc (.cells (bC (A ++ B)) 23)) w.heap.size os ks) := HS3.out.below (below_alloc1 _ _) (Nat.le_refl _)
          have HOn : Hid (Own (wr.alloc (.cells (bC (A ++ B)) 23)) (w.heap.size + 1) 22 (.slice pe Le ce) (insAll (stpL false ks [A, B]))) := HO3.out.below (below_alloc1 _ _)
          have HACn : Hid (ActAt (wr.alloc (.cells (bC (A ++ B)) 23)) ab false A B) := ⟨(heap_alloc_old _ _ (lt_heap HAC3.out.hg)).trans HAC3.out.hg⟩
          have HNn : Hid (NamesAt (wr.alloc (.cells (bC (A ++ B)) 23)) wr.heap.size [A, B]) := names2 (heap_alloc_new _ _)
          have HBn : Hid (Below w.heap.size w (wr.alloc (.cells (bC (A ++ B)) 23))) := HBW3.out.alloc (by omega) _
          have HAdd : Hid (Calls Try.prog 18 #[.pointer (some ⟨w.heap.size, 0, none⟩), .slice (some ⟨wr.heap.size, 0, none⟩) 2 2] (wr.alloc (.cells (bC (A ++ B)) 23)) fun e w' => AddPost w.heap.size os (wr.alloc (.cells (bC (A ++ B)) 23)) ((Le : Int) - L) (stpL false ks [A, B]) e w') := by
            have h := add_any w.heap.size wr.heap.size 2 os ks [A, B] (wr.alloc (.cells (bC (A ++ B)) 23)) HSn.out HNn.out rfl HM.out (by omega) HK.out.l64
            rw [HLks.out, show (addL ks [A, B]).length = Le from HLke.out] at h
            exact h
          go_upto_region 19 with (first
            | (with_reducible refine ldmid23w rfl _ rfl ab 1 A rfl HA.out HAC3.out.ra ?_)
            | (with_reducible refine ldmid23w rfl _ rfl ab 13 B rfl HB.out (HAC3.out.rb HA.out) ?_)
            | (with_reducible refine bs45_2 rfl _ _ rfl A B rfl rfl HA.out HB.out ?_)
            | (go_at_call 18; (refine HAdd.out.mono ?_); rintro e w5 ⟨r, hr1, hr2, rfl, ht, hs5⟩; have hac5 : ActAt w5 ab false A B := ⟨keepS HSn.out hr1 hr2 ht (by decide) HACn.out.hg⟩; have hc5 := hac5.out))
          have ht2 := ht
          have HOS : Hid (∀ r', some r = some r' → w.heap.size ≤ r') := fun r' h => by
            cases h
            cases os with
            | none => have := hr1 rfl; rw [World.size_alloc] at this; omega
            | some r0 => rw [hr2 r0 rfl]; exact HR.out r0 rfl
          obtain ⟨o5, ho5⟩ : ∃ o5, o5 = some r := ⟨_, rfl⟩
          rw [← ho5] at hs5 HOS
          have HO5 : Hid (Own w5 (w.heap.size + 1) 22 (.slice pe Le ce) (insAll (stpL false ks [A, B]))) := HOn.out.keepS HSn.out hr1 hr2 ht2
          have HS5 := Lib.hid hs5
          have HAC5 := Lib.hid hac5
          have HB5 : Hid (Below w.heap.size w w5) := HBn.out.trans (ht2.below (fun x hx => by
            simp only [List.mem_cons, List.not_mem_nil, or_false] at hx
            rcases hx with rfl | rfl
            · exact Nat.le_refl _
            · cases os with
              | none => have := hr1 rfl; rw [World.size_alloc] at this; omega
              | some r0 => rw [hr2 r0 rfl]; exact HR.out r0 rfl) (by rw [World.size_alloc]; omega))
          clear hs5 hac5 hc5 hce ht ht2 HSn HOn HACn HNn HBn HS3 HAC3 HBW3 HO3 hr1 hr2
          have H12e : Hid (All12 (insAll (stpL false ks [A, B]))) := all12_perm (insAll_perm _) HKe.out.l12
          generalize stpL false ks [A, B] = ke at *
          have HList : Hid (Calls Try.prog 27 #[.pointer (some ⟨w.heap.size, 0, none⟩)] w5 (SortPost (insAll ke) Le w5)) := list_post w.heap.size o5 ke w5 HS5.out HKe.out Le hLe.out
          go_upto_region 20 with (go_at_call 27; (refine HList.out.mono ?_); rintro e w6 ⟨hb6, px, cx, rfl, hpx⟩)
          have HX6 := Lib.hid hpx
          have HS6 : Hid (SetAt w6 w.heap.size o5 ke) := HS5.out.below hb6 (Nat.le_refl _)
          have HAC6 : Hid (ActAt w6 ab false A B) := ⟨(hb6.block _ (lt_heap HAC5.out.hg)).trans HAC5.out.hg⟩
          have HO6 := Lib.hid (HO5.out.below hb6)
          have HB6 : Hid (Below w.heap.size w w6) := HB5.out.trans (hb6.mono HB5.out.size)
          have hab6 : Hid (ab < w6.heap.size) := lt_heap HAC6.out.hg
          have HRA6 : Hid (w6.rangeAt ab 1 (bC A).toList) := HAC6.out.ra
          have HIn6 : Hid (∀ W, Below w6.heap.size w6 W → Calls Try.prog 25 #[.slice pe Le ce, .agg (bC A)] W fun e w' => e = .returned (.int .i64 (ke.count A : Nat)) ∧ Below W.heap.size W w') := fun W hW => by
            have h := in_any _ _ A W (HO6.out.below hW).rows H12e.out HA.out (by rw [hLe.out]; unfold maxLen; omega)
            rw [insAll_count] at h; exact h
          have HHas : Hid (∀ W, Below w6.heap.size w6 W → Calls Try.prog 19 #[.pointer (some ⟨w.heap.size, 0, none⟩), .agg (bC A)] W fun e w' => e = .returned (.bool (inL ke A)) ∧ Below W.heap.size W w') := fun W hW => has_any _ _ _ _ _ (HS6.out.below hW (Nat.le_refl _)) HA.out
          have HLen : Hid (∀ W, Below w6.heap.size w6 W → Calls Try.prog 20 #[.pointer (some ⟨w.heap.size, 0, none⟩)] W fun e w' => e = .returned (.int .i64 Le) ∧ Below W.heap.size W w') := fun W hW => (len_any w.heap.size o5 ke W (HS6.out.below hW (Nat.le_refl _)) Le (by rw [HLke.out])).mono fun _ _ ⟨he, hw⟩ => ⟨he, hw ▸ Below.refl _ _⟩
          have hct0 := inL_count ke A
          clear HS5 HAC5 HO5 HB5 hb6 hpx HAC6 HList
          generalize ke.count A = ct at *
          cases hi : inL ke A
          all_goals
            rw [hi] at HHas hct0
            clear hi
            have hct : ct = 0 ∨ 0 < ct := by omega
            first
              | (obtain rfl : ct = 0 := hct0.2 rfl)
              | (have hc0 : ct ≠ 0 := (fun h => nomatch hct0.1 h)
                 have hc1 : (0 : Int) < (ct : Int) := by omega
                 have hc2 : decide ((0 : Int) < (ct : Int)) = true := by simpa using hc1
                 have hc3 : decide (0 < ct) = true := by simp; omega)
            clear hct0 hct
            refine wp_region_quiet_below (by kernel_rfl) (by kernel_rfl) ?_
            repeat (first
              | (with_reducible refine wq_ldmid23 _ ab 1 A rfl rfl rfl HRA6.out hab6.out HA.out ?_; simp only [Act.put, List.setIfInBounds_toArray, List.set_cons_zero, List.set_cons_succ])
              | go_big_quiet_step (first | exact Calls.regrown_of (HLen.out _ (below_regrown _ _ _)) | exact Calls.regrown_of (HHas.out _ (below_regrown _ _ _)) | exact Calls.regrown_of (HIn6.out _ (below_regrown _ _ _))))
            refine wpQuiet_nil ?_
            rintro _ ⟨⟨dq, osq⟩, rfl⟩
            have HS7 : Hid (SetAt (Sort.grow (redrawn w6 dq) osq) w.heap.size o5 ke) := HS6.out.below (below_regrown _ _ _) (Nat.le_refl _)
            have HX7 : Hid (RowP (Sort.grow (redrawn w6 dq) osq) px (insAll ke)) := HX6.out.below (below_regrown _ _ _)
            have HO7 : Hid (Own (Sort.grow (redrawn w6 dq) osq) (w.heap.size + 1) 22 (.slice pe Le ce) (insAll ke)) := HO6.out.below (below_regrown _ _ _)
            have HB7 : Hid (Below w.heap.size w (Sort.grow (redrawn w6 dq) osq)) := HB6.out.trans ((below_regrown w6 dq osq).mono HB6.out.size)
            clear HS6 HX6 HO6 HB6 HIn6 HHas HLen hab6 HRA6
            generalize Sort.grow (redrawn w6 dq) osq = w7 at *
            have HM7 : Hid (RowP w7 pe (insAll ke)) := by
              obtain ⟨p', c', e', h'⟩ := HO7.out.rows.rowP H12e.out Le hLe.out
              simp only [Value.slice.injEq] at e'
              rw [e'.1]; exact h'
            go_wp2_with fail
            go_loopw [12] (fun kv wz => ∃ z : Nat, z ≤ Le ∧ kv = .int .i64 z ∧ Hid (Below w7.heap.size w7 wz)) (fun kv _ => Le - (intOf kv).toNat)
            case atStart => exact ⟨0, Nat.zero_le _, rfl, Below.refl _ _⟩
            case round =>
              obtain ⟨z, hz, rfl, HQ⟩ := hrel
              rcases (Nat.lt_or_ge z Le).symm with hge | hzl
              · obtain rfl : z = Le := by omega
                go_wp2_with fail
                go_roundw
                case rel => exact ⟨k + 1, o5, ke, by omega, by omega, by go_num, HS7.out.below HQ.out (Nat.le_refl _), HO7.out.below HQ.out, HKe.out, HB7.out.trans (HQ.out.mono HB7.out.size), HOS.out⟩
                case measure => simp [intOf]; omega
              · have hz2 : z < (insAll ke).length := by rw [hLe.out]; exact hzl
                have hz3 : (z : Int) < (Le : Int) := by omega
                have hsz : Hid ((insAll ke)[z].length = 12) := H12e.out _ (List.getElem_mem hz2)
                obtain ⟨gx, ox, epx, hgx, hrx⟩ := HX7.out z hz2
                obtain ⟨gw, ow, epw, hgw, hrw⟩ := HM7.out z hz2
                subst epx epw
                have hrx1 : Hid (wr.rangeAt gx (ox + z * 12) (bC (insAll ke)[z]).toList) := range_of_block hrx (HQ.out.block gx hgx)
                have hrw1 : Hid (wr.rangeAt gw (ow + z * 12) (bC (insAll ke)[z]).toList) := range_of_block hrw (HQ.out.block gw hgw)
                have hgx1 : Hid (gx < wr.heap.size) := Nat.lt_of_lt_of_le hgx HQ.out.size
                have hgw1 : Hid (gw < wr.heap.size) := Nat.lt_of_lt_of_le hgw HQ.out.size
                have hneq : ∀ W, (binOp .neq 22 (.agg (bC (insAll ke)[z])) (.agg (bC (insAll ke)[z]))).run Try.prog W = .ok (.bool false) W := fun W => by
                  rw [neq22 W _ _ hsz.out hsz.out]; simp
                generalize (insAll ke)[z] = sz at *
                go_wp2_with fail
                refine wp_region_quiet_below (by kernel_rfl) (by kernel_rfl) ?_
                repeat (first
                  | (with_reducible refine wq_ldmid23 _ gx (ox + z * 12) sz rfl rfl rfl hrx1.out hgx1.out hsz.out ?_; simp only [Act.put, List.setIfInBounds_toArray, List.set_cons_zero, List.set_cons_succ])
                  | (with_reducible refine wq_ldmid22 _ gw (ow + z * 12) sz rfl rfl rfl hrw1.out hgw1.out hsz.out ?_; simp only [Act.put, List.setIfInBounds_toArray, List.set_cons_zero, List.set_cons_succ])
                  | go_big_quiet_step (fail))
                refine wpQuiet_nil ?_
                rintro _ ⟨⟨dq2, osq2⟩, rfl⟩
                have HQ2 : Hid (Below w7.heap.size w7 (Sort.grow (redrawn wr dq2) osq2)) := HQ.out.trans ((below_regrown wr dq2 osq2).mono HQ.out.size)
                clear hneq hrx1 hrw1
                generalize Sort.grow (redrawn wr dq2) osq2 = w8 at *
                go_wp2_with fail
                go_roundw
                case rel => exact ⟨z + 1, by omega, by go_num, HQ2.out⟩
                case measure => simp [intOf]; omega
        · have hj2' : (j : Int) < 2 := by omega
          have HNM : Hid ([A, B][j].length = 12) := HM.out _ (List.getElem_mem _)
          have HRN : Hid (wr.rangeAt (ab + 1) (j * 12) (bC [A, B][j]).toList) := range_of_block (pair_range HPR.out HA.out HB.out j hj2) (HBj.out.block _ (lt_heap HPR.out))
          have HST : Hid (stpL false ks ([A, B].take (j + 1)) = stp false (stpL false ks ([A, B].take j)) [A, B][j]) := stpL_snoc _ _ _ _ hj2
          have HKj : Hid (KsOk (stpL false ks ([A, B].take j))) := HK.out.stpL (fun x hx => HM.out x (List.mem_of_mem_take hx))
          have HACj : Hid (ActAt wr ab false A B) := ⟨(HBj.out.block _ (lt_heap HAC.out.hg)).trans HAC.out.hg⟩
          have hz2 : W2.heap.size ≤ wr.heap.size := HBj.out.size
          have hza : ab + 1 < W2.heap.size := lt_heap HPR.out
          generalize [A, B][j] = nm at *
          generalize stpL false ks ([A, B].take j) = kj at *
          have hce : (wr.alloc (.cells (bC nm) 22)).cell? ⟨ab, 0, none⟩ = some (.bool false) := ActAt.out (A := A) (B := B) ⟨(heap_alloc_old _ _ (lt_heap HACj.out.hg)).trans HACj.out.hg⟩
          have HO1 : Hid (Own (wr.alloc (.cells (bC nm) 22)) (w.heap.size + 1) 22 u4 (insAll kj)) := HOj.out.below (below_alloc1 _ _)
          have hlj : (insAll kj).length ≤ 64 := by rw [insAll_len]; exact HKj.out.l64
          have H12j : Hid (All12 (insAll kj)) := all12_perm (insAll_perm _) HKj.out.l12
          have HBj1 : Hid (Below W2.heap.size W2 (wr.alloc (.cells (bC nm) 22))) := HBj.out.alloc HBj.out.size _
          obtain ⟨pj, cj, hu4⟩ := HO1.out.slice
          subst hu4
          obtain ⟨Lj, hLj⟩ : ∃ Lj, Hid ((insAll kj).length = Lj) := ⟨_, rfl⟩
          rw [hLj.out] at HO1
          rw [hLj.out] at HOj hlj
          rw [hLj.out]
          have HT : Hid (∀ W : World, Calls Try.prog 14 #[.agg (bC nm)] W fun e w' => e = .returned (.string ⟨(textL nm).toArray⟩) ∧ Below W.heap.size W w') := fun W => refText_any nm W HNM.out
          have hne0 : rightB nm = false → (⟨(textL nm).toArray⟩ : ByteArray) = ⟨#[]⟩ := fun h => by rw [textL_no h]
          have hne1 : rightB nm = true → (⟨(textL nm).toArray⟩ : ByteArray).toList.isEmpty = false := fun h => by
            rw [ByteArray.toList_eq]
            have h1 := textL_yes h
            cases ht : textL nm with
            | nil => rw [ht] at h1; simp at h1
            | cons x l => rfl
          generalize (⟨(textL nm).toArray⟩ : ByteArray) = tx at *
          have HIn : Hid (∀ W, Below (wr.alloc (.cells (bC nm) 22)).heap.size (wr.alloc (.cells (bC nm) 22)) W → Calls Try.prog 25 #[.slice pj Lj cj, .agg (bC nm)] W fun e w' => e = .returned (.int .i64 (kj.count nm : Nat)) ∧ Below W.heap.size W w') := fun W hW => by
            have h := in_any _ _ nm W (HO1.out.below hW).rows H12j.out HNM.out (by rw [hLj.out]; unfold maxLen; omega)
            rw [insAll_count] at h; exact h
          have HIns : Hid (∀ W, Below (wr.alloc (.cells (bC nm) 22)).heap.size (wr.alloc (.cells (bC nm) 22)) W → Calls Try.prog 22 #[.slice pj Lj cj, .agg (bC nm)] W fun e w' => Below W.heap.size W w' ∧ ∃ v', e = .returned v' ∧ Own w' W.heap.size 22 v' (insL nm (insAll kj))) := fun W hW => insert_any _ _ nm W (HO1.out.below hW).rows H12j.out HNM.out (by rw [hLj.out]; omega)
          have HLk : Hid (kj.length = Lj) := by show kj.length = Lj; rw [← hLj.out, insAll_len]
          cases hr : rightB nm
          · have HX : Hid (stp false kj nm = kj) := add1_no (.inl hr)
            obtain rfl := hne0 hr
            clear hr hne0 hne1
            go_wp2_with (first
            | (with_reducible refine ldmid23 rfl _ rfl (ab + 1) (j * 12) nm rfl HNM.out HRN.out ?_)
            | (rw [← bC_z12]; with_reducible refine st22n rfl _ _ rfl nm rfl rfl HNM.out ?_)
            | (with_reducible refine ld22 rfl _ rfl wr.heap.size rfl nm HNM.out (0, 0) (heap_alloc_new _ _) ?_)
            | (with_reducible refine ld22 rfl _ rfl wr.heap.size rfl nm HNM.out (0, 0) hn5 ?_)
            | (with_reducible refine ld22w rfl _ rfl wr.heap.size nm (0, 0) rfl HNM.out hn5 ?_)
            | (with_reducible refine ld22 rfl _ rfl wr.heap.size rfl nm HNM.out (0, 0) hn6 ?_)
            | (go_at_call 14; (with_reducible refine (HT.out _).mono ?_); rintro e w5 ⟨rfl, hb5⟩; have hn5 : w5.heap[wr.heap.size]? = some (.cells (bC nm) 22) := (hb5.block _ (lt_heap (heap_alloc_new _ _))).trans (heap_alloc_new _ _))
            | (go_at_call 25; (refine (HIn.out _ hb5).mono ?_); rintro e w6 ⟨rfl, hb6⟩; have hn6 : w6.heap[wr.heap.size]? = some (.cells (bC nm) 22) := (hb6.block _ (lt_heap hn5)).trans hn5)
            | (go_at_call 22; (refine (HIns.out _ (hb5.trans (hb6.mono hb5.size))).mono ?_); rintro e w7 ⟨hb7, v', rfl, ho7⟩))
            go_roundw
            case rel =>
              refine ⟨j + 1, by omega, by go_num, ?_, HBj1.out.trans (hb5.mono HBj1.out.size)⟩
              rw [HST.out, HX.out]
              exact HO1.out.below (hb5)
            case measure => simp [intOf]; omega
          · have hne := hne1 hr
            clear hne0 hne1
            cases hi : inL kj nm
            · have hct : kj.count nm = 0 := (inL_count kj nm).2 hi
              rw [hct] at HIn
              by_cases h64 : Lj < 64
              · have hl : (Lj : Int) < 64 := by omega
                have HX : Hid (stp false kj nm = kj ++ [nm]) := add1_ok hr hi (by rw [HLk.out]; exact h64)
                clear hr hi hct
                go_wp2_with (first
            | (with_reducible refine ldmid23 rfl _ rfl (ab + 1) (j * 12) nm rfl HNM.out HRN.out ?_)
            | (rw [← bC_z12]; with_reducible refine st22n rfl _ _ rfl nm rfl rfl HNM.out ?_)
            | (with_reducible refine ld22 rfl _ rfl wr.heap.size rfl nm HNM.out (0, 0) (heap_alloc_new _ _) ?_)
            | (with_reducible refine ld22 rfl _ rfl wr.heap.size rfl nm HNM.out (0, 0) hn5 ?_)
            | (with_reducible refine ld22w rfl _ rfl wr.heap.size nm (0, 0) rfl HNM.out hn5 ?_)
            | (with_reducible refine ld22 rfl _ rfl wr.heap.size rfl nm HNM.out (0, 0) hn6 ?_)
            | (go_at_call 14; (with_reducible refine (HT.out _).mono ?_); rintro e w5 ⟨rfl, hb5⟩; have hn5 : w5.heap[wr.heap.size]? = some (.cells (bC nm) 22) := (hb5.block _ (lt_heap (heap_alloc_new _ _))).trans (heap_alloc_new _ _))
            | (go_at_call 25; (refine (HIn.out _ hb5).mono ?_); rintro e w6 ⟨rfl, hb6⟩; have hn6 : w6.heap[wr.heap.size]? = some (.cells (bC nm) 22) := (hb6.block _ (lt_heap hn5)).trans hn5)
            | (go_at_call 22; (refine (HIns.out _ (hb5.trans (hb6.mono hb5.size))).mono ?_); rintro e w7 ⟨hb7, v', rfl, ho7⟩))
                go_roundw
                case rel =>
                  have b7 := (hb5.trans (hb6.mono hb5.size)).trans (hb7.mono (Nat.le_trans hb5.size hb6.size))
                  refine ⟨j + 1, by omega, by go_num, ?_, HBj1.out.trans (b7.mono HBj1.out.size)⟩
                  rw [HST.out, HX.out, insAll_snoc]
                  exact ho7.base (by have := hb5.size; have := hb6.size; rw [World.size_alloc] at *; omega)
                case measure => simp [intOf]; omega
              · have hl : ¬ (Lj : Int) < 64 := by omega
                have HX : Hid (stp false kj nm = kj) := add1_no (.inr (.inr (by rw [HLk.out]; exact h64)))
                clear hr hi hct
                go_wp2_with (first
            | (with_reducible refine ldmid23 rfl _ rfl (ab + 1) (j * 12) nm rfl HNM.out HRN.out ?_)
            | (rw [← bC_z12]; with_reducible refine st22n rfl _ _ rfl nm rfl rfl HNM.out ?_)
            | (with_reducible refine ld22 rfl _ rfl wr.heap.size rfl nm HNM.out (0, 0) (heap_alloc_new _ _) ?_)
            | (with_reducible refine ld22 rfl _ rfl wr.heap.size rfl nm HNM.out (0, 0) hn5 ?_)
            | (with_reducible refine ld22w rfl _ rfl wr.heap.size nm (0, 0) rfl HNM.out hn5 ?_)
            | (with_reducible refine ld22 rfl _ rfl wr.heap.size rfl nm HNM.out (0, 0) hn6 ?_)
            | (go_at_call 14; (with_reducible refine (HT.out _).mono ?_); rintro e w5 ⟨rfl, hb5⟩; have hn5 : w5.heap[wr.heap.size]? = some (.cells (bC nm) 22) := (hb5.block _ (lt_heap (heap_alloc_new _ _))).trans (heap_alloc_new _ _))
            | (go_at_call 25; (refine (HIn.out _ hb5).mono ?_); rintro e w6 ⟨rfl, hb6⟩; have hn6 : w6.heap[wr.heap.size]? = some (.cells (bC nm) 22) := (hb6.block _ (lt_heap hn5)).trans hn5)
            | (go_at_call 22; (refine (HIns.out _ (hb5.trans (hb6.mono hb5.size))).mono ?_); rintro e w7 ⟨hb7, v', rfl, ho7⟩))
                go_roundw
                case rel =>
                  refine ⟨j + 1, by omega, by go_num, ?_, HBj1.out.trans ((hb5.trans (hb6.mono hb5.size)).mono HBj1.out.size)⟩
                  rw [HST.out, HX.out]
                  exact HO1.out.below (hb5.trans (hb6.mono hb5.size))
                case measure => simp [intOf]; omega
            · have hct : kj.count nm ≠ 0 := fun h => by rw [(inL_count kj nm).1 h] at hi; cases hi
              have HX : Hid (stp false kj nm = kj) := add1_no (.inr (.inl hi))
              generalize kj.count nm = ct at *
              have hc1 : ¬ (ct : Int) = 0 := by omega
              have hc2 : ((ct : Int) == 0) = false := by simpa using hct
              have hc3 : decide (ct = 0) = false := by simpa using hct
              have hc4 : (ct == 0) = false := by simpa using hct
              clear hr hi
              go_wp2_with (first
            | (with_reducible refine ldmid23 rfl _ rfl (ab + 1) (j * 12) nm rfl HNM.out HRN.out ?_)
            | (rw [← bC_z12]; with_reducible refine st22n rfl _ _ rfl nm rfl rfl HNM.out ?_)
            | (with_reducible refine ld22 rfl _ rfl wr.heap.size rfl nm HNM.out (0, 0) (heap_alloc_new _ _) ?_)
            | (with_reducible refine ld22 rfl _ rfl wr.heap.size rfl nm HNM.out (0, 0) hn5 ?_)
            | (with_reducible refine ld22w rfl _ rfl wr.heap.size nm (0, 0) rfl HNM.out hn5 ?_)
            | (with_reducible refine ld22 rfl _ rfl wr.heap.size rfl nm HNM.out (0, 0) hn6 ?_)
            | (go_at_call 14; (with_reducible refine (HT.out _).mono ?_); rintro e w5 ⟨rfl, hb5⟩; have hn5 : w5.heap[wr.heap.size]? = some (.cells (bC nm) 22) := (hb5.block _ (lt_heap (heap_alloc_new _ _))).trans (heap_alloc_new _ _))
            | (go_at_call 25; (refine (HIn.out _ hb5).mono ?_); rintro e w6 ⟨rfl, hb6⟩; have hn6 : w6.heap[wr.heap.size]? = some (.cells (bC nm) 22) := (hb6.block _ (lt_heap hn5)).trans hn5)
            | (go_at_call 22; (refine (HIns.out _ (hb5.trans (hb6.mono hb5.size))).mono ?_); rintro e w7 ⟨hb7, v', rfl, ho7⟩))
              go_roundw
              case rel =>
                refine ⟨j + 1, by omega, by go_num, ?_, HBj1.out.trans ((hb5.trans (hb6.mono hb5.size)).mono HBj1.out.size)⟩
                rw [HST.out, HX.out]
                exact HO1.out.below (hb5.trans (hb6.mono hb5.size))
              case measure => simp [intOf]; omega
    case true =>
      go_upto_region 9 with (first
        | (with_reducible refine ld55 rfl _ rfl b (ob + k * 25) true A B rfl HA.out HB.out HRA.out ?_)
        | (rw [← act_zero]; with_reducible refine st55n rfl _ _ rfl true A B rfl rfl HA.out HB.out ?_)
        | (with_reducible refine ldmid23 rfl _ rfl wr.heap.size 1 A rfl HA.out (ActAt.ra ⟨heap_alloc_new _ _⟩) ?_)
        | (with_reducible refine ldmid23 rfl _ rfl wr.heap.size 13 B rfl HB.out (ActAt.rb ⟨heap_alloc_new _ _⟩ HA.out) ?_)
        | (with_reducible refine bd56 rfl _ _ rfl A B rfl rfl HA.out HB.out ?_)
        | (rw [← z24_eq]; with_reducible refine st56n rfl _ _ rfl (A ++ B) (wr.heap.size + 1) (World.size_alloc _ _) rfl rfl HAB.out ?_))
      have HAC : Hid (ActAt ((wr.alloc (.cells (actL true A B).toArray 55)).alloc (.cells (bC (A ++ B)) 56)) wr.heap.size true A B) := ⟨heap_alloc2_old _ _ _⟩
      have HPR : Hid (((wr.alloc (.cells (actL true A B).toArray 55)).alloc (.cells (bC (A ++ B)) 56)).heap[wr.heap.size + 1]? = some (.cells (bC (A ++ B)) 56)) := heap_alloc2_new _ _ _
      have hb2 : Below wr.heap.size wr ((wr.alloc (.cells (actL true A B).toArray 55)).alloc (.cells (bC (A ++ B)) 56)) := below_alloc2 _ _ _
      have HS2 : Hid (SetAt ((wr.alloc (.cells (actL true A B).toArray 55)).alloc (.cells (bC (A ++ B)) 56)) w.heap.size os ks) := HS.out.below hb2 (Nat.le_refl _)
      have HO2 : Hid (Own ((wr.alloc (.cells (actL true A B).toArray 55)).alloc (.cells (bC (A ++ B)) 56)) (w.heap.size + 1) 22 (.slice pm L cm) (insAll ks)) := HO.out.below hb2
      have HBW : Hid (Below w.heap.size w ((wr.alloc (.cells (actL true A B).toArray 55)).alloc (.cells (bC (A ++ B)) 56))) := HBel.out.trans (hb2.mono (by omega))
      clear HS HO HBel HRA hb2
      generalize ((wr.alloc (.cells (actL true A B).toArray 55)).alloc (.cells (bC (A ++ B)) 56)) = W2 at *
      generalize wr.heap.size = ab at *
      go_wp2_with fail
      go_loopw [4, 9] (fun mv jv wi => ∃ j : Nat, j ≤ 2 ∧ jv = .int .i64 j ∧ Hid (Own wi (w.heap.size + 1) 22 mv (insAll (stpL true ks ([A, B].take j)))) ∧ Hid (Below W2.heap.size W2 wi)) (fun _ jv _ => 2 - (intOf jv).toNat)
      case atStart => exact ⟨0, by omega, rfl, HO2.out, Below.refl _ _⟩
      case round =>
        obtain ⟨j, hj, rfl, HOj, HBj⟩ := hrel
        rcases (Nat.lt_or_ge j 2).symm with hge | hj2
        · obtain rfl : j = 2 := by omega
          have HO3 : Hid (Own wr (w.heap.size + 1) 22 u4 (insAll (stpL true ks [A, B]))) := HOj.out
          have HKe : Hid (KsOk (stpL true ks [A, B])) := HK.out.stpL HM.out
          have HS3 : Hid (SetAt wr w.heap.size os ks) := HS2.out.below HBj.out (Nat.le_refl _)
          have hac3 : ActAt wr ab true A B := ⟨(HBj.out.block _ (lt_heap HAC.out.hg)).trans HAC.out.hg⟩
          have HAC3 := Lib.hid hac3
          have hce := hac3.out
          have HBW3 : Hid (Below w.heap.size w wr) := HBW.out.trans (HBj.out.mono HBW.out.size)
          have hz3 : w.heap.size + 1 ≤ wr.heap.size := by have := HBj.out.size; have := lt_heap HPR.out; omega
          have HLks : Hid (ks.length = L) := by show ks.length = L; rw [← hL.out, insAll_len]
          clear hac3 HOj HS2 HAC HPR HO2 HBW HBj
          obtain ⟨pe, ce, hu4⟩ := HO3.out.slice
          subst hu4
          obtain ⟨Le, hLe⟩ : ∃ Le, Hid ((insAll (stpL true ks [A, B])).length = Le) := ⟨_, rfl⟩
          rw [hLe.out] at HO3
          rw [hLe.out]
          have HLke : Hid ((stpL true ks [A, B]).length = Le) := by show (stpL true ks [A, B]).length = Le; rw [← hLe.out, insAll_len]
          have hLe64 : Le ≤ 64 := by rw [← HLke.out]; exact HKe.out.l64
          have HSn : Hid (SetAt (wr.alloc (.cells (bC (A ++ B)) 23)) w.heap.size os ks) := HS3.out.below (below_alloc1 _ _) (Nat.le_refl _)
          have HOn : Hid (Own (wr.alloc (.cells (bC (A ++ B)) 23)) (w.heap.size + 1) 22 (.slice pe Le ce) (insAll (stpL true ks [A, B]))) := HO3.out.below (below_alloc1 _ _)
          have HACn : Hid (ActAt (wr.alloc (.cells (bC (A ++ B)) 23)) ab true A B) := ⟨(heap_alloc_old _ _ (lt_heap HAC3.out.hg)).trans HAC3.out.hg⟩
          have HNn : Hid (NamesAt (wr.alloc (.cells (bC (A ++ B)) 23)) wr.heap.size [A, B]) := names2 (heap_alloc_new _ _)
          have HBn : Hid (Below w.heap.size w (wr.alloc (.cells (bC (A ++ B)) 23))) := HBW3.out.alloc (by omega) _
          have HDel : Hid (Calls Try.prog 21 #[.pointer (some ⟨w.heap.size, 0, none⟩), .slice (some ⟨wr.heap.size, 0, none⟩) 2 2] (wr.alloc (.cells (bC (A ++ B)) 23)) fun e w' => e = .returned (.int .i64 ((L : Int) - Le)) ∧ Turn os.toList (wr.alloc (.cells (bC (A ++ B)) 23)) w' ∧ SetAt w' w.heap.size os (stpL true ks [A, B])) := by
            have h := del_any w.heap.size wr.heap.size 2 os ks [A, B] (wr.alloc (.cells (bC (A ++ B)) 23)) HSn.out HNn.out rfl HM.out (by omega) HK.out.l64
            rw [HLks.out, show (delL ks [A, B]).length = Le from HLke.out] at h
            exact h
          obtain ⟨r, hr1, hr2⟩ : ∃ r, (os = none → (wr.alloc (.cells (bC (A ++ B)) 23)).heap.size ≤ r) ∧ ∀ r0, os = some r0 → r = r0 := by
            cases os with
            | none => exact ⟨_, fun _ => Nat.le_refl _, fun r0 h => by cases h⟩
            | some r0 => exact ⟨r0, (fun h => nomatch h), fun r1 h => by cases h; rfl⟩
          go_upto_region 19 with (first
            | (with_reducible refine ldmid23w rfl _ rfl ab 1 A rfl HA.out HAC3.out.ra ?_)
            | (with_reducible refine ldmid23w rfl _ rfl ab 13 B rfl HB.out (HAC3.out.rb HA.out) ?_)
            | (with_reducible refine bs45_2 rfl _ _ rfl A B rfl rfl HA.out HB.out ?_)
            | (go_at_call 21; (refine HDel.out.mono ?_); rintro e w5 ⟨rfl, ht, hs5⟩; have hac5 : ActAt w5 ab true A B := ⟨keepS HSn.out hr1 hr2 (turn_opt ht hr2) (by decide) HACn.out.hg⟩; have hc5 := hac5.out))
          have ht2 := turn_opt (sp := w.heap.size) ht hr2
          have HOS : Hid (∀ r', os = some r' → w.heap.size ≤ r') := HR.out
          obtain ⟨o5, ho5⟩ : ∃ o5, o5 = os := ⟨_, rfl⟩
          rw [← ho5] at hs5 HOS
          have HO5 : Hid (Own w5 (w.heap.size + 1) 22 (.slice pe Le ce) (insAll (stpL true ks [A, B]))) := HOn.out.keepS HSn.out hr1 hr2 ht2
          have HS5 := Lib.hid hs5
          have HAC5 := Lib.hid hac5
          have HB5 : Hid (Below w.heap.size w w5) := HBn.out.trans (ht2.below (fun x hx => by
            simp only [List.mem_cons, List.not_mem_nil, or_false] at hx
            rcases hx with rfl | rfl
            · exact Nat.le_refl _
            · cases os with
              | none => have := hr1 rfl; rw [World.size_alloc] at this; omega
              | some r0 => rw [hr2 r0 rfl]; exact HR.out r0 rfl) (by rw [World.size_alloc]; omega))
          clear hs5 hac5 hc5 hce ht ht2 HSn HOn HACn HNn HBn HS3 HAC3 HBW3 HO3 hr1 hr2
          have H12e : Hid (All12 (insAll (stpL true ks [A, B]))) := all12_perm (insAll_perm _) HKe.out.l12
          generalize stpL true ks [A, B] = ke at *
          have HList : Hid (Calls Try.prog 27 #[.pointer (some ⟨w.heap.size, 0, none⟩)] w5 (SortPost (insAll ke) Le w5)) := list_post w.heap.size o5 ke w5 HS5.out HKe.out Le hLe.out
          go_upto_region 20 with (go_at_call 27; (refine HList.out.mono ?_); rintro e w6 ⟨hb6, px, cx, rfl, hpx⟩)
          have HX6 := Lib.hid hpx
          have HS6 : Hid (SetAt w6 w.heap.size o5 ke) := HS5.out.below hb6 (Nat.le_refl _)
          have HAC6 : Hid (ActAt w6 ab true A B) := ⟨(hb6.block _ (lt_heap HAC5.out.hg)).trans HAC5.out.hg⟩
          have HO6 := Lib.hid (HO5.out.below hb6)
          have HB6 : Hid (Below w.heap.size w w6) := HB5.out.trans (hb6.mono HB5.out.size)
          have hab6 : Hid (ab < w6.heap.size) := lt_heap HAC6.out.hg
          have HRA6 : Hid (w6.rangeAt ab 1 (bC A).toList) := HAC6.out.ra
          have HIn6 : Hid (∀ W, Below w6.heap.size w6 W → Calls Try.prog 25 #[.slice pe Le ce, .agg (bC A)] W fun e w' => e = .returned (.int .i64 (ke.count A : Nat)) ∧ Below W.heap.size W w') := fun W hW => by
            have h := in_any _ _ A W (HO6.out.below hW).rows H12e.out HA.out (by rw [hLe.out]; unfold maxLen; omega)
            rw [insAll_count] at h; exact h
          have HHas : Hid (∀ W, Below w6.heap.size w6 W → Calls Try.prog 19 #[.pointer (some ⟨w.heap.size, 0, none⟩), .agg (bC A)] W fun e w' => e = .returned (.bool (inL ke A)) ∧ Below W.heap.size W w') := fun W hW => has_any _ _ _ _ _ (HS6.out.below hW (Nat.le_refl _)) HA.out
          have HLen : Hid (∀ W, Below w6.heap.size w6 W → Calls Try.prog 20 #[.pointer (some ⟨w.heap.size, 0, none⟩)] W fun e w' => e = .returned (.int .i64 Le) ∧ Below W.heap.size W w') := fun W hW => (len_any w.heap.size o5 ke W (HS6.out.below hW (Nat.le_refl _)) Le (by rw [HLke.out])).mono fun _ _ ⟨he, hw⟩ => ⟨he, hw ▸ Below.refl _ _⟩
          have hct0 := inL_count ke A
          clear HS5 HAC5 HO5 HB5 hb6 hpx HAC6 HList
          generalize ke.count A = ct at *
          cases hi : inL ke A
          all_goals
            rw [hi] at HHas hct0
            clear hi
            have hct : ct = 0 ∨ 0 < ct := by omega
            first
              | (obtain rfl : ct = 0 := hct0.2 rfl)
              | (have hc0 : ct ≠ 0 := (fun h => nomatch hct0.1 h)
                 have hc1 : (0 : Int) < (ct : Int) := by omega
                 have hc2 : decide ((0 : Int) < (ct : Int)) = true := by simpa using hc1
                 have hc3 : decide (0 < ct) = true := by simp; omega)
            clear hct0 hct
            refine wp_region_quiet_below (by kernel_rfl) (by kernel_rfl) ?_
            repeat (first
              | (with_reducible refine wq_ldmid23 _ ab 1 A rfl rfl rfl HRA6.out hab6.out HA.out ?_; simp only [Act.put, List.setIfInBounds_toArray, List.set_cons_zero, List.set_cons_succ])
              | go_big_quiet_step (first | exact Calls.regrown_of (HLen.out _ (below_regrown _ _ _)) | exact Calls.regrown_of (HHas.out _ (below_regrown _ _ _)) | exact Calls.regrown_of (HIn6.out _ (below_regrown _ _ _))))
            refine wpQuiet_nil ?_
            rintro _ ⟨⟨dq, osq⟩, rfl⟩
            have HS7 : Hid (SetAt (Sort.grow (redrawn w6 dq) osq) w.heap.size o5 ke) := HS6.out.below (below_regrown _ _ _) (Nat.le_refl _)
            have HX7 : Hid (RowP (Sort.grow (redrawn w6 dq) osq) px (insAll ke)) := HX6.out.below (below_regrown _ _ _)
            have HO7 : Hid (Own (Sort.grow (redrawn w6 dq) osq) (w.heap.size + 1) 22 (.slice pe Le ce) (insAll ke)) := HO6.out.below (below_regrown _ _ _)
            have HB7 : Hid (Below w.heap.size w (Sort.grow (redrawn w6 dq) osq)) := HB6.out.trans ((below_regrown w6 dq osq).mono HB6.out.size)
            clear HS6 HX6 HO6 HB6 HIn6 HHas HLen hab6 HRA6
            generalize Sort.grow (redrawn w6 dq) osq = w7 at *
            have HM7 : Hid (RowP w7 pe (insAll ke)) := by
              obtain ⟨p', c', e', h'⟩ := HO7.out.rows.rowP H12e.out Le hLe.out
              simp only [Value.slice.injEq] at e'
              rw [e'.1]; exact h'
            go_wp2_with fail
            go_loopw [12] (fun kv wz => ∃ z : Nat, z ≤ Le ∧ kv = .int .i64 z ∧ Hid (Below w7.heap.size w7 wz)) (fun kv _ => Le - (intOf kv).toNat)
            case atStart => exact ⟨0, Nat.zero_le _, rfl, Below.refl _ _⟩
            case round =>
              obtain ⟨z, hz, rfl, HQ⟩ := hrel
              rcases (Nat.lt_or_ge z Le).symm with hge | hzl
              · obtain rfl : z = Le := by omega
                go_wp2_with fail
                go_roundw
                case rel => exact ⟨k + 1, o5, ke, by omega, by omega, by go_num, HS7.out.below HQ.out (Nat.le_refl _), HO7.out.below HQ.out, HKe.out, HB7.out.trans (HQ.out.mono HB7.out.size), HOS.out⟩
                case measure => simp [intOf]; omega
              · have hz2 : z < (insAll ke).length := by rw [hLe.out]; exact hzl
                have hz3 : (z : Int) < (Le : Int) := by omega
                have hsz : Hid ((insAll ke)[z].length = 12) := H12e.out _ (List.getElem_mem hz2)
                obtain ⟨gx, ox, epx, hgx, hrx⟩ := HX7.out z hz2
                obtain ⟨gw, ow, epw, hgw, hrw⟩ := HM7.out z hz2
                subst epx epw
                have hrx1 : Hid (wr.rangeAt gx (ox + z * 12) (bC (insAll ke)[z]).toList) := range_of_block hrx (HQ.out.block gx hgx)
                have hrw1 : Hid (wr.rangeAt gw (ow + z * 12) (bC (insAll ke)[z]).toList) := range_of_block hrw (HQ.out.block gw hgw)
                have hgx1 : Hid (gx < wr.heap.size) := Nat.lt_of_lt_of_le hgx HQ.out.size
                have hgw1 : Hid (gw < wr.heap.size) := Nat.lt_of_lt_of_le hgw HQ.out.size
                have hneq : ∀ W, (binOp .neq 22 (.agg (bC (insAll ke)[z])) (.agg (bC (insAll ke)[z]))).run Try.prog W = .ok (.bool false) W := fun W => by
                  rw [neq22 W _ _ hsz.out hsz.out]; simp
                generalize (insAll ke)[z] = sz at *
                go_wp2_with fail
                refine wp_region_quiet_below (by kernel_rfl) (by kernel_rfl) ?_
                repeat (first
                  | (with_reducible refine wq_ldmid23 _ gx (ox + z * 12) sz rfl rfl rfl hrx1.out hgx1.out hsz.out ?_; simp only [Act.put, List.setIfInBounds_toArray, List.set_cons_zero, List.set_cons_succ])
                  | (with_reducible refine wq_ldmid22 _ gw (ow + z * 12) sz rfl rfl rfl hrw1.out hgw1.out hsz.out ?_; simp only [Act.put, List.setIfInBounds_toArray, List.set_cons_zero, List.set_cons_succ])
                  | go_big_quiet_step (fail))
                refine wpQuiet_nil ?_
                rintro _ ⟨⟨dq2, osq2⟩, rfl⟩
                have HQ2 : Hid (Below w7.heap.size w7 (Sort.grow (redrawn wr dq2) osq2)) := HQ.out.trans ((below_regrown wr dq2 osq2).mono HQ.out.size)
                clear hneq hrx1 hrw1
                generalize Sort.grow (redrawn wr dq2) osq2 = w8 at *
                go_wp2_with fail
                go_roundw
                case rel => exact ⟨z + 1, by omega, by go_num, HQ2.out⟩
                case measure => simp [intOf]; omega
        · have hj2' : (j : Int) < 2 := by omega
          have HNM : Hid ([A, B][j].length = 12) := HM.out _ (List.getElem_mem _)
          have HRN : Hid (wr.rangeAt (ab + 1) (j * 12) (bC [A, B][j]).toList) := range_of_block (pair_range HPR.out HA.out HB.out j hj2) (HBj.out.block _ (lt_heap HPR.out))
          have HST : Hid (stpL true ks ([A, B].take (j + 1)) = stp true (stpL true ks ([A, B].take j)) [A, B][j]) := stpL_snoc _ _ _ _ hj2
          have HKj : Hid (KsOk (stpL true ks ([A, B].take j))) := HK.out.stpL (fun x hx => HM.out x (List.mem_of_mem_take hx))
          have HACj : Hid (ActAt wr ab true A B) := ⟨(HBj.out.block _ (lt_heap HAC.out.hg)).trans HAC.out.hg⟩
          have hz2 : W2.heap.size ≤ wr.heap.size := HBj.out.size
          have hza : ab + 1 < W2.heap.size := lt_heap HPR.out
          generalize [A, B][j] = nm at *
          generalize stpL true ks ([A, B].take j) = kj at *
          have hce : (wr.alloc (.cells (bC nm) 22)).cell? ⟨ab, 0, none⟩ = some (.bool true) := ActAt.out (A := A) (B := B) ⟨(heap_alloc_old _ _ (lt_heap HACj.out.hg)).trans HACj.out.hg⟩
          have HO1 : Hid (Own (wr.alloc (.cells (bC nm) 22)) (w.heap.size + 1) 22 u4 (insAll kj)) := HOj.out.below (below_alloc1 _ _)
          have hlj : (insAll kj).length ≤ 64 := by rw [insAll_len]; exact HKj.out.l64
          have H12j : Hid (All12 (insAll kj)) := all12_perm (insAll_perm _) HKj.out.l12
          have HBj1 : Hid (Below W2.heap.size W2 (wr.alloc (.cells (bC nm) 22))) := HBj.out.alloc HBj.out.size _
          have HW : Hid (Calls Try.prog 26 #[u4, .agg (bC nm)] (wr.alloc (.cells (bC nm) 22)) fun e w' => Below (wr.alloc (.cells (bC nm) 22)).heap.size (wr.alloc (.cells (bC nm) 22)) w' ∧ ∃ v', e = .returned v' ∧ Own w' (wr.alloc (.cells (bC nm) 22)).heap.size 22 v' (wout (insAll kj) nm)) := without_any _ _ _ _ HO1.out.rows H12j.out HNM.out (by omega)
          go_wp2_with (first
            | (with_reducible refine ldmid23 rfl _ rfl (ab + 1) (j * 12) nm rfl HNM.out HRN.out ?_)
            | (rw [← bC_z12]; with_reducible refine st22n rfl _ _ rfl nm rfl rfl HNM.out ?_)
            | (with_reducible refine ld22 rfl _ rfl wr.heap.size rfl nm HNM.out (0, 0) (heap_alloc_new _ _) ?_)
            | (go_at_call 26; (with_reducible refine HW.out.mono ?_); rintro e w5 ⟨hb5, v', rfl, ho5⟩))
          go_roundw
          case rel =>
            refine ⟨j + 1, by omega, by go_num, ?_, HBj1.out.trans (hb5.mono HBj1.out.size)⟩
            rw [HST.out]
            show Own w5 (w.heap.size + 1) 22 v' (insAll (kj.erase nm))
            rw [← wout_insAll HKj.out]; exact ho5.base (by rw [World.size_alloc]; omega)
          case measure => simp [intOf]; omega

theorem NameSets_walk {H : Type} {enc : TypeId × Value → H} {w : World} {base : Nat} {held : Bool} (v : Value) {d : DataW H} {p : List MemPlace} {r : Reach} {b0 : Nat}
    (h : DataW.Trod enc Try.prog w base (fun _ => true) held 53 v d p) (hv : Value.okWide Try.prog w r b0 53 v) :
    Calls Try.prog 7 #[v] w fun e w' => e = .returned (.bool true) ∧ Below w.heap.size w w' := by
  obtain ⟨q, n, cap, rfl, hn, hc, ha⟩ := open_acts hv h
  exact NameSets_walkI q n cap w ha hn hc
set_option maxRecDepth 100000 in
theorem NameSets_lifted (os : Os) (started : os.Started) (H : Type) (enc : TypeId × Value → H) :
    ReturnsInHanded {} Try.checked os 7 .any (Rows.nameSetsSpec.pre6 enc Try.prog Try.f7 Rows.nameSetsRow.domain false) (Rows.nameSetsSpec.post enc Try.prog Try.f7 false true false false) := by
  refine returnsInHanded_of_change (C := Try.checked) own started (by kernel_rfl) Try.func7
    (ChangeSpec.witness6 (enc := enc) (C := Try.checked) false ⟨#[], #[.slice none 0 0], []⟩ 8 (by kernel_rfl) (by kernel_rfl) (by kernel_rfl) (by kernel_rfl)) ?_
  intro W base args ds gs before hval0 hW hcnd hroom
  have hval : ∀ (j : Nat) t v, Try.f7.params[j]? = some t → args[j]? = some v → Value.okWide Try.prog W .any base t v := hval0
  have hW' := hW
  obtain ⟨p, q, hA0, hV, rfl, hfz, hnd⟩ := hW
  have hA : DataW.TrodAll enc Try.prog W 0 (fun _ => true) true Try.f7.params.toList args.toList ds p := hA0
  rw [Try.params7] at hA hval
  obtain ⟨v0, vs0, d0, ds0, p0, q0, hargs, rfl, rfl, h0, r0⟩ := trodAll_cons hA
  obtain ⟨rfl, rfl, rfl⟩ := trodAll_nil r0
  obtain rfl : args = #[v0] := by cases args; simp_all
  obtain ⟨rfl, rfl⟩ := trodVars_none hV
  have k0 := h0
  have lt0 : ∀ x ∈ p0, x.block < W.heap.size := by obtain ⟨m, hm⟩ := k0; exact DataW.trod_lt m _ _ _ hm
  clear hA0 hval0
  refine (NameSets_walk v0 k0 (hval 0 53 v0 rfl rfl)).mono fun e W' ⟨he, bel⟩ => ?_
  subst he
  exact ⟨_, rfl, _, _, _, [], _, [], hW', trodAll_mk1 (shut_bool Try.underlying4 _), (trodAll_cons_mk (Below.trod laidOut (by kernel_rfl) (of_decide_eq_true (by kernel_rfl)) k0 bel lt0) trodAll_mk0), rfl, bel.frame _, fun h => by cases h⟩

theorem NameSets_holds : Rows.NameSetsSaid :=
  OpenClaim.holds_of_wide 7 Try.f7 rfl rfl rfl rfl rfl rfl rfl ⟨rfl, rfl, rfl, rfl, rfl⟩ rfl rfl rfl rfl rfl (by kernel_rfl) Try.func7 (by kernel_rfl)
    (of_decide_eq_true (by kernel_rfl)) (by unfold Func.isWrapper; first | (rw [if_pos (by decide +kernel)]; kernel_rfl) | (rw [if_neg (by decide +kernel)]; exact ⟨rfl, rfl⟩))
    (fun os started H enc _ => NameSets_lifted os started H enc)

end Go.Proofs.Ytbflliiaigkmgaa
