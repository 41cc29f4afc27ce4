/- Del: the walk. -/
import Derived.Test.YtagdedjclbmlkaaC11
namespace Go.Proofs.Ytagdedjclbmlkaa
open Go.RowKit

theorem find_none_of {o : Option T} (h : WFO o) {k : List UInt8} (hf : findL (allO o) k = none) : findV k o = .pointer none := by
  have := has_find h k
  rw [hf] at this
  cases o with
  | none => rfl
  | some t =>
    have : ((T.near k t).2.1 == k) = false := this
    show (if _ then _ else _) = _
    rw [if_neg (by simpa using this)]
theorem find_some_of {o : Option T} (h : WFO o) {k : List UInt8} {i : Nat} (hf : findL (allO o) k = some i) : ∃ t, o = some t ∧ (T.near k t).2.1 = k ∧ findV k o = .pointer (some ⟨(T.near k t).1, 0, none⟩) := by
  have := has_find h k
  rw [hf] at this
  cases o with
  | none => cases this
  | some t =>
    have h1 : ((T.near k t).2.1 == k) = true := this
    have h2 : (T.near k t).2.1 = k := by simpa using h1
    refine ⟨t, rfl, h2, ?_⟩
    show (if _ then _ else _) = _
    rw [if_pos h2]; rfl
theorem del_count {W : World} {B tb : Nat} {n : Int} {o : Option T} (h : TreeN W B tb n o) {m : Int} (hm : m = ((allO o).length : Int)) : TreeAt (W.setCell ⟨tb, 1, none⟩ (.int .i64 m)) B tb o := by
  have := tick h m
  subst hm
  exact ⟨this.tree, this.ins, this.nod, this.wf, this.base⟩
theorem plug_fork : ∀ (a b : Nat) (s : Bool) (o : T) (z : Zip) (t : T), ∃ fa fb fl fr, plug ((a, b, s, o) :: z) t = .fork fa fb fl fr := by
  have main : ∀ (z : Zip) (a b : Nat) (l r : T), ∃ fa fb fl fr, plug z (.fork a b l r) = .fork fa fb fl fr := by
    intro z
    induction z with
    | nil => intro a b l r; exact ⟨a, b, l, r, rfl⟩
    | cons y z ih =>
      intro a b l r
      obtain ⟨a2, b2, s, o⟩ := y
      cases s with
      | true => exact ih a2 b2 o (.fork a b l r)
      | false => exact ih a2 b2 (.fork a b l r) o
  intro a b s o z t
  cases s with
  | true => exact main z a b o t
  | false => exact main z a b t o
set_option maxRecDepth 100000 in
set_option maxHeartbeats 16000000 in
theorem del_any (q : Option Addr) (n c : Nat) (ks : List (List UInt8)) (w : World) (B tb : Nat) (o : Option T) (hn : ks.length = n) (hn9 : n ≤ 1000000) (hq : SlAt keyE 25 w q ks) (hks : ∀ k ∈ ks, k.length = 25) (hqB : ∀ a, q = some a → a.block ∉ tb :: addrsO o) (hT : TreeAt w B tb o) (hB : B ≤ w.heap.size) (hsz : (allO o).length ≤ 1000000) :
    Calls Try.prog 11 #[ptrA tb, .slice q n c] w fun e w' => ∃ gone, e = .returned (.int .i64 gone) ∧ ∃ o', DelSt w B tb o ks gone w' o' := by
  have HN := Lib.hid hn
  have HQ := Lib.hid hq
  have HKs := Lib.hid hks
  have HQB := Lib.hid hqB
  have HBs := Lib.hid hB
  have HSz := Lib.hid hsz
  have HFr : Hid (∀ a ∈ tb :: addrsO o, a < w.heap.size) := hT.lt
  have HT0 : Hid (DelSt w B tb o [] 0 w o) := ⟨hT, rfl, by omega, Turn.refl _ _, fun a h => h⟩
  clear hn hq hks hT hB hsz hqB
  unfold ptrA
  go_enter Try.func11, Try.ntmps11
  go_wp2_with fail
  go_loopw [5, 13] (fun vg vi wr => ∃ (i : Nat) (gone : Int) (o' : Option T), i ≤ n ∧ vi = .int .i64 i ∧ vg = .int .i64 gone ∧ 0 ≤ gone ∧ gone ≤ 1000000 ∧ Hid (DelSt w B tb o (ks.take i) gone wr o')) (fun _ vi _ => n - (intOf vi).toNat)
  case atStart => exact ⟨0, 0, o, Nat.zero_le _, rfl, rfl, by omega, by omega, HT0⟩
  case round =>
    obtain ⟨i, gone, o', hi, rfl, rfl, hg0, hg1, HD⟩ := hrel
    by_cases h1 : i < n
    · have h1i : (i : Int) < n := by omega
      obtain ⟨k, hk⟩ : ∃ k, k = ks[i]'(by rw [HN.out]; exact h1) := ⟨_, rfl⟩
      obtain ⟨qb, qo, rfl, hqb, hqr⟩ := HQ.out i (by rw [HN.out]; exact h1)
      rw [← hk] at hqr
      have HKl : Hid (k.length = 25) := HKs.out k (by rw [hk]; exact List.getElem_mem _)
      have HRk : Hid (wr.rangeAt qb (qo + i * 25) (bC k).toList) := range_of_block hqr (HD.out.turn.block qb hqb (HQB.out _ rfl))
      have HTk : Hid (ks.take (i + 1) = ks.take i ++ [k]) := by
        show _ = _
        rw [hk, List.take_succ_eq_append_getElem (by rw [HN.out]; exact h1)]
      have hpb := HD.out.turn.size
      clear hqr hk hqb
      have HX4 : Hid ((wr.alloc (.cells (bC k) 30)).heap[wr.heap.size]? = some (.cells (bC k) 30 (0, 0))) := heap_alloc_new _ _
      have HD4 : Hid (DelSt w B tb o (ks.take i) gone (wr.alloc (.cells (bC k) 30)) o') := HD.out.below (below_alloc1 _ _)
      have hz := wr.heap.size
      go_upto_region 5 with (first
        | ((with_reducible refine gate_ld 30 (.tmp 15) rfl ?_); refine wl_ldr rfl 30 _ rfl qb (qo + i * 25) (bC k).toList _ Try.underlying30 rfl (by rw [sizKey]; simp [bC, HKl.out]) rfl HRk.out ?_)
        | ((with_reducible refine gate_st 30 (.tmp 7) _ rfl ?_); refine wl_strn rfl _ _ _ rfl (bC k) z25A _ (by rw [sizKey, bC_size, HKl.out]) (by rw [bC_size, HKl.out]; rfl) (bC_one k) (by simp [Act.eval]) rfl ?_))
      generalize wr.alloc (.cells (bC k) 30) = W4 at *
      obtain ⟨kb, hkb⟩ : ∃ kb, kb = wr.heap.size := ⟨_, rfl⟩
      rw [← hkb] at HX4 ⊢
      clear hkb HD HRk hpb hz
      have KB := Lib.hid (fun W => keyBytes_any k W HKl.out)
      cases hf : findL (allO o') k with
      | none =>
        have KF : Hid (Calls Try.prog 34 #[.pointer (some ⟨tb, 0, none⟩), .agg (bC k)] W4 fun e w' => e = .returned (.pointer none) ∧ Below W4.heap.size W4 w') := by
          have := find_any k W4 B tb o' HKl.out HD4.out.at_
          rwa [find_none_of HD4.out.at_.wf hf] at this
        have HDm := Lib.hid (HD4.out.miss hf)
        go_wp2_with (first
          | ((with_reducible refine gate_ld 30 (.tmp 7) rfl ?_); refine wl_ldr rfl 30 _ rfl kb 0 (bC k).toList _ Try.underlying30 rfl (by rw [sizKey]; simp [bC, HKl.out]) rfl (range_whole (by simpa using HX4.out)) ?_)
          | (go_at_call 34; (refine KF.out.mono ?_); rintro e W5 ⟨rfl, hb5⟩; have HD5 := Lib.hid (HDm.out.below hb5); clear hb5))
        go_roundw
        case rel => exact ⟨i + 1, gone, o', by omega, by go_num, rfl, hg0, hg1, by rw [HTk.out]; exact HD5⟩
        case measure => simp [intOf]; omega
      | some j =>
        obtain ⟨t, ht, hnk, hfv⟩ := find_some_of HD4.out.at_.wf hf
        subst ht
        have KF : Hid (Calls Try.prog 34 #[.pointer (some ⟨tb, 0, none⟩), .agg (bC k)] W4 fun e w' => e = .returned (.pointer (some ⟨(T.near k t).1, 0, none⟩)) ∧ Below W4.heap.size W4 w') := by
          have := find_any k W4 B tb (some t) HKl.out HD4.out.at_
          rwa [hfv] at this
        have HNk := Lib.hid hnk
        have HF := Lib.hid hf
        clear hfv hnk hf
        generalize (T.near k t).1 = na at KF
        go_upto_region 7 with (first
          | ((with_reducible refine gate_ld 30 (.tmp 7) rfl ?_); refine wl_ldr rfl 30 _ rfl kb 0 (bC k).toList _ Try.underlying30 rfl (by rw [sizKey]; simp [bC, HKl.out]) rfl (range_whole (by simpa using HX4.out)) ?_)
          | ((with_reducible refine gate_ld 30 (.tmp 7) rfl ?_); refine wl_ldr rfl 30 _ rfl kb 0 (bC k).toList _ Try.underlying30 rfl (by rw [sizKey]; simp [bC, HKl.out]) rfl (range_whole (by simpa using HX5.out)) ?_)
          | (go_at_call 34; (refine KF.out.mono ?_); rintro e W5 ⟨rfl, hb5⟩; have HD5 := Lib.hid (HD4.out.below hb5); have HX5 : Hid (W5.heap[kb]? = some (.cells (bC k) 30 (0, 0))) := (hb5.block _ (lt_heap HX4.out)).trans HX4.out; clear hb5)
          | (go_at_call 35; (refine (KB.out _).mono ?_); rintro e W6 ⟨rfl, hb6⟩; have HD6 := Lib.hid (HD5.out.below hb6); have HD7 : Hid (DelSt w B tb o (ks.take i) gone (W6.alloc (.cells (bC k) 85)) (some t)) := HD6.out.below (below_alloc1 _ _); have HX7 : Hid ((W6.alloc (.cells (bC k) 85)).heap[W6.heap.size]? = some (.cells (bC k) 85 (0, 0))) := heap_alloc_new _ _; clear hb6)
          | ((with_reducible refine gate_st 85 (.tmp 8) _ rfl ?_); refine wl_strn rfl _ _ _ rfl (bC k) z25A _ (by rw [siz25, bC_size, HKl.out]) (by rw [bC_size, HKl.out]; rfl) (bC_one k) (by simp [Act.eval]) rfl ?_))
        generalize W6.alloc (.cells (bC k) 85) = W7 at *
        obtain ⟨bb, hbb⟩ : ∃ bb, bb = W6.heap.size := ⟨_, rfl⟩
        rw [← hbb] at HX7 ⊢
        clear hbb HX4 HX5 HD4 HD5 HD6 KF KB
        go_wp2_with fail
        go_loopg [9, 10] (t.sz + 1) (fun g vu vv wr => ∃ (z : Zip) (t' : T), plug z t' = t ∧ vv = .pointer (some (slotZ tb z)) ∧ vu = upV tb z ∧ t'.sz + 1 ≤ g ∧ Hid (Along k z) ∧ Hid (Below W7.heap.size W7 wr))
        case atStart => exact ⟨[], t, rfl, rfl, rfl, Nat.le_refl _, (fun x hx => by cases hx), Below.refl _ _⟩
        case round =>
          obtain ⟨z, t', hz, rfl, rfl, hg, HAl, HB⟩ := hrel
          have HZ := Lib.hid hz
          clear hz
          have HDr : Hid (DelSt w B tb o (ks.take i) gone wr (some t)) := HD7.out.below HB.out
          have HTr : Hid (TreeN wr B tb (t.all.length : Int) (some (plug z t'))) := by show TreeN _ _ _ _ _; rw [HZ.out]; exact HDr.out.at_.n
          have hin := (in_plug (w := wr) (tb := tb) (n := (t.all.length : Int)) z t').2 ⟨HTr.out.tree, HTr.out.ins⟩
          have HIn := Lib.hid hin
          clear hin
          obtain ⟨sb, so, hs⟩ := slot_at tb z
          have hcs := HIn.out.1.cell
          rw [hs] at hcs ⊢
          have HS := Lib.hid hs
          clear hs
          unfold ptrA at hcs
          have HXr : Hid (wr.heap[bb]? = some (.cells (bC k) 85 (0, 0))) := (HB.out.block _ (lt_heap HX7.out)).trans HX7.out
          cases t' with
          | fork a2 b2 l2 r2 =>
            have hroot : wr.heap[a2]? = some (.cells (forkC b2 l2.addr r2.addr).toArray NODE (0, 0)) := HIn.out.2.1
            have hc0 : wr.cell? ⟨a2, 0, none⟩ = some (.bool false) := by rw [cell_blk hroot]; rfl
            have hc52 : wr.cell? ⟨a2, 52, none⟩ = some (.int .i64 b2) := by rw [cell_blk hroot]; rfl
            have hal := lt_heap hroot
            have hb200 : b2 < 200 := (plug_WF z _ HTr.out.wf).1
            obtain ⟨p, hp⟩ : ∃ p, p = T.addr (.fork a2 b2 l2 r2) := ⟨_, rfl⟩
            have hp2 : p = a2 := hp
            rw [← hp2] at hc0 hc52 hal
            rw [← hp] at hcs
            have HP2 := Lib.hid hp2
            clear hroot hp hp2
            have hsl := lt_of_cell hcs
            have KS1 := Lib.hid (fun W => side_any k b2 W HKl.out hb200)
            have hsz : l2.sz + r2.sz + 1 + 1 ≤ gk := hg
            generalize upV tb z = uv at *
            cases hcb : bitOf k b2
            all_goals
              rw [hcb] at KS1
              simp only [sideI] at KS1
              go_upto_region 11 with fail
              try simp only [Act.put]
              refine wp_region_quiet_below (by kernel_rfl) (by kernel_rfl) ?_
              repeat (first
                | (refine wq_ld1 rfl 80 (.tmp 35) rfl sb so (.pointer (some ⟨p, 0, none⟩)) agN rfl hcs hsl ?_; simp only [Act.put, List.setIfInBounds_toArray, List.set_cons_zero, List.set_cons_succ])
                | (refine wq_ld1 rfl 80 (.tmp 39) rfl sb so (.pointer (some ⟨p, 0, none⟩)) agN rfl hcs hsl ?_; simp only [Act.put, List.setIfInBounds_toArray, List.set_cons_zero, List.set_cons_succ])
                | (refine wq_ld1 rfl 3 (.tmp 42) rfl p 52 (.int .i64 (b2 : Int)) ag3 rfl hc52 hal ?_; simp only [Act.put, List.setIfInBounds_toArray, List.set_cons_zero, List.set_cons_succ])
                | (with_reducible refine wq_ldr rfl 85 (.tmp 8) rfl bb 0 (bC k).toList _ Try.underlying85 rfl (by rw [siz25]; simp [bC, HKl.out]) rfl (range_whole (by simpa using HXr.out)) (lt_heap HXr.out) ?_; simp only [Act.put, List.setIfInBounds_toArray, List.set_cons_zero, List.set_cons_succ])
                | go_big_quiet_step (first | (exact rg_call KS1.out _ _)))
              refine wpQuiet_nil ?_
              rintro _ ⟨⟨dq2, osq2⟩, rfl⟩
              have HB8 : Hid (Below W7.heap.size W7 (Sort.grow (redrawn wr dq2) osq2)) := HB.out.trans ((below_regrown wr dq2 osq2).mono HB.out.size)
              clear hcs hc0 hc52 hal HTr HIn HXr HDr hsl KS1
              generalize Sort.grow (redrawn wr dq2) osq2 = W8 at *
              go_wp2_with fail
            · go_roundg (l2.sz + 1)
              case measure => omega
              case rel => exact ⟨(a2, b2, false, r2) :: z, l2, HZ.out, by rw [HP2.out]; rfl, by rw [← HS.out]; rfl, Nat.le_refl _, (fun y hy => by
                rcases List.mem_cons.1 hy with rfl | hy
                · exact hcb.symm
                · exact HAl.out y hy), HB8⟩
            · go_roundg (r2.sz + 1)
              case measure => omega
              case rel => exact ⟨(a2, b2, true, l2) :: z, r2, HZ.out, by rw [HP2.out]; rfl, by rw [← HS.out]; rfl, Nat.le_refl _, (fun y hy => by
                rcases List.mem_cons.1 hy with rfl | hy
                · exact hcb.symm
                · exact HAl.out y hy), HB8⟩
          | leaf a2 x2 v2 =>
            have hroot : wr.heap[a2]? = some (.cells (leafC x2 v2).toArray NODE (0, 0)) := HIn.out.2
            have hc0 : wr.cell? ⟨a2, 0, none⟩ = some (.bool true) := by rw [cell_blk hroot]; rfl
            have hx2 : x2 = k := by
              have h1 := HNk.out
              rw [← HZ.out, near_plug k z _ HAl.out] at h1
              exact h1
            have HAllD : Hid (allO (delTr k (some t)) = delL (allO (some t)) k) := delTr_all HDr.out.at_.wf
            obtain ⟨p, hp⟩ : ∃ p, p = T.addr (.leaf a2 x2 v2) := ⟨_, rfl⟩
            have hp2 : p = a2 := hp
            rw [← hp2] at hc0
            rw [← hp] at hcs
            have HX2 := Lib.hid hx2
            clear hroot hp hp2 hx2
            have hct : wr.cell? ⟨tb, 1, none⟩ = some (.int .i64 (t.all.length : Int)) := by rw [cell_blk HTr.out.tree]; rfl
            have hft0 : wr.frozen? ⟨tb, 0, none⟩ = false := by simp [World.frozen?, HTr.out.tree]
            have hft1 : wr.frozen? ⟨tb, 1, none⟩ = false := by simp [World.frozen?, HTr.out.tree]
            have hct0 : ∃ r, wr.cell? ⟨tb, 0, none⟩ = some r := ⟨_, by rw [cell_blk HTr.out.tree]; rfl⟩
            obtain ⟨r0, hct0⟩ := hct0
            obtain ⟨m, hm⟩ : ∃ m, m = t.all.length := ⟨_, rfl⟩
            have hmz : m ≤ 1000000 := by
              have h2 := HDr.out.gone
              have h3 := HSz.out
              have h4 : allO (some t) = t.all := rfl
              rw [h4, ← hm] at h2
              omega
            have hgone1 : gone + 1 ≤ 1000000 := by
              have h2 := HDr.out.gone
              have h3 := HSz.out
              have h4 : allO (some t) = t.all := rfl
              obtain ⟨hj, _⟩ := find_some HF.out
              rw [h4] at h2 hj
              omega
            rw [← hm] at hct
            have HM := Lib.hid hm
            clear hm
            cases z with
            | nil =>
              have HO2 : Hid (delTr k (some t) = none) := by
                show _ = _
                rw [← HZ.out]
                show (if x2 = k then _ else _) = _
                rw [if_pos HX2.out]
              simp only [upV]
              go_wp2_with fail
              go_roundw
              case rel =>
                have hlen0 : m = 1 := by rw [HM.out, ← HZ.out]; rfl
                refine ⟨i + 1, gone + 1, none, by omega, by go_num, by go_num, by omega, by omega, ?_⟩
                rw [HTk.out]
                have ht1 : ((wr.setCell ⟨tb, 0, none⟩ (.pointer none))).heap[tb]? = some (.cells #[.pointer none, .int .i64 (t.all.length : Int)] TREE (0, 0)) := heap_setCell_self _ HTr.out.tree
                refine HDr.out.hit HF.out (o2 := none) ⟨?_, trivial, by simp [addrsO], trivial, fun y hy => HTr.out.base y (by simp [addrsO] at hy; simp [hy])⟩ (by rw [← HAllD.out, HO2.out]) ?_ (fun y hy => by cases hy)
                · have := heap_setCell_self (i := 1) (.int .i64 ((m : Int) - 1)) ht1
                  rw [this]
                  rw [hlen0]
                  rfl
                · exact ((Turn.setCell tb 0 _ wr).trans (Turn.setCell tb 1 _ _)).mono fun y _ hy => by simp at hy; subst hy; simp
              case measure => simp [intOf]; omega
            | cons y z =>
              obtain ⟨a, b, s, oo⟩ := y
              have HO2 : Hid (delTr k (some t) = some (T.del k t)) := by
                show _ = _
                obtain ⟨fa, fb, fl, fr, hf⟩ := plug_fork a b s oo z (.leaf a2 x2 v2)
                rw [HZ.out] at hf
                have h1 := HNk.out
                rw [hf] at h1 ⊢
                show (if _ then _ else _) = _
                rw [if_pos h1]
              obtain ⟨sb2, so2, hs2⟩ := slot_at tb z
              simp only [upV]
              have hb200 : b < 200 := by
                have hw := HTr.out.wf
                cases s with
                | true => exact (plug_WF z (.fork a b oo (.leaf a2 x2 v2)) hw).1
                | false => exact (plug_WF z (.fork a b (.leaf a2 x2 v2) oo) hw).1
              have hsk : s = bitOf k b := HAl.out (a, b, s, oo) (by simp)
              have KS1 := Lib.hid (fun W => side_any k b W HKl.out hb200)
              have HDi : Hid (∀ W, TreeN W B tb (m : Int) (some t) → TreeN (W.setCell ⟨sb2, so2, none⟩ (.pointer (some ⟨oo.addr, 0, none⟩))) B tb (m : Int) (some (T.del k t))) := fun W h => by
                rw [← HZ.out] at h ⊢
                have := del_in h HAl.out
                rw [hs2] at this
                exact this
              have HSm : Hid (sb2 ∈ tb :: addrsO (some t)) := by
                show sb2 ∈ tb :: t.addrs
                have h1 : (slotZ tb z).block ∈ tb :: (plug ((a, b, s, oo) :: z) (.leaf a2 x2 v2)).addrs := by
                  cases s with
                  | true => exact slot_mem tb z (.fork a b oo (.leaf a2 x2 v2))
                  | false => exact slot_mem tb z (.fork a b (.leaf a2 x2 v2) oo)
                rw [hs2, HZ.out] at h1
                exact h1
              have HSub : Hid (∀ g ∈ addrsO (some (T.del k t)), g ∈ addrsO (some t)) := fun g hg => by
                have hg : g ∈ (T.del k t).addrs := hg
                show g ∈ t.addrs
                rw [← HZ.out] at hg ⊢
                exact del_addrs HAl.out g hg
              have HLn : Hid (((m : Int) - 1) = ((allO (some (T.del k t))).length : Int)) := by
                show _ = _
                rw [← HO2.out, HAllD.out]
                have h1 := delL_len HF.out
                have h2 : (allO (some t)).length = m := HM.out.symm
                omega
              rw [hs2]
              have hcs2 : wr.cell? ⟨sb2, so2, none⟩ = some (.pointer (some ⟨a, 0, none⟩)) := by
                have h1 : InZ wr tb (t.all.length : Int) z a := by
                  cases s with
                  | true => exact HIn.out.1.2.2
                  | false => exact HIn.out.1.2.2
                have := h1.cell
                rw [hs2] at this
                exact this
              have hfs2 : wr.frozen? ⟨sb2, so2, none⟩ = false := by
                have h1 : InZ wr tb (t.all.length : Int) z a := by
                  cases s with
                  | true => exact HIn.out.1.2.2
                  | false => exact HIn.out.1.2.2
                have := h1.frozen
                rw [hs2] at this
                exact this
              have hc52 : wr.cell? ⟨a, 52, none⟩ = some (.int .i64 b) := by
                cases s with
                | true => rw [cell_blk HIn.out.1.1]; rfl
                | false => rw [cell_blk HIn.out.1.1]; rfl
              have hco : wr.cell? ⟨a, if s then 53 else 54, none⟩ = some (.pointer (some ⟨oo.addr, 0, none⟩)) := by
                cases s with
                | true => show wr.cell? ⟨a, 53, none⟩ = _; rw [cell_blk HIn.out.1.1]; rfl
                | false => show wr.cell? ⟨a, 54, none⟩ = _; rw [cell_blk HIn.out.1.1]; rfl
              have hal := lt_of_cell hc52
              have hsl := lt_of_cell hcs2
              rw [← hsk] at KS1
              have HTm : Hid (TreeN wr B tb (m : Int) (some t)) := by show TreeN _ _ _ _ _; rw [HM.out]; exact HDr.out.at_.n
              clear hs2 hsk hft0 hft1 hct hct0 HTr HIn hb200
              generalize oo.addr = oa at *
              cases s
              all_goals
                simp only [sideI, Bool.false_eq_true, if_false, if_true] at KS1 hco
                go_upto_region 14 with fail
                refine wp_region_below_tail 18 (by kernel_rfl) (by kernel_rfl) ?_
                simp only [List.take_succ_cons, List.take_zero, List.drop_succ_cons, List.drop_zero]
                repeat (first
                  | (refine wq_ld1 rfl 80 (.tmp 55) rfl sb2 so2 (.pointer (some ⟨a, 0, none⟩)) agN rfl hcs2 hsl ?_; simp only [Act.put, List.setIfInBounds_toArray, List.set_cons_zero, List.set_cons_succ])
                  | (refine wq_ld1 rfl 80 (.tmp 59) rfl sb2 so2 (.pointer (some ⟨a, 0, none⟩)) agN rfl hcs2 hsl ?_; simp only [Act.put, List.setIfInBounds_toArray, List.set_cons_zero, List.set_cons_succ])
                  | (refine wq_ld1 rfl 3 (.tmp 62) rfl a 52 (.int .i64 (b : Int)) ag3 rfl hc52 hal ?_; simp only [Act.put, List.setIfInBounds_toArray, List.set_cons_zero, List.set_cons_succ])
                  | (with_reducible refine wq_ldr rfl 85 (.tmp 8) rfl bb 0 (bC k).toList _ Try.underlying85 rfl (by rw [siz25]; simp [bC, HKl.out]) rfl (range_whole (by simpa using HXr.out)) (lt_heap HXr.out) ?_; simp only [Act.put, List.setIfInBounds_toArray, List.set_cons_zero, List.set_cons_succ])
                  | (refine wq_val (.int .i64 ((1 - 0 : Nat) : Int)) rfl (fun w => exec_1s (.tmp 64) rfl 0 (by omega) rfl) ?_; simp only [Act.put, List.setIfInBounds_toArray, List.set_cons_zero, List.set_cons_succ])
                  | (refine wq_val (.int .i64 ((1 - 1 : Nat) : Int)) rfl (fun w => exec_1s (.tmp 64) rfl 1 (by omega) rfl) ?_; simp only [Act.put, List.setIfInBounds_toArray, List.set_cons_zero, List.set_cons_succ])
                  | (refine wq_ld1 rfl 80 (.tmp 68) rfl a 54 (.pointer (some ⟨oa, 0, none⟩)) agN rfl hco hal ?_; simp only [Act.put, List.setIfInBounds_toArray, List.set_cons_zero, List.set_cons_succ])
                  | (refine wq_ld1 rfl 80 (.tmp 68) rfl a 53 (.pointer (some ⟨oa, 0, none⟩)) agN rfl hco hal ?_; simp only [Act.put, List.setIfInBounds_toArray, List.set_cons_zero, List.set_cons_succ])
                  | go_big_quiet_step (first | (exact rg_call KS1.out _ _)))
                refine wpQuiet_nil ?_
                rintro _ ⟨⟨dq2, osq2⟩, rfl⟩
                have hbel := below_regrown wr dq2 osq2
                have hcs9 : (Sort.grow (redrawn wr dq2) osq2).cell? ⟨sb2, so2, none⟩ = some (.pointer (some ⟨a, 0, none⟩)) := (cell_of (hbel.block _ hsl) so2).trans hcs2
                have hfs9 : (Sort.grow (redrawn wr dq2) osq2).frozen? ⟨sb2, so2, none⟩ = false := (frozen_of (hbel.block _ hsl) so2).trans hfs2
                have HT9 : Hid (TreeN (Sort.grow (redrawn wr dq2) osq2) B tb (m : Int) (some t)) := HTm.out.below hbel
                have HB9 : Hid (Below wr.heap.size wr (Sort.grow (redrawn wr dq2) osq2)) := hbel
                clear hbel hcs2 hfs2 hsl hal hc52 hco HTm KS1 HXr hcs hc0
                generalize Sort.grow (redrawn wr dq2) osq2 = W9 at *
                go_upto_region 15 with fail
                have HT10 := Lib.hid (HDi.out W9 HT9.out)
                have HTu10 : Hid (Turn (tb :: addrsO (some t)) wr (W9.setCell ⟨sb2, so2, none⟩ (.pointer (some ⟨oa, 0, none⟩)))) := (Turn.of_below HB9.out).trans ((Turn.setCell sb2 so2 _ W9).mono fun y _ hy => by
                  rw [List.mem_singleton] at hy
                  rw [hy]; exact HSm.out)
                generalize W9.setCell ⟨sb2, so2, none⟩ (.pointer (some ⟨oa, 0, none⟩)) = W10 at *
                have hct : W10.cell? ⟨tb, 1, none⟩ = some (.int .i64 (m : Int)) := by rw [cell_blk HT10.out.tree]; rfl
                have hft1 : W10.frozen? ⟨tb, 1, none⟩ = false := by simp [World.frozen?, HT10.out.tree]
                clear hcs9 hfs9 HDi HT9
                go_wp2_with fail
                go_roundw
                case rel =>
                  refine ⟨i + 1, gone + 1, some (T.del k t), by omega, by go_num, by go_num, by omega, by omega, ?_⟩
                  rw [HTk.out]
                  refine HDr.out.hit HF.out (o2 := some (T.del k t)) (del_count HT10.out HLn.out) (by rw [← HAllD.out, HO2.out]) ?_ HSub.out
                  exact HTu10.out.trans ((Turn.setCell tb 1 _ W10).mono fun y _ hy => by simp at hy; subst hy; simp)
                case measure => simp [intOf]; omega
    · have h1i : ¬ (i : Int) < n := by omega
      obtain rfl : i = n := by omega
      go_wp2_with fail
      go_ret
      refine ⟨gone, rfl, o', ?_⟩
      have := HD.out
      rwa [List.take_of_length_le (by rw [HN.out]; exact Nat.le_refl _)] at this
end Go.Proofs.Ytagdedjclbmlkaa
