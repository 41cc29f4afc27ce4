/- Publish. -/
import Derived.Test.YtnafcbmpjjlhnaaK20
namespace Go.Proofs.Ytnafcbmpjjlhnaa
open Go.RowKit

theorem rgC_nil {j i : Nat} (hi : i < 8) (hne : i ≠ j) (v : Value) : (rgC j v).toArray[i]? = some (.pointer none) := by
  rw [List.getElem?_toArray]
  unfold rgC
  rcases Nat.lt_or_ge i j with h | h
  · rw [List.append_assoc, List.getElem?_append_left (by simp; omega), List.getElem?_take, if_pos h, List.getElem?_replicate, if_pos hi]
  · rw [List.getElem?_append_right (by simp; omega), List.getElem?_drop, List.getElem?_replicate, if_pos (by simp; omega)]
def stepW (t : Int) (s : Wt × Nat) (r : Wr) : Wt × Nat := (handW s.1 (evOf t r), if accW s.1 (evOf t r) = true then s.2 + 1 else s.2)
/-- What Publish makes of a watcher, and how many events it takes. -/
def pubP (x : Wt) (t : Int) (ds : List Wr) : Wt × Nat := ds.foldl (stepW t) (x, 0)
theorem pubP_succ (x : Wt) (t : Int) (ds : List Wr) (m : Nat) (h : m < ds.length) : pubP x t (ds.take (m + 1)) = stepW t (pubP x t (ds.take m)) ds[m] := by
  unfold pubP
  rw [List.take_succ_eq_append_getElem h, List.foldl_append]; rfl
theorem pubP_le (x : Wt) (t : Int) (ds : List Wr) : (pubP x t ds).1.queue.length ≤ x.queue.length + ds.length ∧ (pubP x t ds).2 ≤ ds.length := by
  have h : ∀ (ds : List Wr) (s : Wt × Nat), (ds.foldl (stepW t) s).1.queue.length ≤ s.1.queue.length + ds.length ∧ (ds.foldl (stepW t) s).2 ≤ s.2 + ds.length := fun ds => by
    induction ds with
    | nil => intro s; simp
    | cons r rs ih =>
      intro s
      have h1 := ih (stepW t s r)
      have h2 := handW_len s.1 (evOf t r)
      have h3 : (stepW t s r).2 ≤ s.2 + 1 := by unfold stepW; simp only; split <;> omega
      have h4 : (stepW t s r).1 = handW s.1 (evOf t r) := rfl
      rw [h4] at h1
      simp only [List.foldl_cons, List.length_cons]
      omega
  have := h ds (x, 0)
  simpa [pubP] using this
set_option maxRecDepth 100000 in
set_option maxHeartbeats 8000000 in
theorem publish_any (B g j p : Nat) (hj : j < 8) (x : Wt) (qv : Value) (t : Int) (q : Option Addr) (n c : Nat) (ws : List Wr) (w : World)
    (hg : w.heap[g]? = some (.cells (rgC j (.pointer (some ⟨p, 0, none⟩))).toArray 37 (0, 0))) (hx : WtAt B w p x qv) (hB : B ≤ w.heap.size)
    (hn : ws.length = n) (hq : SlAt wrC 35 w q ws) (hq0 : q = none → n = 0 ∧ c = 0) (hn20 : n ≤ 20) (hql : x.queue.length ≤ 900) :
    Calls Try.prog 7 #[.pointer (some ⟨g, 0, none⟩), .int .u64 t, .slice q n c] w fun e w' => e = .returned (.int .i64 ((pubP x t (srt ws)).2 : Int)) ∧ ∃ qv', WtAt B w' p (pubP x t (srt ws)).1 qv' ∧ Turn (p :: qv.ownBlock.toList) w w' ∧ (qv'.ownBlock = qv.ownBlock ∨ ∃ g', qv'.ownBlock = some g' ∧ w.heap.size ≤ g') := by
  obtain ⟨X1, hX1⟩ : ∃ X1, X1 = (pubP x t (srt ws)).1 := ⟨_, rfl⟩
  obtain ⟨N1, hN1⟩ : ∃ N1, N1 = (pubP x t (srt ws)).2 := ⟨_, rfl⟩
  rw [← hX1, ← hN1]
  have HX1 := Lib.hid hX1
  have HN1 := Lib.hid hN1
  clear hX1 hN1
  have KC := Lib.hid (cloneW_any q n c ws w hn hq hq0 (by omega))
  have HG := Lib.hid hg
  have HX := Lib.hid hx
  have HBz := Lib.hid hB
  have HN := Lib.hid hn
  have HQL := Lib.hid hql
  clear hg hx hB hn hq hq0 hql
  go_enter Try.func7, Try.ntmps7
  go_upto_region 4 with (go_at_call 16; (refine KC.out.mono ?_); rintro e W1 ⟨v, rfl, hv, hb1⟩; have HV := Lib.hid (rows_of hv); have HB1 := Lib.hid hb1; clear hv hb1)
  have KS := Lib.hid (sortR_any w.heap.size v ws W1 HV.out (by have := HN.out; omega) HB1.out.size)
  obtain ⟨q2, cap2, hv2⟩ := HV.out.slice
  rw [HN.out] at hv2
  subst hv2
  obtain ⟨ds, hds⟩ : ∃ ds, ds = srt ws := ⟨_, rfl⟩
  rw [← hds] at KS
  have HD := Lib.hid hds
  have HDL : Hid (ds.length = n) := by show _ = _; rw [hds, size_srt]; exact HN.out
  clear hds
  go_upto_region 6 with (go_at_call 17; (refine KS.out.mono ?_); rintro e W2 ⟨rfl, hv, hb1⟩; have HR2 := Lib.hid hv; have HB2 := Lib.hid (HB1.out.trans hb1); clear hv hb1)
  have HX2 : Hid (WtAt B W2 p x qv) := HX.out.keep (HB2.out.block _ (lt_heap HX.out.blk)) fun g' hg' => HB2.out.block _ (HX.out.own.lt g' hg').2
  have HG2 : Hid (W2.heap[g]? = some (.cells (rgC j (.pointer (some ⟨p, 0, none⟩))).toArray 37 (0, 0))) := (HB2.out.block _ (lt_heap HG.out)).trans HG.out
  have HT2 : Hid (Turn (p :: qv.ownBlock.toList) w W2) := Turn.of_below HB2.out
  clear HX HG HV HB1 KS KC HB2
  go_wp2_with fail
  go_loopw [8, 20] (fun cnt vi wr => ∃ (k : Nat) (qk : Value), k ≤ 8 ∧ vi = .int .i64 k ∧ Hid (Rows w.heap.size wr (.slice q2 n cap2) ds) ∧ Hid (wr.heap[g]? = some (.cells (rgC j (.pointer (some ⟨p, 0, none⟩))).toArray 37 (0, 0))) ∧ Hid (Turn (p :: qv.ownBlock.toList) w wr) ∧ Hid (qk.ownBlock = qv.ownBlock ∨ ∃ g', qk.ownBlock = some g' ∧ w.heap.size ≤ g') ∧
      ((k ≤ j ∧ cnt = .int .i64 0 ∧ Hid (WtAt B wr p x qk)) ∨ (j < k ∧ cnt = .int .i64 (N1 : Nat) ∧ Hid (WtAt B wr p X1 qk)))) (fun _ vi _ => 8 - (intOf vi).toNat)
  case atStart => exact ⟨0, qv, by omega, rfl, HR2, HG2, HT2, Or.inl rfl, Or.inl ⟨Nat.zero_le _, rfl, HX2⟩⟩
  case round =>
    obtain ⟨k, qk, hk, rfl, HRr, HGr, HTr, HQr, hd⟩ := hrel
    by_cases h8 : k < 8
    · have hki : (k : Int) < 8 := by omega
      by_cases hkj : k = j
      · subst hkj
        obtain ⟨h1, rfl, HXr⟩ | ⟨h1, _, _⟩ := hd
        rotate_left
        · omega
        have hc : wr.cell? ⟨g, k, none⟩ = some (.pointer (some ⟨p, 0, none⟩)) := by rw [cell_blk HGr.out]; exact rgC_get h8 _
        have KH := Lib.hid (hand_any p wr)
        obtain ⟨bx, hbx⟩ : ∃ bx, bx = wr.heap.size := ⟨_, rfl⟩
        rw [← hbx] at KH
        go_wp2_with (go_at_call 20; (refine KH.out.mono ?_); rintro e W3 ⟨rfl, hb3, hl3⟩; have HBX := Lib.hid hb3; have HL3 := Lib.hid (show Below wr.heap.size wr W3 by rw [← hbx]; exact hl3); clear hb3 hl3 hbx)
        go_loopw [8, 35] (fun cnt vi wi => ∃ (m : Nat) (qm : Value), m ≤ n ∧ vi = .int .i64 m ∧ cnt = .int .i64 ((pubP x t (ds.take m)).2 : Nat) ∧ Hid (WtAt B wi p (pubP x t (ds.take m)).1 qm) ∧ Hid (Rows w.heap.size wi (.slice q2 n cap2) ds) ∧ Hid (wi.heap[g]? = some (.cells (rgC k (.pointer (some ⟨p, 0, none⟩))).toArray 37 (0, 0))) ∧ Hid (Turn (p :: qv.ownBlock.toList) w wi) ∧ Hid (qm.ownBlock = qv.ownBlock ∨ ∃ g', qm.ownBlock = some g' ∧ w.heap.size ≤ g') ∧ Hid (wi.heap[bx]? = some (.cells #[.pointer (some ⟨p, 0, none⟩)] 34 (0, 0)))) (fun _ vi _ => n - (intOf vi).toNat)
        case atStart => exact ⟨0, qk, Nat.zero_le _, rfl, rfl, HXr.out.below HL3.out, HRr.out.keep (fun g cs T fr h _ => HL3.out.block _ (lt_heap h)), (HL3.out.block _ (lt_heap HGr.out)).trans HGr.out, HTr.out.trans (Turn.of_below HL3.out), HQr, HBX⟩
        case round =>
          obtain ⟨m, qm, hm, rfl, rfl, HXi, HRi, HGi, HTi, HQi, HBi⟩ := hrel
          by_cases hmn : m < n
          · have hmi : (m : Int) < n := by omega
            obtain ⟨he, hde⟩ | ⟨gr, cp, tail, he, hbg, hw⟩ := HRi.out
            · rw [hde] at HDL; have := HDL.out; simp at this; omega
            simp only [Value.slice.injEq] at he
            obtain ⟨rfl, he2, he3⟩ := he
            clear he2 he3
            have hml : m < ds.length := by rw [HDL.out]; exact hmn
            obtain ⟨r, hr⟩ : ∃ r, r = ds[m] := ⟨_, rfl⟩
            have HRow : Hid (wr.rangeAt gr (m * 35) (wrC r)) := by
              have h := hw.range m (by simpa using hml)
              rw [getElem!_pos ds.toArray m (by simpa using hml), Nat.zero_add] at h
              show wr.rangeAt _ _ _
              rw [hr]; simpa using h
            have HRe := Lib.hid hr
            clear hr hw
            go_upto_region 15 with (first | ((with_reducible refine gate_ld 58 (.tmp 37) rfl ?_); refine wl_ldr rfl 58 _ rfl gr (m * 35) (wrC r) _ Try.underlying58 rfl (by rw [sizWr, wrC_len]) rfl HRow.out ?_) | ((with_reducible refine gate_st 58 (.tmp 13) _ rfl ?_); refine wl_strn rfl _ _ _ rfl (wrC r).toArray #[Value.int IntKind.u8 0, Value.int IntKind.u8 0, Value.int IntKind.u8 0, Value.int IntKind.u8 0, Value.int IntKind.u8 0, Value.int IntKind.u8 0, Value.int IntKind.u8 0, Value.int IntKind.u8 0, Value.int IntKind.u8 0, Value.int IntKind.u8 0, Value.int IntKind.u8 0, Value.int IntKind.u8 0, Value.int IntKind.u8 0, Value.int IntKind.u8 0, Value.int IntKind.u8 0, Value.int IntKind.u8 0, Value.int IntKind.u8 0, Value.int IntKind.u8 0, Value.int IntKind.u8 0, Value.int IntKind.u8 0, Value.int IntKind.u8 0, Value.int IntKind.u8 0, Value.int IntKind.u8 0, Value.int IntKind.u8 0, Value.int IntKind.u8 0, Value.bool false, Value.int IntKind.u8 0, Value.int IntKind.u8 0, Value.int IntKind.u8 0, Value.int IntKind.u8 0, Value.int IntKind.u8 0, Value.bool false, Value.int IntKind.u32 0, Value.int IntKind.u64 0, Value.string ⟨#[]⟩] _ (by rw [sizWr]; simp [wrC_len]) (by simp [wrC_len]) (by rw [← Array.all_toList]; exact wrC_one r) (by simp [Act.eval]) rfl ?_))
            have HB4 := Lib.hid (below_alloc1 wr (.cells (wrC r).toArray 58))
            have HN4 : Hid ((wr.alloc (.cells (wrC r).toArray 58)).heap[wr.heap.size]? = some (.cells (wrC r).toArray 58 (0, 0))) := heap_alloc_new _ _
            generalize wr.alloc (.cells (wrC r).toArray 58) = W4 at *
            have HK4 : Hid (W4.rangeAt wr.heap.size 0 (bC r.key).toList) := wr_key (range_whole HN4.out)
            have hdd : W4.cell? ⟨wr.heap.size, 25, none⟩ = some (.bool r.dead) := by rw [cell_blk HN4.out]; simp [wrC, bC, r.lkey]
            have HX4 := Lib.hid (HXi.out.below HB4.out)
            have HL4 : Hid ((pubP x t (ds.take m)).1.queue.length ≤ 1000) := by show _ ≤ _; have h1 := (pubP_le x t (ds.take m)).1; have h2 := HQL.out; rw [List.length_take] at h1; omega
            have KD := Lib.hid (handed_any B p bx _ qm (evOf t r) W4 (by have := HBz.out; have := HTi.out.size; have := HB4.out.size; omega) HX4.out ((HB4.out.block _ (lt_heap HBi.out)).trans HBi.out) HL4.out)
            have HS : Hid (pubP x t (ds.take (m + 1)) = stepW t (pubP x t (ds.take m)) r) := by show _ = _; rw [pubP_succ _ _ _ _ hml, HRe.out]
            have hcb : (pubP x t (ds.take m)).2 ≤ 20 := by have h1 := (pubP_le x t (ds.take m)).2; rw [List.length_take] at h1; omega
            obtain ⟨c0, hc0⟩ : ∃ c0, c0 = (pubP x t (ds.take m)).2 := ⟨_, rfl⟩
            rw [← hc0] at hcb ⊢
            cases hacc : accW (pubP x t (ds.take m)).1 (evOf t r) <;> rw [hacc] at KD
            · go_wp2_with (first
                | ((with_reducible refine gate_ld 30 (.tmp 41) rfl ?_); refine wl_ldr rfl 30 _ rfl wr.heap.size 0 (bC r.key).toList _ Try.underlying30 rfl (by rw [sizKey]; simp [bC_size, r.lkey]) rfl HK4.out ?_)
                | ((with_reducible refine gate_bd 52 _ rfl ?_); refine wl_bd rfl _ [(0, .tmp 40), (1, .tmp 42), (2, .tmp 44)] rfl [(0, .int .u64 t), (1, .agg (bC r.key)), (2, .bool r.dead)] rfl (evC (evOf t r)).toArray (builtEv t r) ?_)
                | (go_at_call 26; (refine KD.out.mono ?_); rintro e W5 ⟨rfl, q5, hx5, ht5, hq5⟩; have HX5 := Lib.hid hx5; have HT5 := Lib.hid ht5; have HQ5 := Lib.hid hq5; clear hx5 ht5 hq5))
              have k5 : ∀ (b : Nat) (cs : Array Value) (T : TypeId) (fr : Nat × Nat), W4.heap[b]? = some (Obj.cells cs T fr) → T ≠ 67 → T ≠ 52 → W5.heap[b]? = W4.heap[b]? := fun b cs T fr h hT hE => HT5.out.block b (lt_heap h) (fun hm => by
                rcases List.mem_cons.1 hm with h1 | h1
                · exact ty_ne h HX4.out.blk hT h1
                · exact own_ne HX4.out.own h hE (by cases hq' : qm.ownBlock with
                    | none => simp [hq'] at h1
                    | some g' => simp [hq'] at h1; rw [h1]))
              have HR4 := HRi.out.keep (w' := W4) (fun b cs T fr h _ => HB4.out.block _ (lt_heap h))
              have HR5 := Lib.hid (HR4.keep (w' := W5) (fun b cs T fr h hT => k5 b cs T fr h (by rw [hT]; decide) (by rw [hT]; decide)))
              have hg4 := (HB4.out.block _ (lt_heap HGi.out)).trans HGi.out
              have HG5 := Lib.hid ((k5 _ _ _ _ hg4 (by decide) (by decide)).trans hg4)
              have hb4 := (HB4.out.block _ (lt_heap HBi.out)).trans HBi.out
              have HBx5 := Lib.hid ((k5 _ _ _ _ hb4 (by decide) (by decide)).trans hb4)
              have HT6 := Lib.hid (turn_chain (HTi.out.trans (Turn.of_below HB4.out)) HT5.out HQi.out)
              have HQ6 : Hid (q5.ownBlock = qv.ownBlock ∨ ∃ g', q5.ownBlock = some g' ∧ w.heap.size ≤ g') := by
                rcases HQ5.out with h | ⟨g', h1, h2⟩
                · rcases HQi.out with h3 | ⟨g', h3, h4⟩
                  · exact Or.inl (h.trans h3)
                  · exact Or.inr ⟨g', h.trans h3, h4⟩
                · exact Or.inr ⟨g', h1, Nat.le_trans HTi.out.size (Nat.le_trans HB4.out.size h2)⟩
              have h1 : (pubP x t (ds.take (m + 1))).1 = handW (pubP x t (ds.take m)).1 (evOf t r) := by rw [HS.out]; rfl
              have h2 : (pubP x t (ds.take (m + 1))).2 = (pubP x t (ds.take m)).2 := by rw [HS.out]; simp [stepW, hacc]
              rw [← h1] at HX5
              go_roundw
              case rel => exact ⟨m + 1, q5, by omega, by go_num, by rw [h2, ← hc0], HX5, HR5, HG5, HT6, HQ6, HBx5⟩
              case measure => simp [intOf]; omega
            · go_wp2_with (first
                | ((with_reducible refine gate_ld 30 (.tmp 41) rfl ?_); refine wl_ldr rfl 30 _ rfl wr.heap.size 0 (bC r.key).toList _ Try.underlying30 rfl (by rw [sizKey]; simp [bC_size, r.lkey]) rfl HK4.out ?_)
                | ((with_reducible refine gate_bd 52 _ rfl ?_); refine wl_bd rfl _ [(0, .tmp 40), (1, .tmp 42), (2, .tmp 44)] rfl [(0, .int .u64 t), (1, .agg (bC r.key)), (2, .bool r.dead)] rfl (evC (evOf t r)).toArray (builtEv t r) ?_)
                | (go_at_call 26; (refine KD.out.mono ?_); rintro e W5 ⟨rfl, q5, hx5, ht5, hq5⟩; have HX5 := Lib.hid hx5; have HT5 := Lib.hid ht5; have HQ5 := Lib.hid hq5; clear hx5 ht5 hq5))
              have k5 : ∀ (b : Nat) (cs : Array Value) (T : TypeId) (fr : Nat × Nat), W4.heap[b]? = some (Obj.cells cs T fr) → T ≠ 67 → T ≠ 52 → W5.heap[b]? = W4.heap[b]? := fun b cs T fr h hT hE => HT5.out.block b (lt_heap h) (fun hm => by
                rcases List.mem_cons.1 hm with h1 | h1
                · exact ty_ne h HX4.out.blk hT h1
                · exact own_ne HX4.out.own h hE (by cases hq' : qm.ownBlock with
                    | none => simp [hq'] at h1
                    | some g' => simp [hq'] at h1; rw [h1]))
              have HR4 := HRi.out.keep (w' := W4) (fun b cs T fr h _ => HB4.out.block _ (lt_heap h))
              have HR5 := Lib.hid (HR4.keep (w' := W5) (fun b cs T fr h hT => k5 b cs T fr h (by rw [hT]; decide) (by rw [hT]; decide)))
              have hg4 := (HB4.out.block _ (lt_heap HGi.out)).trans HGi.out
              have HG5 := Lib.hid ((k5 _ _ _ _ hg4 (by decide) (by decide)).trans hg4)
              have hb4 := (HB4.out.block _ (lt_heap HBi.out)).trans HBi.out
              have HBx5 := Lib.hid ((k5 _ _ _ _ hb4 (by decide) (by decide)).trans hb4)
              have HT6 := Lib.hid (turn_chain (HTi.out.trans (Turn.of_below HB4.out)) HT5.out HQi.out)
              have HQ6 : Hid (q5.ownBlock = qv.ownBlock ∨ ∃ g', q5.ownBlock = some g' ∧ w.heap.size ≤ g') := by
                rcases HQ5.out with h | ⟨g', h1, h2⟩
                · rcases HQi.out with h3 | ⟨g', h3, h4⟩
                  · exact Or.inl (h.trans h3)
                  · exact Or.inr ⟨g', h.trans h3, h4⟩
                · exact Or.inr ⟨g', h1, Nat.le_trans HTi.out.size (Nat.le_trans HB4.out.size h2)⟩
              have h1 : (pubP x t (ds.take (m + 1))).1 = handW (pubP x t (ds.take m)).1 (evOf t r) := by rw [HS.out]; rfl
              have h2 : (pubP x t (ds.take (m + 1))).2 = (pubP x t (ds.take m)).2 + 1 := by rw [HS.out]; simp [stepW, hacc]
              rw [← h1] at HX5
              go_roundw
              case rel => exact ⟨m + 1, q5, by omega, by go_num, by rw [h2, ← hc0]; go_num, HX5, HR5, HG5, HT6, HQ6, HBx5⟩
              case measure => simp [intOf]; omega
          · obtain rfl : m = n := by omega
            have hmi : ¬ (m : Int) < m := by omega
            have HE : Hid ((pubP x t (ds.take m)).1 = X1 ∧ (pubP x t (ds.take m)).2 = N1) := by show _ ∧ _; rw [List.take_of_length_le (Nat.le_of_eq HDL.out), HD.out, HX1.out, HN1.out]; exact ⟨rfl, rfl⟩
            rw [HE.out.1] at HXi
            rw [HE.out.2]
            go_wp2_with fail
            go_roundw
            case rel => exact ⟨k + 1, qm, by omega, by go_num, HRi, HGi, HTi, HQi, Or.inr ⟨by omega, rfl, HXi⟩⟩
            case measure => simp [intOf]; omega
      · have hc : wr.cell? ⟨g, k, none⟩ = some (.pointer none) := by rw [cell_blk HGr.out]; exact rgC_nil h8 hkj _
        obtain ⟨h1, rfl, HXr⟩ | ⟨h1, rfl, HXr⟩ := hd
        · go_wp2_with fail
          go_roundw
          case rel => exact ⟨k + 1, qk, by omega, by go_num, HRr, HGr, HTr, HQr, Or.inl ⟨by omega, rfl, HXr⟩⟩
          case measure => simp [intOf]; omega
        · go_wp2_with fail
          go_roundw
          case rel => exact ⟨k + 1, qk, by omega, by go_num, HRr, HGr, HTr, HQr, Or.inr ⟨by omega, rfl, HXr⟩⟩
          case measure => simp [intOf]; omega
    · have hki : ¬ (k : Int) < 8 := by omega
      obtain ⟨h1, _, _⟩ | ⟨h1, rfl, HXr⟩ := hd
      · omega
      · go_wp2_with fail
        go_ret
        exact ⟨rfl, qk, HXr.out, HTr.out, HQr.out⟩
end Go.Proofs.Ytnafcbmpjjlhnaa
