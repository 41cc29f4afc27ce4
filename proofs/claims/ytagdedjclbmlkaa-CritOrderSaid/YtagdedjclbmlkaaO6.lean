/- A key, as the document's: the law's Of of chapter 06. -/
import Derived.Test.YtagdedjclbmlkaaGX
namespace Go.Proofs.Ytagdedjclbmlkaa
open Go.RowKit

/-- A key's five parts. -/
structure K5 where
  kind : UInt8
  proj : UInt8
  pos : UInt8
  name : List UInt8
  tag : List UInt8
deriving DecidableEq
structure K5.ok (k : K5) : Prop where
  n : k.name.length = 12
  t : k.tag.length = 10
def K5.bytes (k : K5) : List UInt8 := k.kind :: k.proj :: k.pos :: (k.name ++ k.tag)
theorem K5.len {k : K5} (h : k.ok) : k.bytes.length = 25 := by simp [K5.bytes, h.n, h.t]
theorem K5.ext_bytes {k l : K5} (hk : k.ok) (hl : l.ok) : k.bytes = l.bytes ↔ k = l := by
  constructor
  · intro h
    obtain ⟨a, b, c, n, t⟩ := k
    obtain ⟨a', b', c', n', t'⟩ := l
    simp only [K5.bytes, List.cons.injEq] at h
    obtain ⟨rfl, rfl, rfl, h⟩ := h
    obtain ⟨rfl, rfl⟩ := List.append_inj h (by rw [show n.length = 12 from hk.n, show n'.length = 12 from hl.n])
    rfl
  · rintro rfl; rfl
def kC (k : K5) : Array Value := bC k.bytes
/-- The document's key, so many of the tag's bytes laid. -/
def rKl (k : K5) (j : Nat) : List UInt8 := k.name ++ (k.tag.take j ++ List.replicate (10 - j) 0)
def rK (k : K5) (j : Nat) : Array Value := (Value.int .i64 (k.kind.toNat : Int) :: Value.int .i64 (k.proj.toNat : Int) :: Value.int .i64 (k.pos.toNat : Int) :: (bC (rKl k j)).toList).toArray
theorem rKl_len {k : K5} (h : k.ok) (j : Nat) (hj : j ≤ 10) : (rKl k j).length = 22 := by simp [rKl, h.n, h.t]; omega
theorem rK_size {k : K5} (h : k.ok) (j : Nat) (hj : j ≤ 10) : (rK k j).size = 25 := by simp [rK, bC, rKl_len h j hj]
theorem rK_next {k : K5} (h : k.ok) (j : Nat) (hj : j < 10) : (rK k j).setIfInBounds (15 + j) (.int .u8 ((k.tag[j]'(by rw [h.t]; exact hj)).toNat : Int)) = rK k (j + 1) := by
  have e : (rKl k j).set (12 + j) (k.tag[j]'(by rw [h.t]; exact hj)) = rKl k (j + 1) := by
    unfold rKl
    rw [List.set_append_right _ _ (by rw [h.n]; omega), h.n, show 12 + j - 12 = j by omega]
    congr 1
    apply List.ext_getElem?
    intro i
    have ht := h.t
    rw [List.getElem?_set]
    by_cases e : j = i
    · subst e
      rw [if_pos rfl, if_pos (by simp; omega), List.getElem?_append_left (by simp; omega), List.getElem?_take_of_lt (by omega)]
      simp
    · rw [if_neg e]
      by_cases hi : i < j
      · rw [List.getElem?_append_left (by simp; omega), List.getElem?_append_left (by simp; omega), List.getElem?_take_of_lt hi, List.getElem?_take_of_lt (by omega)]
      · rw [List.getElem?_append_right (by simp; omega), List.getElem?_append_right (by simp; omega), List.length_take, List.length_take, List.getElem?_replicate, List.getElem?_replicate]
        by_cases h10 : i < 10
        · rw [if_pos (by omega), if_pos (by omega)]
        · rw [if_neg (by omega), if_neg (by omega)]
  unfold rK
  rw [← e]
  simp only [List.setIfInBounds_toArray]
  congr 1
  rw [show 15 + j = (12 + j) + 1 + 1 + 1 by omega]
  simp only [List.set_cons_succ, List.cons.injEq, true_and]
  simp [bC, List.map_set]
theorem kC_tag {k : K5} (h : k.ok) (j : Nat) (hj : j < 10) : (kC k)[15 + j]? = some (.int .u8 ((k.tag[j]'(by rw [h.t]; exact hj)).toNat : Int)) := by
  have e : k.bytes[15 + j]? = some (k.tag[j]'(by rw [h.t]; exact hj)) := by
    unfold K5.bytes
    rw [show 15 + j = (12 + j) + 1 + 1 + 1 by omega]
    simp only [List.getElem?_cons_succ]
    rw [List.getElem?_append_right (by rw [h.n]; omega), h.n, show 12 + j - 12 = j by omega, List.getElem?_eq_getElem (by rw [h.t]; exact hj)]
  simp [kC, bC, e]
theorem rK_old {k : K5} (h : k.ok) (j : Nat) (hj : j < 10) : (rK k j)[15 + j]? = some (.int .u8 0) := by
  have e : (rKl k j)[12 + j]? = some 0 := by
    unfold rKl
    rw [List.getElem?_append_right (by rw [h.n]; omega), h.n, show 12 + j - 12 = j by omega, List.getElem?_append_right (by simp; omega)]
    have ht := h.t
    rw [List.length_take, List.getElem?_replicate, if_pos (by omega)]
  unfold rK
  rw [show 15 + j = (12 + j) + 1 + 1 + 1 by omega]
  simp [bC, e]
theorem sizK : (Try.prog.info? 30).map (·.size) = some 25 := by kernel_rfl
theorem sizRK : (Try.prog.info? 40).map (·.size) = some 25 := by kernel_rfl
theorem rK_one (k : K5) (j : Nat) : (rK k j).all (·.oneCell') = true := by
  simp [rK, Value.oneCell', bC]
theorem built_rK (k : K5) (h : k.ok) : Try.prog.built 40 [(0, .int .i64 (k.kind.toNat : Int)), (1, .int .i64 (k.proj.toNat : Int)), (2, .int .i64 (k.pos.toNat : Int)), (3, .agg (bC k.name))] = some (rK k 0) := by
  obtain ⟨a, b, c, n, t⟩ := k
  obtain ⟨hn, ht⟩ := h
  simp only at hn ht
  rcases n with _ | ⟨c0, _ | ⟨c1, _ | ⟨c2, _ | ⟨c3, _ | ⟨c4, _ | ⟨c5, _ | ⟨c6, _ | ⟨c7, _ | ⟨c8, _ | ⟨c9, _ | ⟨c10, _ | ⟨c11, _ | ⟨c12, n⟩⟩⟩⟩⟩⟩⟩⟩⟩⟩⟩⟩⟩ <;> simp at hn
  kernel_rfl
theorem kC_name {k : K5} {w : World} {g : Nat} {T : TypeId} {fr : Nat × Nat} (hg : w.heap[g]? = some (.cells (kC k) T fr)) : w.rangeAt g 3 (bC k.name).toList := range_of_cells hg 3 _ fun j v hv => by
  have hj : j < k.name.length := by have := (List.getElem?_eq_some_iff.1 hv).1; simpa [bC] using this
  rw [show 3 + j = j + 1 + 1 + 1 by omega]
  have hv' : v = .int .u8 (k.name[j].toNat : Int) := by simpa [bC, hj] using hv.symm
  subst hv'
  simp only [kC, bC, K5.bytes, List.map_cons, List.map_append, List.getElem?_toArray, List.getElem?_cons_succ]
  rw [List.getElem?_append_left (by simpa using hj)]
  simp [hj]
set_option maxRecDepth 100000 in
set_option maxHeartbeats 2000000 in
theorem of06_any (k : K5) (w : World) (hk : k.ok) :
    Calls Try.prog 10 #[.agg (kC k)] w fun e w' => e = .returned (.agg (rK k 10)) ∧ Below w.heap.size w w' := by
  have b0 := byte_lt k.kind
  have b1 := byte_lt k.proj
  have b2 := byte_lt k.pos
  have k0 : (0 : Int) ≤ (k.kind.toNat : Int) := by omega
  have k1 : (0 : Int) ≤ (k.proj.toNat : Int) := by omega
  have k2 : (0 : Int) ≤ (k.pos.toNat : Int) := by omega
  have HK := Lib.hid hk
  have h0 : (kC k)[0]? = some (.int .u8 (k.kind.toNat : Int)) := rfl
  have h1 : (kC k)[1]? = some (.int .u8 (k.proj.toNat : Int)) := rfl
  have h2 : (kC k)[2]? = some (.int .u8 (k.pos.toNat : Int)) := rfl
  clear hk
  go_enter Try.func10, Try.ntmps10
  go_upto_region 1 with fail
  obtain ⟨zz, hz⟩ : ∃ zz, zz = #[Value.int IntKind.i64 0, Value.int IntKind.i64 0, Value.int IntKind.i64 0, Value.int IntKind.u8 0, Value.int IntKind.u8 0, Value.int IntKind.u8 0, Value.int IntKind.u8 0, Value.int IntKind.u8 0, Value.int IntKind.u8 0, Value.int IntKind.u8 0, Value.int IntKind.u8 0, Value.int IntKind.u8 0, Value.int IntKind.u8 0, Value.int IntKind.u8 0, Value.int IntKind.u8 0, Value.int IntKind.u8 0, Value.int IntKind.u8 0, Value.int IntKind.u8 0, Value.int IntKind.u8 0, Value.int IntKind.u8 0, Value.int IntKind.u8 0, Value.int IntKind.u8 0, Value.int IntKind.u8 0, Value.int IntKind.u8 0, Value.int IntKind.u8 0] := ⟨_, rfl⟩
  rw [← hz]
  have HZs : Hid (zz.size = 25) := by show zz.size = 25; rw [hz]; rfl
  clear hz
  have HG0 : Hid (((w.alloc (.cells (kC k) 30)).alloc (.cells zz 40)).heap[w.heap.size]? = some (.cells (kC k) 30 (0, 0))) := heap_alloc2_old _ _ _
  have HG1 : Hid (((w.alloc (.cells (kC k) 30)).alloc (.cells zz 40)).heap[w.heap.size + 1]? = some (.cells zz 40 (0, 0))) := heap_alloc2_new _ _ _
  have HB1 : Hid (Below w.heap.size w ((w.alloc (.cells (kC k) 30)).alloc (.cells zz 40))) := below_alloc2 _ _ _
  generalize (w.alloc (.cells (kC k) 30)).alloc (.cells zz 40) = W1 at *
  have hlt : w.heap.size < W1.heap.size := lt_heap HG0.out
  have hlt1 : w.heap.size + 1 < W1.heap.size := lt_heap HG1.out
  have hne : w.heap.size ≠ W1.heap.size := by omega
  have c0 : W1.cell? ⟨w.heap.size, 0, none⟩ = some (.int .u8 (k.kind.toNat : Int)) := by rw [cell_blk HG0.out]; exact h0
  have c1 : W1.cell? ⟨w.heap.size, 1, none⟩ = some (.int .u8 (k.proj.toNat : Int)) := by rw [cell_blk HG0.out]; exact h1
  have c2 : W1.cell? ⟨w.heap.size, 2, none⟩ = some (.int .u8 (k.pos.toNat : Int)) := by rw [cell_blk HG0.out]; exact h2
  have HNm : Hid (W1.rangeAt w.heap.size 3 (bC k.name).toList) := kC_name HG0.out
  have HCt : Hid (∀ (j : Nat) (hj : j < 10), W1.cell? ⟨w.heap.size, 15 + j, none⟩ = some (.int .u8 ((k.tag[j]'(by rw [HK.out.t]; exact hj)).toNat : Int))) := fun j hj => by rw [cell_blk HG0.out]; exact kC_tag HK.out j hj
  clear h0 h1 h2
  go_upto_region 2 with (first
    | ((with_reducible refine gate_ld 24 _ rfl ?_); refine wl_ldr rfl _ _ rfl w.heap.size 3 (bC k.name).toList _ Try.underlying24 rfl (by rw [info23]; simp [bC, HK.out.n]) rfl HNm.out ?_)
    | ((with_reducible refine gate_bd 40 _ rfl ?_); refine wl_bd rfl 40 [(0, .tmp 7), (1, .tmp 10), (2, .tmp 13), (3, .tmp 15)] rfl _ rfl (rK k 0) (built_rK k HK.out) ?_)
    | ((with_reducible refine gate_st 40 _ _ rfl ?_); refine wl_strn rfl 40 _ _ rfl (rK k 0) _ _ (by rw [sizRK, rK_size HK.out 0 (by omega)]) (by rw [rK_size HK.out 0 (by omega)]; rfl) (rK_one k 0) rfl rfl ?_))
  go_wp2_with fail
  clear c0 c1 c2 HNm b0 b1 b2 k0 k1 k2
  go_loopw [4] (fun i wr => ∃ j : Nat, j ≤ 10 ∧ i = .int .i64 j ∧ wr = W1.alloc (.cells (rK k j) 40)) (fun i _ => 10 - (intOf i).toNat)
  case atStart => exact ⟨0, by omega, rfl, rfl⟩
  case round =>
    obtain ⟨j, hj, rfl, rfl⟩ := hrel
    by_cases hl : j < 10
    · obtain ⟨tb, hjt, hct⟩ : ∃ tb : UInt8, (rK k j).setIfInBounds (15 + j) (.int .u8 (tb.toNat : Int)) = rK k (j + 1) ∧ W1.cell? ⟨w.heap.size, 15 + j, none⟩ = some (.int .u8 (tb.toNat : Int)) := ⟨_, rK_next HK.out j hl, HCt.out j hl⟩
      have HJ := Lib.hid hjt
      have hold := rK_old HK.out j hl
      clear HCt hjt
      have bt := byte_lt tb
      rcases (show j = 0 ∨ j = 1 ∨ j = 2 ∨ j = 3 ∨ j = 4 ∨ j = 5 ∨ j = 6 ∨ j = 7 ∨ j = 8 ∨ j = 9 by omega) with rfl | rfl | rfl | rfl | rfl | rfl | rfl | rfl | rfl | rfl
      all_goals
        simp only [Nat.reduceAdd] at hct hold HJ
        go_wp2_with fail
        go_roundw
        case rel => first | exact ⟨1, by omega, rfl, by rw [HJ.out]⟩ | exact ⟨2, by omega, rfl, by rw [HJ.out]⟩ | exact ⟨3, by omega, rfl, by rw [HJ.out]⟩ | exact ⟨4, by omega, rfl, by rw [HJ.out]⟩ | exact ⟨5, by omega, rfl, by rw [HJ.out]⟩ | exact ⟨6, by omega, rfl, by rw [HJ.out]⟩ | exact ⟨7, by omega, rfl, by rw [HJ.out]⟩ | exact ⟨8, by omega, rfl, by rw [HJ.out]⟩ | exact ⟨9, by omega, rfl, by rw [HJ.out]⟩ | exact ⟨10, by omega, rfl, by rw [HJ.out]⟩
        case measure => simp [intOf]
    · obtain rfl : j = 10 := by omega
      go_wp2_with (first
        | ((with_reducible refine gate_ld 40 _ rfl ?_); refine wl_ldr rfl _ _ rfl W1.heap.size 0 (rK k 10).toList _ Try.underlying40 rfl (by rw [sizRK]; simp [rK_size HK.out 10 (by omega)]) rfl (range_whole (by simpa using heap_alloc_new W1 (.cells (rK k 10) 40))) ?_)
        | ((with_reducible refine gate_st 40 _ _ rfl ?_); refine wl_str rfl 40 _ _ rfl (w.heap.size + 1) (rK k 10) zz _ (by rw [sizRK, rK_size HK.out 10 (by omega)]) (by rw [rK_size HK.out 10 (by omega), HZs.out]) (rK_one k 10) rfl rfl (by rw [heap_alloc_old _ _ hlt1]; exact HG1.out) ?_))
      refine bodyPost_ret (res_rowc (P := Try.prog) (T := 40) (T' := 40) rfl _ _ (w.heap.size + 1) (rK k 10) (0, 0) rfl (setRow_at (old := zz) (by rw [heap_alloc_old _ _ hlt1]; exact HG1.out)) Try.underlying40 rfl (by rw [sizRK, rK_size HK.out 10 (by omega)])) rfl ⟨rfl, setRow_below (HB1.out.alloc (by omega) _) (by omega) _⟩
end Go.Proofs.Ytagdedjclbmlkaa
