/- The chapter's example. -/
import Derived.Test.YtagdedjclbmlkaaC19
import Derived.Test.YtagdedjclbmlkaaC12
import Derived.Test.YtagdedjclbmlkaaC6
import Derived.Test.YtagdedjclbmlkaaKX
namespace Go.Proofs.Ytagdedjclbmlkaa
open Go.RowKit

def kA : List UInt8 := 1 :: List.replicate 24 0
def kB : List UInt8 := 1 :: 1 :: List.replicate 23 0
theorem builtA : Try.prog.built 30 [(0, .int .u8 1)] = some (bC kA) := by kernel_rfl
theorem builtB : Try.prog.built 30 [(0, .int .u8 1), (1, .int .u8 1)] = some (bC kB) := by kernel_rfl
theorem off_tree {w : World} {B tb b : Nat} {o : Option T} {cs : Array Value} {T' : TypeId} (h : TreeAt w B tb o) (hb : w.heap[b]? = some (.cells cs T' (0, 0))) (h1 : T' ≠ NODE) (h2 : T' ≠ TREE) : b ∉ tb :: addrsO o := fun hm => by
  obtain ⟨cs', T'', h3, h4⟩ := h.type b hm
  rw [hb] at h3
  simp only [Option.some.injEq, Obj.cells.injEq] at h3
  rcases h4 with h4 | h4
  · exact h1 (h3.2.1.trans h4)
  · exact h2 (h3.2.1.trans h4)
theorem pf1 : (!hasO kB none) = true := rfl
theorem pl1 : putL [] kB 5 = [(kB, 5)] := by decide +kernel
theorem pl2 : putL [(kB, 5)] kA 6 = [(kA, 6), (kB, 5)] := by decide +kernel
theorem pn2 : nextL [(kA, 6), (kB, 5)] kA = some kB := by decide +kernel
theorem pg2 : getL [(kA, 6), (kB, 5)] kB = some 5 := by decide +kernel
theorem pd2 : dI (differ kA kB) = 15 := by decide +kernel
/-- A key of 25 bytes, as an element. -/
structure K25 where
  k : List UInt8
  hk : k.length = 25
def encK (x : K25) : List Value := (bC x.k).toList
theorem encK_len (x : K25) : (encK x).length = 25 := by simp [encK, bC, x.hk]
theorem encK_one (x : K25) : ∀ u ∈ encK x, u.oneCell' = true := bC_one' x.k
def kz : K25 := ⟨z25, rfl⟩
theorem infoKey : (Try.prog.info? 30).map (fun i => (i.zero, i.size, i.bytes)) = some (some (.agg (bC z25)), 25, 25) := by kernel_rfl
theorem kz_sz : (Value.agg (bC z25)).cells.size = 25 := rfl
theorem slat_key {w : World} {q : Option Addr} {xs : List K25} (h : SlAt encK 25 w q xs) : SlAt keyE 25 w q (xs.map (·.k)) := fun i hi => by
  obtain ⟨b, o, h1, h2, h3⟩ := h i (by simpa using hi)
  refine ⟨b, o, h1, h2, ?_⟩
  rw [List.getElem_map]
  exact h3
/-- Where the example stands. -/
structure KnSt (w : World) (ba : Nat) (l : List (List UInt8 × Int)) (W : World) (o : Option T) : Prop where
  tree : TreeAt W w.heap.size w.heap.size o
  all : allO o = l
  ka : W.heap[ba]? = some (.cells (bC kA) 30 (0, 0))
  kb : W.heap[ba + 1]? = some (.cells (bC kB) 30 (0, 0))
  bel : Below w.heap.size w W
theorem KnSt.below {w W W' : World} {ba : Nat} {l : List (List UInt8 × Int)} {o : Option T} (h : KnSt w ba l W o) (hb : Below W.heap.size W W') : KnSt w ba l W' o :=
  ⟨h.tree.below hb, h.all, (hb.block _ (lt_heap h.ka)).trans h.ka, (hb.block _ (lt_heap h.kb)).trans h.kb, h.bel.trans (hb.mono h.bel.size)⟩
theorem kn_put {w W : World} {ba : Nat} {l : List (List UInt8 × Int)} {o : Option T} (k : List UInt8) (v : Int) (l' : List (List UInt8 × Int)) (h : KnSt w ba l W o) (hk : k.length = 25) (hl : l.length ≤ 1000000) (hf : findL l k = none) (hl' : putL l k v = l') :
    Calls Try.prog 13 #[ptrA w.heap.size, .agg (bC k), .int .i64 v] W fun e W' => e = .returned (.bool true) ∧ ∃ o', KnSt w ba l' W' o' := by
  refine (put_any k v W w.heap.size w.heap.size o hk h.tree h.bel.size (by rw [h.all]; exact hl)).mono ?_
  rintro e W' ⟨rfl, o', hT, hall, hturn⟩
  refine ⟨by rw [has_find h.tree.wf, h.all, hf]; rfl, o', hT, by rw [hall, h.all, hl'], (hturn.block _ (lt_heap h.ka) (off_tree h.tree h.ka (by decide) (by decide))).trans h.ka, (hturn.block _ (lt_heap h.kb) (off_tree h.tree h.kb (by decide) (by decide))).trans h.kb, h.bel.trans (hturn.below h.tree.base h.bel.size)⟩
theorem kn_next {w W : World} {ba : Nat} {o : Option T} (h : KnSt w ba [(kA, 6), (kB, 5)] W o) : Calls Try.prog 26 #[ptrA w.heap.size, .agg (bC kA)] W fun e W' => e = .returned (.tuple #[.agg (bC kB), .bool true]) ∧ KnSt w ba [(kA, 6), (kB, 5)] W' o := by
  refine (next_any o kA W w.heap.size w.heap.size rfl h.tree).mono ?_
  rintro e W' ⟨rfl, hb⟩
  exact ⟨by rw [h.all, pn2]; rfl, h.below hb⟩
theorem kn_get {w W : World} {ba : Nat} {o : Option T} (h : KnSt w ba [(kA, 6), (kB, 5)] W o) : Calls Try.prog 14 #[ptrA w.heap.size, .agg (bC kB)] W fun e W' => e = .returned (.tuple #[.int .i64 5, .bool true]) ∧ Below W.heap.size W W' := by
  refine (get_any kB W w.heap.size w.heap.size o rfl h.tree).mono ?_
  rintro e W' ⟨rfl, hb⟩
  exact ⟨by rw [get_eq h.tree.wf, h.all, pg2]; rfl, hb⟩
theorem kn_len {w W : World} {ba : Nat} {o : Option T} (h : KnSt w ba [(kA, 6), (kB, 5)] W o) : Calls Try.prog 29 #[ptrA w.heap.size] W fun e W' => e = .returned (.int .i64 2) ∧ W' = W := by
  refine (len_any W w.heap.size w.heap.size o h.tree).mono ?_
  rintro e W' ⟨rfl, rfl⟩
  exact ⟨by rw [h.all]; rfl, rfl⟩
set_option maxRecDepth 100000 in
set_option maxHeartbeats 4000000 in
theorem known_any (w : World) : Calls Try.prog 17 #[] w fun e w' => e = .returned (.bool true) ∧ Below w.heap.size w w' := by
  go_enter Try.func17, Try.ntmps17
  go_upto_region 2 with (go_at_call 8; (refine (new_any _).mono ?_); rintro e W1 ⟨rfl, rfl⟩)
  have HT1 : Hid (TreeAt (w.alloc (.cells #[.pointer none, .int .i64 0] TREE)) w.heap.size w.heap.size none) := new_tree (Nat.le_refl _)
  have HB1 := Lib.hid (below_alloc1 w (.cells #[.pointer none, .int .i64 0] TREE))
  have HZ1 : Hid ((w.alloc (.cells #[.pointer none, .int .i64 0] TREE)).heap.size = w.heap.size + 1) := by show _ = _; simp
  generalize w.alloc (.cells #[.pointer none, .int .i64 0] TREE) = W1 at *
  go_upto_region 3 with (first
    | ((with_reducible refine gate_bd 30 _ rfl ?_); refine wl_bd rfl 30 [(0, .const (.int .u8 1)), (1, .const (.int .u8 1))] rfl [(0, .int .u8 1), (1, .int .u8 1)] rfl (bC kB) builtB ?_)
    | ((with_reducible refine gate_bd 30 _ rfl ?_); refine wl_bd rfl 30 [(0, .const (.int .u8 1))] rfl [(0, .int .u8 1)] rfl (bC kA) builtA ?_)
    | ((with_reducible refine gate_st 30 (.tmp 2) _ rfl ?_); refine wl_str rfl 30 (.tmp 2) (.tmp 10) rfl W1.heap.size (bC kA) (bC z25) 30 (by rw [sizKey, bC_size]; rfl) rfl (bC_one _) rfl rfl (heap_alloc2_old _ _ _) ?_)
    | ((with_reducible refine gate_st 30 (.tmp 3) _ rfl ?_); refine wl_str rfl 30 (.tmp 3) (.tmp 11) rfl (W1.heap.size + 1) (bC kB) (bC z25) 30 (by rw [sizKey, bC_size]; rfl) rfl (bC_one _) rfl rfl ((setRow_other _ _ _ _ (by omega)).trans (heap_alloc2_new _ _ _)) ?_))
  show Code.wp _ _ _ _ ((((W1.alloc (.cells (bC z25) 30)).alloc (.cells (bC z25) 30)).setRow W1.heap.size (bC kA)).setRow (W1.heap.size + 1) (bC kB))
  have hbel : Below W1.heap.size W1 ((((W1.alloc (.cells (bC z25) 30)).alloc (.cells (bC z25) 30)).setRow W1.heap.size (bC kA)).setRow (W1.heap.size + 1) (bC kB)) := setRow_below (setRow_below (below_alloc2 _ _ _) (Nat.le_refl _) _) (by omega) _
  have HA : Hid (((((W1.alloc (.cells (bC z25) 30)).alloc (.cells (bC z25) 30)).setRow W1.heap.size (bC kA)).setRow (W1.heap.size + 1) (bC kB)).heap[W1.heap.size]? = some (.cells (bC kA) 30 (0, 0))) := (setRow_other _ _ _ _ (by omega)).trans (setRow_at (heap_alloc2_old _ _ _))
  have HBk : Hid (((((W1.alloc (.cells (bC z25) 30)).alloc (.cells (bC z25) 30)).setRow W1.heap.size (bC kA)).setRow (W1.heap.size + 1) (bC kB)).heap[W1.heap.size + 1]? = some (.cells (bC kB) 30 (0, 0))) := setRow_at ((setRow_other _ _ _ _ (by omega)).trans (heap_alloc2_new _ _ _))
  have HT2 := HT1.out.below hbel
  have HB2 := HB1.out.trans (hbel.mono HB1.out.size)
  clear hbel HT1 HB1
  generalize ((((W1.alloc (.cells (bC z25) 30)).alloc (.cells (bC z25) 30)).setRow W1.heap.size (bC kA)).setRow (W1.heap.size + 1) (bC kB)) = W2 at *
  obtain ⟨ba, hba⟩ : ∃ ba, ba = W1.heap.size := ⟨_, rfl⟩
  rw [← hba] at HA HBk ⊢
  have HS2 : Hid (KnSt w ba [] W2 none) := ⟨HT2, rfl, HA.out, HBk.out, HB2⟩
  clear hba HT2 HB2 HA HBk HZ1
  go_upto_region 4 with (first
    | ((with_reducible refine gate_ld 30 (.tmp 3) rfl ?_); refine wl_ldr rfl 30 _ rfl (ba + 1) 0 (bC kB).toList _ Try.underlying30 rfl (by rw [sizKey]; rfl) rfl (range_whole (by simpa using HS2.out.kb)) ?_)
    | (go_at_call 13; (refine (kn_put kB 5 [(kB, 5)] HS2.out rfl (by simp) (by decide +kernel) pl1).mono ?_); rintro e W3 ⟨rfl, o1, hs3⟩; have HS3 := Lib.hid hs3; clear hs3 HS2)
    | ((with_reducible refine gate_ld 30 (.tmp 2) rfl ?_); refine wl_ldr rfl 30 _ rfl ba 0 (bC kA).toList _ Try.underlying30 rfl (by rw [sizKey]; rfl) rfl (range_whole (by simpa using HS3.out.ka)) ?_)
    | (go_at_call 13; (refine (kn_put kA 6 [(kA, 6), (kB, 5)] HS3.out rfl (by simp) (by decide +kernel) pl2).mono ?_); rintro e W4 ⟨rfl, o2, hs4⟩; have HS4 := Lib.hid hs4; clear hs4 HS3))
  go_upto_region 5 with (first
    | ((with_reducible refine gate_ld 30 (.tmp 2) rfl ?_); refine wl_ldr rfl 30 _ rfl ba 0 (bC kA).toList _ Try.underlying30 rfl (by rw [sizKey]; rfl) rfl (range_whole (by simpa using HS4.out.ka)) ?_)
    | (go_at_call 26; (refine (kn_next HS4.out).mono ?_); rintro e W5 ⟨rfl, hs5⟩; have HS5 := Lib.hid hs5; clear hs5)
    | ((with_reducible refine gate_st 30 (.tmp 5) _ rfl ?_); refine wl_strn rfl _ _ _ rfl (bC kB) (bC z25) 30 (by rw [sizKey, bC_size]; rfl) rfl (bC_one kB) rfl rfl ?_))
  have HS6 := Lib.hid (HS5.out.below (below_alloc1 _ (.cells (bC kB) 30)))
  have HN6 := Lib.hid (heap_alloc_new W5 (.cells (bC kB) 30))
  generalize W5.alloc (.cells (bC kB) 30) = W6 at *
  generalize W5.heap.size = nb at *
  go_upto_region 6 with (first
    | ((with_reducible refine gate_ld 30 (.tmp 3) rfl ?_); refine wl_ldr rfl 30 _ rfl (ba + 1) 0 (bC kB).toList _ Try.underlying30 rfl (by rw [sizKey]; rfl) rfl (range_whole (by simpa using HS6.out.kb)) ?_)
    | (go_at_call 14; (refine (kn_get HS6.out).mono ?_); rintro e W7 ⟨rfl, hb7⟩; have HS7 := Lib.hid (HS6.out.below hb7); have HN7 := Lib.hid ((hb7.block _ (lt_heap HN6.out)).trans HN6.out); clear hb7))
  clear HS6 HN6 HS5 HS4
  go_wp2_with (first
    | ((with_reducible refine gate_ld 30 (.tmp 2) rfl ?_); refine wl_ldr rfl 30 _ rfl ba 0 (bC kA).toList _ Try.underlying30 rfl (by rw [sizKey]; rfl) rfl (range_whole (by first | (simpa using HS7.out.ka) | (simpa using HS8.out.ka))) ?_)
    | ((with_reducible refine gate_ld 30 (.tmp 3) rfl ?_); refine wl_ldr rfl 30 _ rfl (ba + 1) 0 (bC kB).toList _ Try.underlying30 rfl (by rw [sizKey]; rfl) rfl (range_whole (by first | (simpa using HS7.out.kb) | (simpa using HS8.out.kb))) ?_)
    | ((with_reducible refine gate_ld 30 (.tmp 5) rfl ?_); refine wl_ldr rfl 30 _ rfl nb 0 (bC kB).toList _ Try.underlying30 rfl (by rw [sizKey]; rfl) rfl (range_whole (by simpa using HN8.out)) ?_)
    | (go_at_call 19; (refine (Differ_any kA kB _ rfl rfl).mono ?_); rintro e W8 ⟨rfl, hb8⟩; rw [pd2]; have HS8 := Lib.hid (HS7.out.below hb8); have HN8 := Lib.hid ((hb8.block _ (lt_heap HN7.out)).trans HN7.out); clear hb8 HS7 HN7)
    | ((with_reducible refine gate_op (.binOp .eql 30 (.tmp 43) (.tmp 44) 30) rfl ?_); refine wl_valG rfl (.bool true) (exec_eqlKey _ (.tmp 43) (.tmp 44) rfl kB kB rfl rfl rfl rfl) ?_)
    | (go_at_call 29; (refine (kn_len HS8.out).mono ?_); rintro e W9 ⟨rfl, rfl⟩))
  go_ret
  exact ⟨rfl, HS8.out.bel⟩
end Go.Proofs.Ytagdedjclbmlkaa
