/- law 26: RequestReplyBytes: the walk. -/
import Derived.Test.YtbfefdedjcppaaaGreatDoorQP7
import Derived.Test.YtbfefdedjcppaaaGreatDoorQL7
import Derived.Test.YtbfefdedjcppaaaGreatDoorCU6
import Derived.Test.YtbfefdedjcppaaaGreatDoorKN6
import Derived.Test.YtbfefdedjcppaaaGreatDoorPB6
namespace Go.Proofs.YtbfefdedjcppaaaGreatDoor
set_option maxRecDepth 100000
set_option maxHeartbeats 16000000
open Go.RowKit Go.Deep
theorem exec_fRS {o : Oper} {a : Act} {w : World} (x : Operand) (ho : o.op = .fieldAddr 72 x 1) (b : Nat) (hx : a.eval x = .pointer (some ⟨b, 0, none⟩)) : (execOp a.eval o).run Tryz.prog w = .ok (.value (.pointer (some ⟨b, 14, none⟩))) w := by
 unfold execOp
 simp only [ho, hx]
 simp [go_sem]
theorem bldRS (x : RpD) : Tryz.prog.built 72 [(0, .agg (rpC x).toArray)] = some (ryC x (.slice none 0 0)).toArray := by
 obtain ⟨e, s, g, st, n, hg⟩ := x
 obtain ⟨c0, c1, c2, c3, c4, c5, c6, c7, c8, c9, rfl⟩ := Kx.list10 g hg
 kernel_rfl
theorem sizRyS : (Tryz.prog.info? 72).map (·.size) = some 15 := by kernel_rfl
theorem ryC_oneW (x : RpD) (q : Option Addr) (n c : Nat) : (ryC x (.slice q n c)).toArray.all (·.oneCell') = true := by
 rw [← Array.all_toList]; exact ryC_one x _ rfl
structure RwS (w : World) (s g : Nat) (x : RpD) (u sv : Value) (fs : List Ev) (W : World) : Prop where
 bel : Below w.heap.size w W
 lt : g < W.heap.size
 A : W.heap[s]? = some (.cells (ryC x u).toArray 59 (0, 0))
 G : W.heap[g]? = some (.cells (ryC x sv).toArray 72 (0, 0))
 O : OwnE evD 79 28 W (g + 1) sv fs
theorem RwS.below {w W W' : World} {s g : Nat} {x : RpD} {u sv : Value} {fs : List Ev} (h : RwS w s g x u sv fs W) (hb : Below W.heap.size W W') : RwS w s g x u sv fs W' :=
 ⟨h.bel.trans (hb.mono h.bel.size), Nat.lt_of_lt_of_le h.lt hb.size, (hb.block _ (lt_heap h.A)).trans h.A, (hb.block _ (lt_heap h.G)).trans h.G, h.O.below hb⟩
structure RwG where
 b8 : Nat
 v9 : Value
structure RwC (w : World) (s g : Nat) (x : RpD) (u sv : Value) (fs : List Ev) (ev : Ev) (L : Nat → Bool) (γ : RwG) (W : World) : Prop where
 bel : Below w.heap.size w W
 lt : g < W.heap.size
 A : W.heap[s]? = some (.cells (ryC x u).toArray 59 (0, 0))
 G : W.heap[g]? = some (.cells (ryC x (if L 11 = true then γ.v9 else sv)).toArray 72 (0, 0))
 O : L 9 = false → OwnE evD 79 28 W (g + 1) sv fs
 N : L 9 = true → OwnE evD 79 28 W (g + 1) γ.v9 (fs ++ [ev])
 B : L 8 = true → L 9 = false → W.heap[γ.b8]? = some (.cells (evD ev).toArray 79 (0, 0))
theorem RwC.quiet {w W W' : World} {s g : Nat} {x : RpD} {u sv : Value} {fs : List Ev} {ev : Ev} {L : Nat → Bool} {γ : RwG} (h : RwC w s g x u sv fs ev L γ W) (i : Nat) (hi : i ∉ [8, 9, 11]) (hb : Below W.heap.size W W') : RwC w s g x u sv fs ev (ranI L i) γ W' := by
 simp only [List.mem_cons, List.not_mem_nil, or_false, not_or] at hi
 refine ⟨h.bel.trans (hb.mono h.bel.size), Nat.lt_of_lt_of_le h.lt hb.size, (hb.block _ (lt_heap h.A)).trans h.A, ?_, ?_, ?_, ?_⟩
 · rw [ranI_ne L (by omega : 11 ≠ i)]; exact (hb.block _ (lt_heap h.G)).trans h.G
 · rw [ranI_ne L (by omega : 9 ≠ i)]; exact fun e => (h.O e).below hb
 · rw [ranI_ne L (by omega : 9 ≠ i)]; exact fun e => (h.N e).below hb
 · rw [ranI_ne L (by omega : 8 ≠ i), ranI_ne L (by omega : 9 ≠ i)]; exact fun e f => (hb.block _ (lt_heap (h.B e f))).trans (h.B e f)
theorem RwC.made {w W : World} {s g : Nat} {x : RpD} {u sv : Value} {fs : List Ev} {ev : Ev} {L : Nat → Bool} {γ : RwG} (h : RwC w s g x u sv fs ev L γ W) (h9 : L 9 = false) (h11 : L 11 = false) : RwC w s g x u sv fs ev (ranI L 8) { γ with b8 := W.heap.size } (W.alloc (.cells (evD ev).toArray 79)) := by
 have hb := below_alloc1 W (.cells (evD ev).toArray 79)
 have hG := h.G
 rw [if_neg (by rw [h11]; decide)] at hG
 refine ⟨h.bel.trans (hb.mono h.bel.size), Nat.lt_of_lt_of_le h.lt hb.size, (hb.block _ (lt_heap h.A)).trans h.A, ?_, ?_, ?_, ?_⟩
 · rw [ranI_ne L (by decide : (11 : Nat) ≠ 8), if_neg (by rw [h11]; decide)]; exact (hb.block _ (lt_heap hG)).trans hG
 · rw [ranI_ne L (by decide : (9 : Nat) ≠ 8)]; exact fun e => (h.O e).below hb
 · rw [ranI_ne L (by decide : (9 : Nat) ≠ 8), h9]; exact fun e => by cases e
 · exact fun _ _ => heap_alloc_new _ _
theorem RwC.grew {w W W' : World} {s g : Nat} {x : RpD} {u sv v' : Value} {fs : List Ev} {ev : Ev} {L : Nat → Bool} {γ : RwG} (h : RwC w s g x u sv fs ev L γ W) (hs : s < g) (hw : w.heap.size ≤ s) (h9 : L 9 = false) (h11 : L 11 = false) (hg : W.grownBy W' sv.ownBlock) (ho : OwnE evD 79 28 W' (g + 1) v' (fs ++ [ev])) : RwC w s g x u sv fs ev (ranI L 9) { γ with v9 := v' } W' := by
 have hG := h.G
 rw [if_neg (by rw [h11]; decide)] at hG
 have hne : ∀ k, k ≤ g → some k ≠ sv.ownBlock := fun k hk e => by have := ((h.O h9).lt k e.symm).1; omega
 refine ⟨h.bel.trans (grown_below hg (fun k hk => by have := ((h.O h9).lt k hk).1; omega) h.bel.size), Nat.lt_of_lt_of_le h.lt hg.size, (hg.block _ (lt_heap h.A) (hne _ (by omega))).trans h.A, ?_, ?_, ?_, ?_⟩
 · rw [ranI_ne L (by decide : (11 : Nat) ≠ 9), if_neg (by rw [h11]; decide)]; exact (hg.block _ (lt_heap hG) (hne _ (Nat.le_refl _))).trans hG
 · rw [ranI_same]; exact fun e => by cases e
 · exact fun _ => ho
 · rw [ranI_same]; exact fun _ e => by cases e
theorem RwC.stored {w W : World} {s g : Nat} {x : RpD} {u sv : Value} {fs : List Ev} {ev : Ev} {L : Nat → Bool} {γ : RwG} (h : RwC w s g x u sv fs ev L γ W) (hs : s < g) (hw : w.heap.size ≤ s) (h9 : L 9 = true) : RwC w s g x u sv fs ev (ranI L 11) γ (W.setRow g ((ryC x (if L 11 = true then γ.v9 else sv)).take 14 ++ [γ.v9] ++ (ryC x (if L 11 = true then γ.v9 else sv)).drop (14 + 1)).toArray) := by
 refine ⟨setRow_below h.bel (by omega) _, by simpa using h.lt, (setRow_other _ _ _ _ (by omega)).trans h.A, ?_, ?_, ?_, ?_⟩
 · rw [ranI_same, if_pos rfl, setRow_at h.G, ryC_setE]
 · rw [ranI_ne L (by decide : (9 : Nat) ≠ 11), h9]; exact fun e => by cases e
 · exact fun _ => (h.N h9).block fun k hk => setRow_other _ _ _ _ (by have := ((h.N h9).lt k hk).1; omega)
 · rw [ranI_ne L (by decide : (9 : Nat) ≠ 11), h9]; exact fun _ e => by cases e
def rwDV (s g b o k n c : Nat) (q : Option Addr) (sv : Value) (ev : Ev) (γ : RwG) : List (Option (Nat × Value)) := [some (24, .pointer (some ⟨g, 14, none⟩)), some (25, sv), some (26, .pointer (some ⟨s, 14, none⟩)), some (27, .slice q n c), some (28, .int .i64 (k : Int)), some (29, .pointer (some ⟨b, o + k * 28, none⟩)), some (30, .agg (evC ev).toArray), some (31, .agg (evD ev).toArray), some (32, .slice (some ⟨γ.b8, 0, none⟩) 1 1), some (33, γ.v9), some (34, .pointer (some ⟨g, 14, none⟩)), none]
section
variable {s g b o k n c : Nat} {q : Option Addr} {sv : Value} {ev : Ev}
theorem rwDV_slots (γ : RwG) : ((rwDV s g b o k n c q sv ev γ).filterMap _root_.id).map (·.1) = [24, 25, 26, 27, 28, 29, 30, 31, 32, 33, 34] := rfl
theorem rwDV_8 (γ : RwG) (p : Nat) {j : Nat} (h : j ≠ 8) : (rwDV s g b o k n c q sv ev ⟨p, γ.v9⟩)[j]? = (rwDV s g b o k n c q sv ev γ)[j]? := by
 match j, h with
 | 0, _ => rfl
 | 1, _ => rfl
 | 2, _ => rfl
 | 3, _ => rfl
 | 4, _ => rfl
 | 5, _ => rfl
 | 6, _ => rfl
 | 7, _ => rfl
 | 8, h => exact absurd rfl h
 | 9, _ => rfl
 | 10, _ => rfl
 | 11, _ => rfl
 | m + 12, _ => rfl
theorem rwDV_9 (γ : RwG) (v : Value) {j : Nat} (h : j ≠ 9) : (rwDV s g b o k n c q sv ev ⟨γ.b8, v⟩)[j]? = (rwDV s g b o k n c q sv ev γ)[j]? := by
 match j, h with
 | 0, _ => rfl
 | 1, _ => rfl
 | 2, _ => rfl
 | 3, _ => rfl
 | 4, _ => rfl
 | 5, _ => rfl
 | 6, _ => rfl
 | 7, _ => rfl
 | 8, _ => rfl
 | 9, h => exact absurd rfl h
 | 10, _ => rfl
 | 11, _ => rfl
 | m + 12, _ => rfl
end
structure TwSt (w W : World) (s g : Nat) (x : RpD) (u v : Value) : Prop where
 bel : Below w.heap.size w W
 a : W.heap[s]? = some (.cells (ryC x u).toArray 59 (0, 0))
 b : W.heap[g]? = some (.cells (ryC x v).toArray 72 (0, 0))
theorem TwSt.below {w W W' : World} {s g : Nat} {x : RpD} {u v : Value} (h : TwSt w W s g x u v) (hb : Below W.heap.size W W') : TwSt w W' s g x u v :=
 ⟨h.bel.trans (hb.mono h.bel.size), (hb.block _ (lt_heap h.a)).trans h.a, (hb.block _ (lt_heap h.b)).trans h.b⟩
theorem slat_evs {w W : World} {q : Option Addr} {es : List Ev} {k : Nat} (hk : k < es.length) (h : SlAt evC 28 w q es) (hb : Below w.heap.size w W) : ∃ b o, q = some ⟨b, o, none⟩ ∧ W.rangeAt b (o + k * 28) (evC es[k]) := by
 obtain ⟨b, o, h1, _, h3⟩ := (h.below hb) k hk
 exact ⟨b, o, h1, h3⟩
theorem RequestReplyBytes_walkI (x0 : RpD) (q : Option Addr) (n0 c : Nat) (es0 : List Ev) (w : World) (hn : es0.length = n0) (hnc : n0 ≤ c) (hcm : c ≤ maxLen) (hq : SlAt evC 28 w q es0) (hok : ∀ v ∈ es0, OkEv v) (hmx : MX w) :
   Calls Tryz.prog 6 #[.agg (ryC x0 (.slice q n0 c)).toArray] w fun e w' => e = .returned (.bool true) ∧ Below w.heap.size w w' := by
 have HQ := Lib.hid (slAt_take hq 20)
 have HN : Hid ((es0.take 20).length = min n0 20) := by show _ = _; rw [List.length_take, hn, Nat.min_comm]
 have HOK : Hid (∀ v ∈ es0.take 20, OkEv v) := fun v hv => hok v (List.mem_of_mem_take hv)
 have KC := Lib.hid (cut26_any x0 q n0 c (w.alloc (.cells (ryC x0 (.slice q n0 c)).toArray 59)) hnc hcm)
 have HA0 := Lib.hid (heap_alloc_new w (.cells (ryC x0 (.slice q n0 c)).toArray 59))
 have HB0 := Lib.hid (below_alloc1 w (.cells (ryC x0 (.slice q n0 c)).toArray 59))
 have HMX := Lib.hid hmx
 have hm20 : min n0 20 ≤ 20 := Nat.min_le_right _ _
 have hmc : min n0 20 ≤ c := by omega
 clear hn hnc hcm hq hok hmx
 generalize es0.take 20 = es at *
 generalize cutRp x0 = x at *
 generalize min n0 20 = m at *
 obtain ⟨d1, d2, d3⟩ := doc_print x es HOK.out
 clear d3
 have HD := Lib.hid d1
 have HDB := Lib.hid d2
 have HPP : Hid (prE x es = 0 → prsE (prB x es) = 0 ∧ prsD (prB x es) = x ∧ prsV (prB x es) = es ∧ (prB x es).length ≤ 4096) := fun h => prints_parse HOK.out h
 have HPL : Hid ((prB x es).length ≤ 4096) := by
   show _ ≤ _
   by_cases h : prE x es = 0
   · exact (HPP.out h).2.2.2
   · unfold prB; rw [if_neg h]; simp
 clear d1 d2
 have KP : Hid (∀ W, Below w.heap.size w W → Calls Tryz.prog 18 #[.agg (ryC x (.slice q m c)).toArray] W fun e w' => ∃ (q2 : Option Addr) (c2 : Nat), e = .returned (.tuple #[.slice q2 (prB x es).length c2, .int .i64 (prE x es : Nat)]) ∧ SlAt byteC 1 w' q2 (prB x es) ∧ (q2 = none → (prB x es).length = 0 ∧ c2 = 0) ∧ Below W.heap.size W w') := fun W hW => by
   refine (print_any x q m c es W HN.out (HQ.out.below hW) HOK.out (HMX.out.below hW)).mono ?_
   rintro e w' ⟨v, rfl, ho, hb⟩
   obtain ⟨q2, c2, rfl⟩ := ho.slice
   exact ⟨q2, c2, rfl, ho.slat byteC_len, fun e => ⟨by have := ho.none_cap e; have := ho.cap_le.2; omega, ho.none_cap e⟩, hb⟩
 have KD : Hid (∀ (q4 : Option Addr) (c4 : Nat) (W : World), SlAt evD 28 W q4 es → Calls Tryz.prog 21 #[.agg (ryC x (.slice q4 m c4)).toArray] W fun e w' => ∃ (q2 : Option Addr) (c2 : Nat), e = .returned (.tuple #[.slice q2 (prB x es).length c2, .int .i64 (prE x es : Nat)]) ∧ SlAt byteC 1 w' q2 (prB x es) ∧ Below W.heap.size W w') := fun q4 c4 W hs => by
   refine (refPrint_any x q4 m c4 es W HN.out hs HOK.out).mono ?_
   rintro e w' ⟨v, rfl, ho, hb⟩
   rw [HDB.out] at ho
   rw [HD.out]
   obtain ⟨q2, c2, rfl⟩ := ho.slice
   exact ⟨q2, c2, rfl, ho.slat byteC_len, hb⟩
 have KS : Hid (∀ (q2 q3 : Option Addr) (c2 c3 : Nat) (W : World), SlAt byteC 1 W q2 (prB x es) → SlAt byteC 1 W q3 (prB x es) → Calls Tryz.prog 12 #[.slice q2 (prB x es).length c2, .slice q3 (prB x es).length c3] W fun e w' => e = .returned (.bool true) ∧ Below W.heap.size W w') := fun q2 q3 c2 c3 W h2 h3 => sameSelf_any q2 q3 _ c2 c3 _ W rfl h2 h3 (by have := HPL.out; omega)
 have KK : Hid (∀ W, Below w.heap.size w W → Calls Tryz.prog 10 #[] W fun e w' => e = .returned (.bool true) ∧ Below W.heap.size W w') := fun W hW => known26_any W (HMX.out.below hW)
 have KA : Hid (prE x es = 0 → ∀ (q2 : Option Addr) (c2 : Nat) (W : World), Below w.heap.size w W → SlAt byteC 1 W q2 (prB x es) → (q2 = none → (prB x es).length = 0 ∧ c2 = 0) → Calls Tryz.prog 15 #[.slice q2 (prB x es).length c2] W fun e w' => ∃ (q5 : Option Addr) (c5 : Nat), e = .returned (.tuple #[.agg (ryC x (.slice q5 m c5)).toArray, .int .i64 0]) ∧ SlAt evC 28 w' q5 es ∧ Below W.heap.size W w') := fun h0 q2 c2 W hW hs hz => by
   obtain ⟨p1, p2, p3, p4⟩ := HPP.out h0
   refine (rqParse_any q2 _ c2 (prB x es) W rfl hs hz (by omega) (HMX.out.below hW)).mono ?_
   rintro e w' ⟨v, rfl, ho, hb⟩
   rw [p3] at ho
   rw [p1, p2]
   obtain ⟨q5, c5, rfl⟩ := ho.slice
   rw [HN.out]
   exact ⟨q5, c5, rfl, ho.slat evC_len, hb⟩
 have KE : Hid (∀ (q5 : Option Addr) (c5 : Nat) (W : World), Below w.heap.size w W → SlAt evC 28 W q5 es → Calls Tryz.prog 14 #[.agg (ryC x (.slice q5 m c5)).toArray, .agg (ryC x (.slice q m c)).toArray] W fun e w' => e = .returned (.bool true) ∧ Below W.heap.size W w') := fun q5 c5 W hW hs => by
   have := same_any x x q5 q c5 c m m es es W HN.out HN.out hs (HQ.out.below hW) (by omega)
   rwa [show sameB x x es es = true from by unfold sameB; rw [eqR_self, (allE_iff es es rfl).2 fun k _ _ => eqE_self _]; simp] at this
 clear HD HDB HPP HPL HMX
 generalize prE x es = pe at *
 generalize prB x es = lB at *
 have KT : Hid (∀ W, Calls Tryz.prog 19 #[.agg (rpC x).toArray] W fun e w' => e = .returned (.agg (rpC x).toArray) ∧ Below W.heap.size W w') := fun W => told25_any x W
 go_enter Tryz.func6, Tryz.ntmps6
 go_upto_region 1 with fail
 generalize w.alloc (.cells (ryC x0 (.slice q n0 c)).toArray 59) = W1 at *
 have HRa := Lib.hid (range_whole HA0.out)
 go_upto_region 2 with (first
   | ((with_reducible refine gate_ld 59 (.tmp 1) rfl ?_); refine wl_ldr rfl 59 _ rfl w.heap.size 0 (ryC x0 (.slice q n0 c)) _ Tryz.underlying59 rfl (by rw [sizRy, ryC_len]) rfl HRa.out ?_)
   | (go_at_call 13; (refine KC.out.mono ?_); rintro e W2 ⟨rfl, hb2⟩; have HA2 := Lib.hid ((hb2.block _ (lt_heap HA0.out)).trans HA0.out); have HB2 := Lib.hid (HB0.out.trans (hb2.mono HB0.out.size)); clear hb2)
   | ((with_reducible refine gate_st 59 _ _ rfl ?_); refine wl_strG rfl 59 _ _ rfl w.heap.size (ryC x (.slice q m c)).toArray (ryC x0 (.slice q n0 c)).toArray 59 (by rw [sizRy, List.size_toArray, ryC_len]) (by rw [List.size_toArray, List.size_toArray, ryC_len, ryC_len]) (ryC_oneW _ _ _ _) rfl (by first | rfl | simp [Act.eval, Act.put]) HA2.out (fun W3 h1 h2 => ?_); have HA3 := Lib.hid h1; have HB3 := Lib.hid (HB2.out.trans (h2.below (fun k hk => by simp at hk; omega) HB2.out.size)); clear h1 h2; try simp only [Act.put]))
 clear HA0 HB0 HRa KC HA2 HB2
 have HR3 := Lib.hid (range_app_left (xs := rpC x) (range_whole HA3.out))
 go_upto_region 3 with (first
   | ((with_reducible refine gate_ld 56 _ rfl ?_); refine wl_ldr rfl 56 _ rfl w.heap.size 0 (rpC x) _ Tryz.underlying56 rfl (by rw [sizRp, rpC_len]) rfl HR3.out ?_)
   | (go_at_call 19; (refine (KT.out _).mono ?_); rintro e W4 ⟨rfl, hb2⟩; have HA4 := Lib.hid ((hb2.block _ (lt_heap HA3.out)).trans HA3.out); have HB4 := Lib.hid (HB3.out.trans (hb2.mono HB3.out.size)); clear hb2)
   | ((with_reducible refine gate_bd 72 _ rfl ?_); refine wl_bd rfl _ [(0, .tmp 15)] rfl [(0, .agg (rpC x).toArray)] rfl (ryC x (.slice none 0 0)).toArray (bldRS x) ?_)
   | ((with_reducible refine gate_st 72 _ _ rfl ?_); refine wl_strn rfl _ _ _ rfl (ryC x (.slice none 0 0)).toArray #[Value.int IntKind.i64 0, Value.string ⟨#[]⟩, Value.int IntKind.u8 0, Value.int IntKind.u8 0, Value.int IntKind.u8 0, Value.int IntKind.u8 0, Value.int IntKind.u8 0, Value.int IntKind.u8 0, Value.int IntKind.u8 0, Value.int IntKind.u8 0, Value.int IntKind.u8 0, Value.int IntKind.u8 0, Value.int IntKind.i64 0, Value.int IntKind.i64 0, Value.slice none 0 0] _ (by rw [sizRyS, List.size_toArray, ryC_len]) (by rw [List.size_toArray, ryC_len]; rfl) (ryC_oneW _ _ _ _) (by simp [Act.eval]) rfl ?_))
 have hsg : w.heap.size < W4.heap.size := lt_heap HA4.out
 have HS0 : Hid (RwS w w.heap.size W4.heap.size x (.slice q m c) (.slice none 0 0) [] (W4.alloc (.cells (ryC x (.slice none 0 0)).toArray 72))) :=
   ⟨HB4.out.alloc HB4.out.size _, lt_heap (heap_alloc_new _ _), (heap_alloc_old _ _ (lt_heap HA4.out)).trans HA4.out, heap_alloc_new _ _, OwnE.nil _ _⟩
 generalize W4.alloc (.cells (ryC x (.slice none 0 0)).toArray 72) = W5 at *
 generalize W4.heap.size = g at *
 clear HA3 HB3 HR3 HA4 HB4 KT
 have HSG := Lib.hid hsg
 clear hsg
 go_upto_region 4 with fail
 go_loopw [4] (fun i wr => ∃ (k : Nat) (sv : Value), k ≤ m ∧ i = .int .i64 (k : Int) ∧ Hid (RwS w w.heap.size g x (.slice q m c) sv (es.take k) wr)) (fun i _ => m - (intOf i).toNat)
 case atStart => exact ⟨0, _, Nat.zero_le _, rfl, HS0.out⟩
 case round =>
   obtain ⟨k, sv, hk, rfl, HS⟩ := hrel
   clear HS0
   have cS : wr.cell? ⟨w.heap.size, 14, none⟩ = some (.slice q m c) := by rw [cell_blk HS.out.A, List.getElem?_toArray]; exact ryC_sl _ _
   by_cases hlt : k < m
   · have hlt' : (k : Int) < (m : Int) := by omega
     have hk20 : k < 20 := by omega
     have hke : k < es.length := by rw [HN.out]; exact hlt
     have HTk := Lib.hid (List.take_succ_eq_append_getElem hke)
     have HLk : Hid ((es.take k).length ≤ 20) := by show _ ≤ _; rw [List.length_take]; omega
     have HRw : Hid (∀ W, Below w.heap.size w W → ∃ b o, q = some ⟨b, o, none⟩ ∧ W.rangeAt b (o + k * 28) (evC es[k])) := fun W hW => slat_evs hke HQ.out hW
     generalize es[k] = ev at *
     generalize es.take k = fs at *
     obtain ⟨b, o, rfl, _⟩ := HRw.out _ HS.out.bel
     have HRw2 : Hid (∀ W, Below w.heap.size w W → W.rangeAt b (o + k * 28) (evC ev)) := fun W hW => by
       obtain ⟨b', o', h1, h2⟩ := HRw.out W hW
       cases h1
       exact h2
     clear HRw
     have hsv : sv.oneCell' = true := by
       obtain ⟨q9, c9, rfl⟩ := HS.out.O.slice
       rfl
     go_upto_region 6 with fail
     refine wp_region_set (RwC w w.heap.size g x (.slice (some ⟨b, o, none⟩) m c) sv fs ev) (rwDV w.heap.size g b o k m c (some ⟨b, o, none⟩) sv ev) ⟨0, undef⟩ (by kernel_rfl) (by kernel_rfl) (fun _ => rfl) (fun _ _ => rfl) (by rw [rwDV_slots]; decide) (fun k hk => by rw [rwDV_slots] at hk; exact (show ∀ k ∈ [24, 25, 26, 27, 28, 29, 30, 31, 32, 33, 34], k < 72 by decide) k hk)
       ⟨HS.out.bel.trans ⟨rfl, rfl, rfl, Nat.le_refl _, fun _ _ => rfl⟩, HS.out.lt, HS.out.A, HS.out.G, (fun _ => HS.out.O), (fun e => by cases e), (fun e => by cases e)⟩ ?_ ?_
     · intro i hi L γ a W hfr hLi hdep hdn hval hC K hK
       have hi12 : i < 12 := hi
       have hsl : W.cell? ⟨w.heap.size, 14, none⟩ = some (.slice (some ⟨b, o, none⟩) m c) := by rw [cell_blk hC.A, List.getElem?_toArray]; exact ryC_sl _ _
       obtain rfl | rfl | rfl | rfl | rfl | rfl | rfl | rfl | rfl | rfl | rfl | rfl : i = 0 ∨ i = 1 ∨ i = 2 ∨ i = 3 ∨ i = 4 ∨ i = 5 ∨ i = 6 ∨ i = 7 ∨ i = 8 ∨ i = 9 ∨ i = 10 ∨ i = 11 := by omega
       · exact wpOp_val rfl rfl (exec_fRS (.tmp 3) rfl g (hfr.off 3 (by rw [rwDV_slots]; decide))) (hK γ W (fun _ _ => rfl) (hC.quiet 0 (by decide) (Below.refl _ _)))
       · have h9 : L 9 = false := noRun fun h => by have := hdn 9 1 h (by kernel_rfl); rw [hLi] at this; cases this
         have h11 : L 11 = false := noRun fun h => by have := hdn 11 9 h (by kernel_rfl); rw [h9] at this; cases this
         have hG := hC.G
         rw [if_neg (by rw [h11]; decide)] at hG
         exact wpOp_val rfl rfl (exec_ld1G 70 agEvsS (.tmp 24) rfl g 14 sv (hval 0 (hdep 0 (by kernel_rfl)) 24 _ rfl) (by rw [cell_blk hG, List.getElem?_toArray]; exact ryC_sl _ _)) (hK γ W (fun _ _ => rfl) (hC.quiet 1 (by decide) (Below.refl _ _)))
       · exact wpOp_val rfl rfl (exec_fRy (.tmp 1) 1 14 (by simp) rfl w.heap.size 0 (hfr.off 1 (by rw [rwDV_slots]; decide))) (hK γ W (fun _ _ => rfl) (hC.quiet 2 (by decide) (Below.refl _ _)))
       · exact wpOp_val rfl rfl (exec_ld1G 57 agEvs (.tmp 26) rfl w.heap.size 14 _ (hval 2 (hdep 2 (by kernel_rfl)) 26 _ rfl) hsl) (hK γ W (fun _ _ => rfl) (hC.quiet 3 (by decide) (Below.refl _ _)))
       · exact wpOp_val rfl rfl (exec_mvT (.tmp 4) rfl _ (hfr.off 4 (by rw [rwDV_slots]; decide))) (hK γ W (fun _ _ => rfl) (hC.quiet 4 (by decide) (Below.refl _ _)))
       · exact wpOp_val rfl rfl (exec_ixE (.tmp 27) (.tmp 28) rfl b o m c k (hval 3 (hdep 3 (by kernel_rfl)) 27 _ rfl) (hval 4 (hdep 4 (by kernel_rfl)) 28 _ rfl) hlt) (hK γ W (fun _ _ => rfl) (hC.quiet 5 (by decide) (Below.refl _ _)))
       · exact wpOp_val rfl rfl (exec_ldr 62 (.tmp 29) rfl b (o + k * 28) (evC ev) _ Tryz.underlying62 rfl (by rw [sizEv, evC_len]) (hval 5 (hdep 5 (by kernel_rfl)) 29 _ rfl) (HRw2.out W hC.bel)) (hK γ W (fun _ _ => rfl) (hC.quiet 6 (by decide) (Below.refl _ _)))
       · refine wpOp_call rfl rfl (exec_calls rfl (enters_of Tryz.func20 (by kernel_rfl) rfl) (vs := #[.agg (evC ev).toArray]) (by have := (hval 6 (hdep 6 (by kernel_rfl)) 30 _ rfl); simp [Act.eval, this]) W) (event26_any ev W) (fun e w2 hR => ?_)
         obtain ⟨rfl, hb⟩ := hR
         exact ⟨_, rfl, hK γ w2 (fun _ _ => rfl) (hC.quiet 7 (by decide) hb)⟩
       · have h9 : L 9 = false := noRun fun h => by have := hdn 9 8 h (by kernel_rfl); rw [hLi] at this; cases this
         have h11 : L 11 = false := noRun fun h => by have := hdn 11 9 h (by kernel_rfl); rw [h9] at this; cases this
         exact wpOp_val rfl rfl (exec_bs1 (k := 28) 70 79 64 (.agg (evD evZd).toArray) Tryz.underlying70 infoEvD (by omega) (by omega) evD_len (.tmp 31) rfl ev (hval 7 (hdep 7 (by kernel_rfl)) 31 _ rfl)) (hK ⟨W.heap.size, γ.v9⟩ _ (fun j hj => rwDV_8 γ _ (fun e => by rw [e, hLi] at hj; cases hj)) (hC.made h9 h11))
       · have h11 : L 11 = false := noRun fun h => by have := hdn 11 9 h (by kernel_rfl); rw [hLi] at this; cases this
         have h8 : L 8 = true := hdep 8 (by kernel_rfl)
         have hO := hC.O hLi
         have hBl := hC.B h8 hLi
         refine wpOp_wp rfl rfl (op_app (k := 28) 70 79 64 (.agg (evD evZd).toArray) Tryz.underlying70 infoEvD evZd_sz (by omega) evD_len evD_one (.tmp 25) (.tmp 32) rfl (g + 1) sv fs (hval 1 (hdep 1 (by kernel_rfl)) 25 _ rfl) hO (some ⟨γ.b8, 0, none⟩) 1 1 [ev] (hval 8 h8 32 _ rfl) rfl (slAt_newE evD_len (by simpa using hBl)) (fun e => by cases e) (by have := HLk.out; omega) (by have := HLk.out; unfold maxLen; omega) hC.lt ?_)
         intro v9 W9 h1 h2 _
         exact hK ⟨γ.b8, v9⟩ W9 (fun j hj => rwDV_9 γ _ (fun e => by rw [e, hLi] at hj; cases hj)) (hC.grew HSG.out (Nat.le_refl _) hLi h11 h2 h1)
       · exact wpOp_val rfl rfl (exec_fRS (.tmp 3) rfl g (hfr.off 3 (by rw [rwDV_slots]; decide))) (hK γ W (fun _ _ => rfl) (hC.quiet 10 (by decide) (Below.refl _ _)))
       · have h9 : L 9 = true := hdep 9 (by kernel_rfl)
         obtain ⟨q9, c9, hv9⟩ := (hC.N h9).slice
         have h1c : γ.v9.oneCell' = true := by rw [hv9]; rfl
         exact wpOp_skip rfl rfl (exec_st1G 70 sizEvDs (.tmp 34) (.tmp 33) rfl g 14 γ.v9 (hval 10 (hdep 10 (by kernel_rfl)) 34 _ rfl) (hval 9 h9 33 _ rfl) h1c _ 72 hC.G (by rw [ryC_len]; omega)) (hK γ _ (fun _ _ => rfl) (hC.stored HSG.out (Nat.le_refl _) h9))
     · intro L γ W hall hC
       have hG := hC.G
       rw [if_pos (hall 11 (by decide))] at hG
       have HS2 : Hid (RwS w w.heap.size g x (.slice (some ⟨b, o, none⟩) m c) γ.v9 (fs ++ [ev]) W) := ⟨hC.bel, hC.lt, hC.A, hG, hC.N (hall 9 (by decide))⟩
       clear hC hG hall cS
       simp only [rwDV, puts, List.filterMap_cons, List.filterMap_nil, _root_.id, wrT]
       go_wp2_with fail
       go_roundw
       case rel => exact ⟨k + 1, γ.v9, by omega, by simp, by rw [HTk.out]; exact HS2.out⟩
       case measure => simp [intOf]; omega
   · obtain rfl : k = m := by omega
     have hlt2 : ¬ (k : Int) < (k : Int) := by omega
     have htk : es.take k = es := List.take_of_length_le (by rw [HN.out]; exact Nat.le_refl _)
     rw [htk] at HS
     obtain ⟨q4, c4, rfl⟩ := HS.out.O.slice
     rw [HN.out] at HS
     have HE4 := Lib.hid (HS.out.O.slat evD_len)
     have HRa := Lib.hid (range_whole HS.out.A)
     have HRb := Lib.hid (range_whole HS.out.G)
     have HT0 : Hid (TwSt w wr w.heap.size g x (.slice q k c) (.slice q4 k c4)) := ⟨HS.out.bel, HS.out.A, HS.out.G⟩
     clear HS htk
     have hkk : ((pe : Int) != (pe : Int)) = false := by simp
     go_upto_region 8 with (first
       | ((with_reducible refine gate_ld 59 (.tmp 1) rfl ?_); refine wl_ldr rfl 59 _ rfl w.heap.size 0 (ryC x (.slice q k c)) _ Tryz.underlying59 rfl (by rw [sizRy, ryC_len]) rfl HRa.out ?_)
       | (go_at_call 18; (refine (KP.out _ HT0.out.bel).mono ?_); rintro e W6 ⟨q6, c6, rfl, hs6, hz6, hb6⟩; have HS6 := Lib.hid hs6; have HZ6 := Lib.hid hz6; have HT6 := Lib.hid (HT0.out.below hb6); have HE6 := Lib.hid (HE4.out.below hb6); clear hs6 hz6 hb6))
     clear HT0 HRa HRb HE4 KP cS
     have HRb := Lib.hid (range_whole HT6.out.b)
     go_upto_region 9 with (first
       | ((with_reducible refine gate_ld 72 (.tmp 3) rfl ?_); refine wl_ldr rfl 72 _ rfl g 0 (ryC x (.slice q4 k c4)) _ Tryz.underlying72 rfl (by rw [sizRyS, ryC_len]) rfl HRb.out ?_)
       | (go_at_call 21; (refine (KD.out _ c4 _ HE6.out).mono ?_); rintro e W7 ⟨q7, c7, rfl, hs7, hb7⟩; have HS7 := Lib.hid hs7; have HS6b := Lib.hid (HS6.out.below hb7); have HT7 := Lib.hid (HT6.out.below hb7); clear hs7 hb7))
     clear HT6 HRb HE6 HS6 KD
     go_upto_region 11 with (first
       | (go_at_call 12; (refine (KS.out _ _ _ _ _ HS6b.out HS7.out).mono ?_); rintro e W8 ⟨rfl, hb8⟩; have HT8 := Lib.hid (HT7.out.below hb8); have HS8 := Lib.hid (HS6b.out.below hb8); clear hb8))
     clear HT7 HS6b HS7 KS
     by_cases hk0 : pe = 0
     · subst hk0
       have KA1 := Lib.hid (KA.out rfl)
       clear KA
       go_upto_region 14 with (first
         | (go_at_call 15; (refine (KA1.out _ _ _ HT8.out.bel HS8.out HZ6.out).mono ?_); rintro e W9 ⟨q9, c9, rfl, hs9, hb9⟩; have HS9 := Lib.hid hs9; have HT9 := Lib.hid (HT8.out.below hb9); clear hs9 hb9)
         | ((with_reducible refine gate_st 59 _ _ rfl ?_); refine wl_strn rfl _ _ _ rfl (ryC x (.slice q9 k c9)).toArray #[Value.int IntKind.i64 0, Value.string ⟨#[]⟩, Value.int IntKind.u8 0, Value.int IntKind.u8 0, Value.int IntKind.u8 0, Value.int IntKind.u8 0, Value.int IntKind.u8 0, Value.int IntKind.u8 0, Value.int IntKind.u8 0, Value.int IntKind.u8 0, Value.int IntKind.u8 0, Value.int IntKind.u8 0, Value.int IntKind.i64 0, Value.int IntKind.i64 0, Value.slice none 0 0] _ (by rw [sizRy, List.size_toArray, ryC_len]) (by rw [List.size_toArray, ryC_len]; rfl) (ryC_oneW _ _ _ _) (by simp [Act.eval]) rfl ?_))
       have hbx := below_alloc1 W9 (.cells (ryC x (.slice q9 k c9)).toArray 59)
       have HX := Lib.hid (heap_alloc_new W9 (.cells (ryC x (.slice q9 k c9)).toArray 59))
       have HT10 := Lib.hid (HT9.out.below hbx)
       have HS10 := Lib.hid (HS9.out.below hbx)
       generalize W9.alloc (.cells (ryC x (.slice q9 k c9)).toArray 59) = W10 at *
       generalize W9.heap.size = g9 at *
       clear hbx HT9 HS9 HT8 HS8 HZ6 KA1
       go_wp2_with (first
         | (go_at_call 10; (refine (KK.out _ HT10.out.bel).mono ?_); rintro e W11 ⟨rfl, hb8⟩; have HT11 := Lib.hid (HT10.out.below hb8); have HS11 := Lib.hid (HS10.out.below hb8); have HX11 := Lib.hid ((hb8.block _ (lt_heap HX.out)).trans HX.out); clear hb8)
         | ((with_reducible refine gate_ld 59 (.tmp 9) rfl ?_); refine wl_ldr rfl 59 _ rfl g9 0 (ryC x (.slice q9 k c9)) _ Tryz.underlying59 rfl (by rw [sizRy, ryC_len]) rfl (range_whole HX11.out) ?_)
         | ((with_reducible refine gate_ld 59 (.tmp 1) rfl ?_); refine wl_ldr rfl 59 _ rfl w.heap.size 0 (ryC x (.slice q k c)) _ Tryz.underlying59 rfl (by rw [sizRy, ryC_len]) rfl (range_whole HT11.out.a) ?_)
         | (go_at_call 14; (refine (KE.out _ _ _ HT11.out.bel HS11.out).mono ?_); rintro e W12 ⟨rfl, hb9⟩; have HB12 := Lib.hid (HT11.out.bel.trans (hb9.mono HT11.out.bel.size)); clear hb9))
       go_ret
       exact ⟨rfl, HB12.out⟩
     · have hkI : ((pe : Int) == 0) = false := by simp; omega
       have hkI' : ¬ (pe : Int) = 0 := by omega
       have hkI2 : ((pe : Int) != 0) = true := by simp; omega
       clear KA hk0
       go_wp2_with (first
         | (go_at_call 10; (refine (KK.out _ HT8.out.bel).mono ?_); rintro e W11 ⟨rfl, hb8⟩; have HB11 := Lib.hid (HT8.out.bel.trans (hb8.mono HT8.out.bel.size)); clear hb8))
       go_ret
       exact ⟨rfl, HB11.out⟩
end Go.Proofs.YtbfefdedjcppaaaGreatDoor
