/- Operation laws of NameSets: an act of 25 cells, a pair of names. -/
import Derived.Test.YtbflliiaigkmgaaP7
namespace Go.Proofs.Ytbflliiaigkmgaa
open Go.ChangeShapes Go.WideShapes Go.ChangeAt Go.RowKit Go.Deep

def actL (out : Bool) (A B : List UInt8) : List Value := .bool out :: ((bC A).toList ++ (bC B).toList)
theorem actL_len {out : Bool} {A B : List UInt8} (hA : A.length = 12) (hB : B.length = 12) : (actL out A B).length = 25 := by simp [actL, bC, hA, hB]
theorem act_zero : (actL false z12 z12).toArray = #[.bool false, .int .u8 0, .int .u8 0, .int .u8 0, .int .u8 0, .int .u8 0, .int .u8 0, .int .u8 0, .int .u8 0, .int .u8 0, .int .u8 0, .int .u8 0, .int .u8 0, .int .u8 0, .int .u8 0, .int .u8 0, .int .u8 0, .int .u8 0, .int .u8 0, .int .u8 0, .int .u8 0, .int .u8 0, .int .u8 0, .int .u8 0, .int .u8 0] := rfl
def z24 : List UInt8 := List.replicate 24 0
theorem z24_eq : bC z24 = #[.int .u8 0, .int .u8 0, .int .u8 0, .int .u8 0, .int .u8 0, .int .u8 0, .int .u8 0, .int .u8 0, .int .u8 0, .int .u8 0, .int .u8 0, .int .u8 0, .int .u8 0, .int .u8 0, .int .u8 0, .int .u8 0, .int .u8 0, .int .u8 0, .int .u8 0, .int .u8 0, .int .u8 0, .int .u8 0, .int .u8 0, .int .u8 0] := rfl
theorem info55 : (Try.prog.info? 55).map (·.size) = some 25 := by kernel_rfl
theorem info56 : (Try.prog.info? 56).map (·.size) = some 24 := by kernel_rfl
theorem act_one (out : Bool) (A B : List UInt8) : ((actL out A B).toArray).all (·.oneCell') = true := by
  rw [Array.all_eq_true']
  intro x hx
  simp only [actL, List.mem_toArray, List.mem_cons, List.mem_append, bC, List.mem_map] at hx
  rcases hx with h | ⟨b, _, h⟩ | ⟨b, _, h⟩
  · rw [h]; rfl
  · rw [← h]; rfl
  · rw [← h]; rfl

section
variable {ops : Array Oper} {rest : List Oper} {o : Oper} {a : Act} {w : World} {Q : Exit → Act → World → Prop}
theorem ld55 (hgd : o.guard = none) (x : Operand) (ho : o.op = .load 55 x)
    (b i : Nat) (out : Bool) (A B : List UInt8) (hx : a.eval x = .pointer (some ⟨b, i, none⟩)) (hA : A.length = 12) (hB : B.length = 12) (hc : w.rangeAt b i (actL out A B))
    (h : wpList Try.prog ops Q rest (a.put o.dst (.agg (actL out A B).toArray)) w) : wpList Try.prog ops Q (o :: rest) a w :=
  wpList_load_mid hgd 55 x ho b i hx _ _ hc Try.underlying55 rfl (by rw [info55, actL_len hA hB]) h
theorem st55n (hgd : o.guard = none) (x y : Operand) (ho : o.op = .store 55 x y) (out : Bool) (A B : List UInt8)
    (hx : a.eval x = .pointer (some ⟨w.heap.size, 0, none⟩)) (hy : a.eval y = .agg (actL out A B).toArray) (hA : A.length = 12) (hB : B.length = 12)
    (h : wpList Try.prog ops Q rest (a.put o.dst undef) (w.alloc (.cells (actL out A B).toArray 55))) : wpList Try.prog ops Q (o :: rest) a (w.alloc (.cells (actL false z12 z12).toArray 55)) :=
  wpList_store_row hgd 55 x y ho w.heap.size _ hx hy 55 _ (heap_alloc_new _ _) (by rw [info55]; simp [actL_len hA hB]) (by simp [actL_len hA hB, actL_len (A := z12) (B := z12) rfl rfl]) (act_one _ _ _) (by rw [World.setRow_alloc_new]; exact h)
theorem bd56 (hgd : o.guard = none) (x y : Operand) (ho : o.op = .build 56 #[(0, x), (1, y)]) (A B : List UInt8)
    (hx : a.eval x = .agg (bC A)) (hy : a.eval y = .agg (bC B)) (hA : A.length = 12) (hB : B.length = 12)
    (h : wpList Try.prog ops Q rest (a.put o.dst (.agg (bC (A ++ B)))) w) : wpList Try.prog ops Q (o :: rest) a w := by
  have hb : Try.prog.built 56 (#[(0, x), (1, y)].map fun (i, x) => (i, a.eval x)).toList = some (bC (A ++ B)) := by
    have hz : ((Try.prog.info? 56).bind (·.zero)) = some (.agg (bC z24)) := by kernel_rfl
    unfold Program.built
    cases hit : Try.prog.info? 56 with
    | none => rw [hit] at hz; cases hz
    | some it =>
      rw [hit] at hz
      simp only [Option.bind_some] at hz
      cases hie : Try.prog.info? 23 with
      | none => have := info23; rw [hie] at this; cases this
      | some ie =>
        have hs : ie.size = 12 := by have := info23; rw [hie] at this; simpa using this
        simp only [Try.underlying56, hz, hie, hs]
        have := Great.fill_whole (s := 12) (by omega) [.agg (bC A), .agg (bC B)] (bC z24) (fun v hv => by
          simp only [List.mem_cons, List.not_mem_nil, or_false] at hv
          rcases hv with rfl | rfl
          · show (bC A).size = 12; rw [bC_size, hA]
          · show (bC B).size = 12; rw [bC_size, hB]) rfl
        simp only [List.zipIdx_cons, List.zipIdx_nil, List.map_cons, List.map_nil] at this
        simp only [List.map_toArray, List.map_cons, List.map_nil, hx, hy]
        refine this.trans ?_
        simp [Value.cells, bC]
  refine wpList_build hgd 56 _ ho (by rw [hb]; rfl) ?_
  rw [hb]; exact h
theorem st56n (hgd : o.guard = none) (x y : Operand) (ho : o.op = .store 56 x y) (l : List UInt8) (N : Nat) (hN : w.heap.size = N)
    (hx : a.eval x = .pointer (some ⟨N, 0, none⟩)) (hy : a.eval y = .agg (bC l)) (hl : l.length = 24)
    (h : wpList Try.prog ops Q rest (a.put o.dst undef) (w.alloc (.cells (bC l) 56))) : wpList Try.prog ops Q (o :: rest) a (w.alloc (.cells (bC z24) 56)) :=
  wpList_store_row hgd 56 x y ho w.heap.size _ (by rw [hN]; exact hx) hy 56 _ (heap_alloc_new _ _) (by rw [info56, bC_size, hl]) (by rw [bC_size, bC_size, hl]; rfl) (bC_one l) (by rw [World.setRow_alloc_new]; exact h)
theorem st22n (hgd : o.guard = none) (x y : Operand) (ho : o.op = .store 22 x y) (l : List UInt8)
    (hx : a.eval x = .pointer (some ⟨w.heap.size, 0, none⟩)) (hy : a.eval y = .agg (bC l)) (hl : l.length = 12)
    (h : wpList Try.prog ops Q rest (a.put o.dst undef) (w.alloc (.cells (bC l) 22))) : wpList Try.prog ops Q (o :: rest) a (w.alloc (.cells (bC z12) 22)) :=
  wpList_store_row hgd 22 x y ho w.heap.size _ hx hy 22 _ (heap_alloc_new _ _) (by rw [info22, bC_size, hl]) (by rw [bC_size, bC_size, hl]; rfl) (bC_one l) (by rw [World.setRow_alloc_new]; exact h)
end

theorem range_of_cells {w : World} {g : Nat} {cs : Array Value} {t : TypeId} {fr : Nat × Nat} (hg : w.heap[g]? = some (.cells cs t fr)) (i : Nat) (vs : List Value) (h : ∀ j v, vs[j]? = some v → cs[i + j]? = some v) : w.rangeAt g i vs := fun j v hv => by
  rw [cell_of_row w g (i + j) _ _ _ hg]; exact h j v hv
structure ActAt (w : World) (g : Nat) (out : Bool) (A B : List UInt8) : Prop where
  hg : w.heap[g]? = some (.cells (actL out A B).toArray 55)
theorem ActAt.out {w : World} {g : Nat} {out : Bool} {A B : List UInt8} (h : ActAt w g out A B) : w.cell? ⟨g, 0, none⟩ = some (.bool out) := by
  rw [cell_of_row w g 0 _ _ _ h.hg]; simp [actL]
theorem ActAt.ra {w : World} {g : Nat} {out : Bool} {A B : List UInt8} (h : ActAt w g out A B) : w.rangeAt g 1 (bC A).toList := range_of_cells h.hg _ _ fun j v hv => by
  have hj := (List.getElem?_eq_some_iff.1 hv).1
  simp only [actL, List.getElem?_toArray, Nat.add_comm 1 j, List.getElem?_cons_succ]
  rw [List.getElem?_append_left hj]; exact hv
theorem ActAt.rb {w : World} {g : Nat} {out : Bool} {A B : List UInt8} (h : ActAt w g out A B) (hA : A.length = 12) : w.rangeAt g 13 (bC B).toList := range_of_cells h.hg _ _ fun j v hv => by
  have e : 13 + j = (12 + j) + 1 := by omega
  simp only [actL, List.getElem?_toArray, e, List.getElem?_cons_succ]
  rw [List.getElem?_append_right (by simp [bC, hA])]
  simp only [bC, List.toList_toArray, List.length_map, hA] at hv ⊢
  rw [show 12 + j - 12 = j by omega]; exact hv
theorem pair_range {w : World} {g : Nat} {A B : List UInt8} (hg : w.heap[g]? = some (.cells (bC (A ++ B)) 56)) (hA : A.length = 12) (hB : B.length = 12) (k : Nat) (hk : k < 2) : w.rangeAt g (k * 12) (bC ([A, B][k]'(by simpa using hk))).toList := range_of_cells hg _ _ fun j v hv => by
  have hj := (List.getElem?_eq_some_iff.1 hv).1
  simp only [bC, List.toList_toArray, List.length_map] at hj
  match k, hk with
  | 0, _ =>
    simp only [List.getElem_cons_zero] at hv hj
    simp only [bC, List.getElem?_toArray, List.map_append, Nat.zero_mul, Nat.zero_add]
    rw [List.getElem?_append_left (by simpa using hj)]; exact hv
  | 1, _ =>
    simp only [List.getElem_cons_succ, List.getElem_cons_zero] at hv hj
    simp only [bC, List.getElem?_toArray, List.map_append, Nat.one_mul]
    rw [List.getElem?_append_right (by simp [hA]), List.length_map, hA, show 12 + j - 12 = j by omega]; exact hv

/-- Blocks that a set's turning leaves. -/
theorem keepS {W w' : World} {sp g r T : Nat} {o : Option Nat} {ks : List (List UInt8)} {cs : Array Value} {fr : Nat × Nat} (hs : SetAt W sp o ks) (h1 : o = none → W.heap.size ≤ r) (h2 : ∀ r0, o = some r0 → r = r0) (ht : Turn [sp, r] W w')
    (hT : T ≠ 39) (hg : W.heap[g]? = some (.cells cs T fr)) : w'.heap[g]? = some (.cells cs T fr) := by
  have hl := lt_heap hg
  rw [ht.block g hl ?_, hg]
  intro hm
  simp only [List.mem_cons, List.not_mem_nil, or_false] at hm
  rcases hm with rfl | rfl
  · rw [hs.1] at hg
    simp only [Option.some.injEq, Obj.cells.injEq] at hg
    exact absurd hg.2.1.symm hT
  · cases o with
    | none => have := h1 rfl; omega
    | some r0 =>
      obtain rfl := h2 r0 rfl
      obtain ⟨l, c, hr, _⟩ := hs.2
      rw [hr] at hg; cases hg
theorem Own.keepS {W w' : World} {sp r base : Nat} {v : Value} {ns : List (List UInt8)} {o : Option Nat} {ks : List (List UInt8)} (hs : SetAt W sp o ks) (h1 : o = none → W.heap.size ≤ r) (h2 : ∀ r0, o = some r0 → r = r0) (ht : Turn [sp, r] W w') (h : Own W base 22 v ns) : Own w' base 22 v ns := by
  refine h.block fun g hg => ?_
  obtain ⟨_, ⟨rfl, _⟩ | ⟨g', cap, cur, rfl, _, hh, _⟩⟩ := h
  · cases hg
  · obtain rfl : g' = g := by simpa [Value.ownBlock] using hg
    rw [hh]
    exact Go.Proofs.Ytbflliiaigkmgaa.keepS hs h1 h2 ht (by decide) hh
theorem turn_opt {o : Option Nat} {sp r : Nat} {W w' : World} (ht : Turn o.toList W w') (h2 : ∀ r0, o = some r0 → r = r0) : Turn [sp, r] W w' :=
  ht.mono fun k _ hk => by
    cases o with
    | none => simp at hk
    | some r0 => obtain rfl := h2 r0 rfl; simp at hk; subst hk; simp

/-- The argument: a slice of acts. -/
def ActsIn (w : World) (q : Option Addr) (n : Nat) : Prop := ∀ i, i < n → ∃ b o out A B, q = some ⟨b, o, none⟩ ∧ b < w.heap.size ∧ A.length = 12 ∧ B.length = 12 ∧ w.rangeAt b (o + i * 25) (actL out A B)

theorem open_acts {H : Type} {enc : TypeId × Value → H} {w : World} {base : Nat} {held : Bool} {v : Value} {d : DataW H} {p : List MemPlace} {r : Reach} {b0 : Nat}
    (hv : Value.okWide Try.prog w r b0 53 v) (h : DataW.Trod enc Try.prog w base (fun _ => true) held 53 v d p) :
    ∃ q n cap, v = .slice q n cap ∧ n ≤ cap ∧ cap ≤ maxLen ∧ ActsIn w q n := by
  obtain ⟨fuel, hf⟩ := h
  obtain ⟨q, l, c, rfl⟩ := okWide_slice Try.underlying53 hv
  rcases open_slice Try.underlying53 hf with ⟨h0, _⟩ | ⟨a, len, cap, m, n, D, Pl, hcs, hb, hl, hm, hmm, hx, hi⟩
  · simp only [Value.cells, List.cons.injEq, and_true] at h0
    simp at h0
    obtain ⟨rfl, rfl, rfl⟩ := h0
    exact ⟨none, 0, 0, rfl, Nat.le_refl _, by unfold maxLen; omega, fun i hi => by omega⟩
  · simp only [Value.cells] at hcs
    simp at hcs
    obtain ⟨rfl, rfl, rfl⟩ := hcs
    refine ⟨some a, l, c, rfl, hl, hm, fun i hil => ?_⟩
    have hmc : m = c := by simpa using hmm
    have hC : Try.prog.cellsOf 55 = 25 := by kernel_rfl
    rw [hC] at hi
    obtain ⟨cs', h1, h2⟩ := hi i (by omega)
    obtain ⟨_, hlen, hat⟩ := World.cells?_some h1
    obtain ⟨xs, n', _, _, _, hxl, hfl⟩ := DataW.trod_struct Try.underlying55 h2
    have hx3 : xs.length = 3 := hxl
    have c4 : Try.prog.cellsOf 4 = 1 := by kernel_rfl
    have c23 : Try.prog.cellsOf 23 = 12 := by kernel_rfl
    have f0 : DataW.trod enc Try.prog w base (fun _ => true) held n' 4 ((cs'.drop 0).take (Try.prog.cellsOf 4)) = xs[0]? := hfl 0 _ rfl
    have f1 : DataW.trod enc Try.prog w base (fun _ => true) held n' 23 ((cs'.drop 1).take (Try.prog.cellsOf 23)) = xs[1]? := hfl 1 _ rfl
    have f2 : DataW.trod enc Try.prog w base (fun _ => true) held n' 23 ((cs'.drop 13).take (Try.prog.cellsOf 23)) = xs[2]? := hfl 2 _ rfl
    rw [List.getElem?_eq_getElem (by omega)] at f0 f1 f2
    rw [c4] at f0
    rw [c23] at f1 f2
    obtain ⟨out, h0, _⟩ := DataW.trod_bool Try.underlying4 f0
    obtain ⟨A, hA, eA⟩ := bytes_of_trod Try.underlying23 Try.underlying5 (by kernel_rfl) (by rw [List.length_take, List.length_drop, hlen]; rfl) f1
    obtain ⟨B, hB, eB⟩ := bytes_of_trod Try.underlying23 Try.underlying5 (by kernel_rfl) (by rw [List.length_take, List.length_drop, hlen]; rfl) f2
    have hcs : cs' = actL out A B := by
      have e1 : cs' = cs'.take 1 ++ ((cs'.drop 1).take 12 ++ (cs'.drop 13).take 12) := by
        have t1 : (cs'.drop 13).take 12 = cs'.drop 13 := List.take_of_length_le (by rw [List.length_drop, hlen]; omega)
        have t2 : cs'.drop 13 = (cs'.drop 1).drop 12 := by rw [List.drop_drop]
        rw [t1, t2, List.take_append_drop, List.take_append_drop]
      rw [e1, eA, eB]
      rw [List.drop_zero] at h0
      rw [h0]; rfl
    have hat' : ∀ j, j < 25 → w.cell? (a.add (i * 25 + j)) = (actL out A B)[j]? := fun j hj => by
      rw [← hcs, ← hat j hj, add_add]
    obtain ⟨cs0, g1, _⟩ := hi 0 (by omega)
    obtain ⟨_, hlen0, hat0⟩ := World.cells?_some g1
    have hu : w.cell? a = some (cs0[0]'(by omega)) := by
      have := hat0 0 (by omega)
      rw [add_add, List.getElem?_eq_getElem (by omega)] at this
      exact this
    obtain ⟨b, o, s⟩ := a
    obtain rfl : s = none := World.cell?_spot hu
    refine ⟨b, o, out, A, B, rfl, ?_, hA, hB, fun j v hv => ?_⟩
    · obtain ⟨c', e', fr', hbk, _⟩ := Go.Sort.cells_of_cell? hu
      exact lt_heap hbk
    · have hj : j < 25 := by
        have := (List.getElem?_eq_some_iff.1 hv).1
        rwa [actL_len hA hB] at this
      have := hat' j hj
      rw [hv, Addr.add_mid] at this
      rw [Nat.add_assoc]; exact this
end Go.Proofs.Ytbflliiaigkmgaa
