/- Entries in memory. -/
import Derived.Test.YtpnmficlebnajaaE1
import Derived.Test.YtpnmficlebnajaaTX
import Derived.Test.YtpnmficlebnajaaGX
import Derived.Test.YtpnmficlebnajaaWB
import Derived.Test.YtpnmficlebnajaaSh
namespace Go.Proofs.Ytpnmficlebnajaa
open Go.ChangeShapes Go.WideShapes Go.ChangeAt Go.RowKit Go.Deep

def entC (x : Ent) : List Value := (bC x.n).toList ++ [.string x.t]
theorem entC_len (x : Ent) : (entC x).length = 13 := by simp [entC, bC, x.hn]
theorem entC_one (x : Ent) : ∀ u ∈ entC x, u.oneCell' = true := fun u hu => by
  simp only [entC, bC, List.toList_toArray, List.mem_append, List.mem_map, List.mem_singleton] at hu
  rcases hu with ⟨b, _, rfl⟩ | rfl <;> rfl
theorem entC_all (x : Ent) : ((entC x).toArray).all (·.oneCell') = true := by
  rw [Array.all_eq_true']; intro u hu; exact entC_one x u (by simpa using hu)
/-- A document's entry. -/
structure REnt where
  n : ByteArray
  t : ByteArray
def rentC (x : REnt) : List Value := [.string x.n, .string x.t]
theorem rentC_len (x : REnt) : (rentC x).length = 2 := rfl
theorem rentC_one (x : REnt) : ∀ u ∈ rentC x, u.oneCell' = true := fun u hu => by
  simp only [rentC, List.mem_cons, List.not_mem_nil, or_false] at hu
  rcases hu with rfl | rfl <;> rfl
def ent0 : Ent := ⟨z12, rfl, ⟨#[]⟩⟩
theorem infoE : (Try.prog.info? 44).map (fun i => (i.zero, i.size, i.bytes)) = some (some (.agg (entC ent0).toArray), 13, 32) := by kernel_rfl
theorem infoR : (Try.prog.info? 77).map (fun i => (i.zero, i.size, i.bytes)) = some (some (.agg #[.string ⟨#[]⟩, .string ⟨#[]⟩]), 2, 32) := by kernel_rfl
theorem sizE : (Try.prog.info? 44).map (·.size) = some 13 := by kernel_rfl
theorem sizR : (Try.prog.info? 77).map (·.size) = some 2 := by kernel_rfl

section
variable {ops : Array Oper} {rest : List Oper} {o : Oper} {a : Act} {w : World} {Q : Exit → Act → World → Prop}
theorem entC_sz (x : Ent) : (entC x).toArray.size = 13 := by rw [List.size_toArray, entC_len]
theorem sizE' (x : Ent) : (Try.prog.info? 44).map (·.size) = some (entC x).length := by rw [sizE, entC_len]
theorem sizE'' (x : Ent) : (Try.prog.info? 44).map (·.size) = some (entC x).toArray.size := by rw [sizE, List.size_toArray, entC_len]
theorem ld_E (hw : Region.wanted o (yielded ops a.tmps) = true) (x : Operand) (ho : o.op = .load 44 x) (b i : Nat) (y : Ent) (hx : a.eval x = .pointer (some ⟨b, i, none⟩)) (hc : w.rangeAt b i (entC y))
    (h : wpList Try.prog ops Q rest (a.put o.dst (.agg (entC y).toArray)) w) : wpList Try.prog ops Q (o :: rest) a w :=
  wl_ldr hw _ x ho b i (entC y) _ Try.underlying44 rfl (sizE' y) hx hc h
theorem bs_E (hw : Region.wanted o (yielded ops a.tmps) = true) (x : Operand) (ho : o.op = .buildSlice 22 1 #[(0, x)]) (y : Ent) (hx : a.eval x = .agg (entC y).toArray)
    (h : wpList Try.prog ops Q rest (a.put o.dst (.slice (some ⟨w.heap.size, 0, none⟩) 1 1)) (w.alloc (.cells (entC y).toArray 44))) : wpList Try.prog ops Q (o :: rest) a w :=
  wl_bs1 (k := 13) _ _ 32 _ Try.underlying22 infoE (entC_sz ent0) (by omega) (by omega) entC_len hw x ho y hx h
theorem app_E (hgd : o.guard = none) (s x : Operand) (ho : o.op = .call { callee := .builtin .append, args := #[s, x], argTypes := #[22, 22] })
    (base : Nat) (v : Value) (xs : List Ent) (hs : a.eval s = v) (hown : OwnE entC 44 13 w base v xs) (b c : Nat) (y : Ent) (hx : a.eval x = .slice (some ⟨b, 0, none⟩) 1 c)
    (hr : w.rangeAt b 0 (entC y)) (hlen : xs.length ≤ 1000000) (hbase : base ≤ w.heap.size)
    (h : ∀ v' w', OwnE entC 44 13 w' base v' (xs ++ [y]) → w.grownBy w' v.ownBlock → wpList Try.prog ops Q rest (a.put o.dst v') w') : wpList Try.prog ops Q (o :: rest) a w :=
  wl_app1 (k := 13) _ _ 32 _ Try.underlying22 infoE (entC_sz ent0) (by omega) entC_len entC_one hgd s x ho base v xs hs hown b c y hx hr (by omega) (by unfold maxLen; omega) hbase h
theorem bs_R (hw : Region.wanted o (yielded ops a.tmps) = true) (x : Operand) (ho : o.op = .buildSlice 29 1 #[(0, x)]) (y : REnt) (hx : a.eval x = .agg (rentC y).toArray)
    (h : wpList Try.prog ops Q rest (a.put o.dst (.slice (some ⟨w.heap.size, 0, none⟩) 1 1)) (w.alloc (.cells (rentC y).toArray 77))) : wpList Try.prog ops Q (o :: rest) a w :=
  wl_bs1 (k := 2) _ _ 32 _ Try.underlying29 infoR rfl (by omega) (by omega) rentC_len hw x ho y hx h
theorem app_R (hgd : o.guard = none) (s x : Operand) (ho : o.op = .call { callee := .builtin .append, args := #[s, x], argTypes := #[29, 29] })
    (base : Nat) (v : Value) (xs : List REnt) (hs : a.eval s = v) (hown : OwnE rentC 77 2 w base v xs) (b c : Nat) (y : REnt) (hx : a.eval x = .slice (some ⟨b, 0, none⟩) 1 c)
    (hr : w.rangeAt b 0 (rentC y)) (hlen : xs.length ≤ 1000000) (hbase : base ≤ w.heap.size)
    (h : ∀ v' w', OwnE rentC 77 2 w' base v' (xs ++ [y]) → w.grownBy w' v.ownBlock → wpList Try.prog ops Q rest (a.put o.dst v') w') : wpList Try.prog ops Q (o :: rest) a w :=
  wl_app1 (k := 2) _ _ 32 _ Try.underlying29 infoR rfl (by omega) rentC_len rentC_one hgd s x ho base v xs hs hown b c y hx hr (by omega) (by unfold maxLen; omega) hbase h
end
set_option maxRecDepth 100000 in
theorem open_ents {H : Type} {ench : TypeId × Value → H} {w : World} {base : Nat} {held : Bool} {v : Value} {d : DataW H} {p : List MemPlace} {r : Reach} {b0 : Nat}
    (hv : Value.okWide Try.prog w r b0 22 v) (h : DataW.Trod ench Try.prog w base (fun _ => true) held 22 v d p) :
    ∃ (q : Option Addr) (xs : List Ent) (cap : Nat), v = .slice q xs.length cap ∧ xs.length ≤ cap ∧ cap ≤ maxLen ∧ SlAt entC 13 w q xs ∧ ∀ x ∈ xs, x.t.size ≤ maxLen := by
  refine open_rows (E := 44) (φ := fun x : Ent => x.t.size ≤ maxLen) Try.underlying22 (by kernel_rfl) (by omega) (fun n cs y hy hl => ?_) hv h
  obtain ⟨xs, n', _, _, _, hxl, hfl⟩ := DataW.trod_struct Try.underlying44 hy
  have hx2 : xs.length = 2 := hxl
  have cN : Try.prog.cellsOf 40 = 12 := by kernel_rfl
  have c9 : Try.prog.cellsOf 9 = 1 := by kernel_rfl
  have f0 : DataW.trod ench Try.prog w base (fun _ => true) held n' 40 ((cs.drop 0).take (Try.prog.cellsOf 40)) = xs[0]? := hfl 0 _ rfl
  have f1 : DataW.trod ench Try.prog w base (fun _ => true) held n' 9 ((cs.drop 12).take (Try.prog.cellsOf 9)) = xs[1]? := hfl 1 _ rfl
  rw [List.getElem?_eq_getElem (by omega)] at f0 f1
  rw [cN, List.drop_zero] at f0
  rw [c9] at f1
  obtain ⟨A, hA, eA⟩ := bytes_of_trod Try.underlying40 Try.underlying5 (by kernel_rfl) (by rw [List.length_take, hl]; rfl) f0
  obtain ⟨s, eS, _, hs⟩ := DataW.trod_string Try.underlying9 f1
  refine ⟨⟨A, hA, s⟩, ?_, hs⟩
  have t1 : (cs.drop 12).take 1 = cs.drop 12 := List.take_of_length_le (by rw [List.length_drop, hl]; omega)
  rw [← List.take_append_drop 12 cs, eA, ← t1, eS]; rfl
end Go.Proofs.Ytpnmficlebnajaa
