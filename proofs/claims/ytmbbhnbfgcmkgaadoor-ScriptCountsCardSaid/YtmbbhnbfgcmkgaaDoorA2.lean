/- Acts in memory. -/
import Derived.Test.YtmbbhnbfgcmkgaaDoorG3
import Derived.Test.YtmbbhnbfgcmkgaaDoorG4
import Derived.Test.YtmbbhnbfgcmkgaaDoorG5
import Derived.Test.YtmbbhnbfgcmkgaaDoorGI
import Derived.Test.YtmbbhnbfgcmkgaaDoorWB
import Derived.Test.YtmbbhnbfgcmkgaaDoorSh
import Derived.Lib.SmallJoins
import Derived.Laws.BytesArg
namespace Go.Proofs.YtmbbhnbfgcmkgaaDoor
open Go.ChangeShapes Go.WideShapes Go.ChangeAt Go.RowKit Go.Deep

/-- A document's act. -/
structure D4 where
  kind : Int
  who : Int
  n : Int
  b : List UInt8
deriving DecidableEq
def d4C (x : D4) : List Value := [.int .i64 x.kind, .int .i64 x.who, .int .i64 x.n, .string ⟨x.b.toArray⟩]
theorem d4C_len (x : D4) : (d4C x).length = 4 := rfl
theorem d4C_one (x : D4) : ∀ u ∈ d4C x, u.oneCell' = true := fun u hu => by
  simp only [d4C, List.mem_cons, List.not_mem_nil, or_false] at hu
  rcases hu with rfl | rfl | rfl | rfl <;> rfl
def d40 : D4 := ⟨0, 0, 0, []⟩
def enc1 (b : UInt8) : List Value := [.int .u8 (b.toNat : Int)]
theorem enc1_len (b : UInt8) : (enc1 b).length = 1 := rfl
theorem enc1_one (b : UInt8) : ∀ u ∈ enc1 b, u.oneCell' = true := fun u hu => by
  simp only [enc1, List.mem_singleton] at hu; subst hu; rfl
theorem enc1_flat (l : List UInt8) : l.flatMap enc1 = (bC l).toList := by
  induction l with
  | nil => rfl
  | cons b l ih => rw [List.flatMap_cons, ih]; simp [enc1, bC]
/-- A program's act: its bytes lie where its slice says. -/
structure A4 where
  kind : Int
  who : Int
  n : Int
  q : Option Addr
  cap : Nat
  b : List UInt8
def A4.d (x : A4) : D4 := ⟨x.kind, x.who, x.n, x.b⟩
def a4C (x : A4) : List Value := [.int .i64 x.kind, .int .i64 x.who, .int .i64 x.n, .slice x.q x.b.length x.cap]
theorem a4C_len (x : A4) : (a4C x).length = 4 := rfl
theorem a4C_one (x : A4) : ∀ u ∈ a4C x, u.oneCell' = true := fun u hu => by
  simp only [a4C, List.mem_cons, List.not_mem_nil, or_false] at hu
  rcases hu with rfl | rfl | rfl | rfl <;> rfl
def a40 : A4 := ⟨0, 0, 0, none, 0, []⟩
/-- The bytes of an act are there. -/
structure OkA (w : World) (x : A4) : Prop where
  row : SlAt enc1 1 w x.q x.b
  le : x.b.length ≤ x.cap
  max : x.cap ≤ maxLen
  nilc : x.q = none → x.cap = 0
theorem OkA.below {w w' : World} {x : A4} (h : OkA w x) (hb : Below w.heap.size w w') : OkA w' x := ⟨h.row.below hb, h.le, h.max, h.nilc⟩
/-- Acts of a row, and their bytes. -/
structure Acts (w : World) (q : Option Addr) (xs : List A4) : Prop where
  row : SlAt a4C 4 w q xs
  ok : ∀ x ∈ xs, OkA w x
theorem Acts.below {w w' : World} {q : Option Addr} {xs : List A4} (h : Acts w q xs) (hb : Below w.heap.size w w') : Acts w' q xs := ⟨h.row.below hb, fun x hx => (h.ok x hx).below hb⟩
theorem infoA4 : (Tryd.prog.info? 36).map (fun i => (i.zero, i.size, i.bytes)) = some (some (.agg (a4C a40).toArray), 4, 48) := by kernel_rfl
theorem infoD4 : (Tryd.prog.info? 32).map (fun i => (i.zero, i.size, i.bytes)) = some (some (.agg (d4C d40).toArray), 4, 40) := by kernel_rfl
theorem sizA4 : (Tryd.prog.info? 36).map (·.size) = some 4 := by kernel_rfl
theorem sizD4 : (Tryd.prog.info? 32).map (·.size) = some 4 := by kernel_rfl

section
variable {ops : Array Oper} {rest : List Oper} {o : Oper} {a : Act} {w : World} {Q : Exit → Act → World → Prop}
theorem ld_A4 (hw : Region.wanted o (yielded ops a.tmps) = true) (x : Operand) (ho : o.op = .load 36 x) (b i : Nat) (y : A4) (hx : a.eval x = .pointer (some ⟨b, i, none⟩)) (hc : w.rangeAt b i (a4C y))
    (h : wpList Tryd.prog ops Q rest (a.put o.dst (.agg (a4C y).toArray)) w) : wpList Tryd.prog ops Q (o :: rest) a w :=
  wl_ldr hw _ x ho b i (a4C y) _ Tryd.underlying36 rfl sizA4 hx hc h
theorem ld_D4 (hw : Region.wanted o (yielded ops a.tmps) = true) (x : Operand) (ho : o.op = .load 32 x) (b i : Nat) (y : D4) (hx : a.eval x = .pointer (some ⟨b, i, none⟩)) (hc : w.rangeAt b i (d4C y))
    (h : wpList Tryd.prog ops Q rest (a.put o.dst (.agg (d4C y).toArray)) w) : wpList Tryd.prog ops Q (o :: rest) a w :=
  wl_ldr hw _ x ho b i (d4C y) _ Tryd.underlying32 rfl sizD4 hx hc h
theorem bs_A4 (hw : Region.wanted o (yielded ops a.tmps) = true) (x : Operand) (ho : o.op = .buildSlice 22 1 #[(0, x)]) (y : A4) (hx : a.eval x = .agg (a4C y).toArray)
    (h : wpList Tryd.prog ops Q rest (a.put o.dst (.slice (some ⟨w.heap.size, 0, none⟩) 1 1)) (w.alloc (.cells (a4C y).toArray 36))) : wpList Tryd.prog ops Q (o :: rest) a w :=
  wl_bs1 (k := 4) _ _ 48 _ Tryd.underlying22 infoA4 rfl (by omega) (by omega) a4C_len hw x ho y hx h
theorem app_A4 (hgd : o.guard = none) (s x : Operand) (ho : o.op = .call { callee := .builtin .append, args := #[s, x], argTypes := #[22, 22] })
    (base : Nat) (v : Value) (xs : List A4) (hs : a.eval s = v) (hown : OwnE a4C 36 4 w base v xs) (b c : Nat) (y : A4) (hx : a.eval x = .slice (some ⟨b, 0, none⟩) 1 c)
    (hr : w.rangeAt b 0 (a4C y)) (hlen : xs.length ≤ 1000000) (hbase : base ≤ w.heap.size)
    (h : ∀ v' w', OwnE a4C 36 4 w' base v' (xs ++ [y]) → w.grownBy w' v.ownBlock → wpList Tryd.prog ops Q rest (a.put o.dst v') w') : wpList Tryd.prog ops Q (o :: rest) a w :=
  wl_app1 (k := 4) _ _ 48 _ Tryd.underlying22 infoA4 rfl (by omega) a4C_len a4C_one hgd s x ho base v xs hs hown b c y hx hr (by omega) (by unfold maxLen; omega) hbase h
theorem bs_D4 (hw : Region.wanted o (yielded ops a.tmps) = true) (x : Operand) (ho : o.op = .buildSlice 29 1 #[(0, x)]) (y : D4) (hx : a.eval x = .agg (d4C y).toArray)
    (h : wpList Tryd.prog ops Q rest (a.put o.dst (.slice (some ⟨w.heap.size, 0, none⟩) 1 1)) (w.alloc (.cells (d4C y).toArray 32))) : wpList Tryd.prog ops Q (o :: rest) a w :=
  wl_bs1 (k := 4) _ _ 40 _ Tryd.underlying29 infoD4 rfl (by omega) (by omega) d4C_len hw x ho y hx h
theorem app_D4 (hgd : o.guard = none) (s x : Operand) (ho : o.op = .call { callee := .builtin .append, args := #[s, x], argTypes := #[29, 29] })
    (base : Nat) (v : Value) (xs : List D4) (hs : a.eval s = v) (hown : OwnE d4C 32 4 w base v xs) (b c : Nat) (y : D4) (hx : a.eval x = .slice (some ⟨b, 0, none⟩) 1 c)
    (hr : w.rangeAt b 0 (d4C y)) (hlen : xs.length ≤ 1000000) (hbase : base ≤ w.heap.size)
    (h : ∀ v' w', OwnE d4C 32 4 w' base v' (xs ++ [y]) → w.grownBy w' v.ownBlock → wpList Tryd.prog ops Q rest (a.put o.dst v') w') : wpList Tryd.prog ops Q (o :: rest) a w :=
  wl_app1 (k := 4) _ _ 40 _ Tryd.underlying29 infoD4 rfl (by omega) d4C_len d4C_one hgd s x ho base v xs hs hown b c y hx hr (by omega) (by unfold maxLen; omega) hbase h
/-- s[i], of rows: the element's address. -/
theorem wl_ix (hw : Region.wanted o (yielded ops a.tmps) = true) (T E : TypeId) (x y : Operand) (ho : o.op = .indexAddr T x y) (hT : Tryd.prog.underlying T = some (.slice E)) (k : Nat) (hE : (Tryd.prog.info? E).map (·.size) = some k) (b f : Nat) (n c j : Nat) (hx : a.eval x = .slice (some ⟨b, f, none⟩) n c) (hy : a.eval y = .int .i64 (j : Int)) (hj : j < n)
    (h : wpList Tryd.prog ops Q rest (a.put o.dst (.pointer (some ⟨b, f + j * k, none⟩))) w) : wpList Tryd.prog ops Q (o :: rest) a w :=
  wpList_step fun _ hK => by
    rw [if_pos hw]
    have : (execOp a.eval o).run Tryd.prog w = .ok (.value (.pointer (some ⟨b, f + j * k, none⟩))) w := by
      cases hq : Tryd.prog.info? E with
      | none => simp [hq] at hE
      | some i =>
        have hs : i.size = k := by simpa [hq] using hE
        unfold execOp
        simp only [ho, hx, hy]
        simp [go_sem, hT, sizeOf, typeInfo, hq, hs, hj]
    unfold Oper.wp
    rw [this]
    exact hK _ _ h
end
/-- string(b). -/
theorem conv_any (w : World) (q : Option Addr) (cap : Nat) (l : List UInt8) (h : SlAt enc1 1 w q l) :
    (convert 34 9 (.slice q l.length cap)).run Tryd.prog w = .ok (.string ⟨l.toArray⟩) w := by
  cases l with
  | nil =>
    rw [run_convert_bytes_string w 34 9 5 q _ cap Tryd.underlying34 Tryd.underlying5 Tryd.underlying9]
    cases q with
    | none => simp [Conv.bytesToString]; rfl
    | some a => simp [Conv.bytesToString, loadCells]; rfl
  | cons c l =>
    obtain ⟨b, o, rfl, _⟩ := h 0 (by simp)
    have hb : ∀ i (hi : i < (c :: l).length), w.cell? ⟨b, o + i, none⟩ = some (.int .u8 (((c :: l)[i]).toNat : Int)) := fun i hi => by
      obtain ⟨b', o', e, _, hr⟩ := h i hi
      simp only [Option.some.injEq, Addr.mk.injEq, and_true] at e
      obtain ⟨rfl, rfl⟩ := e
      have := hr 0 _ (show (enc1 ((c :: l)[i]))[0]? = some _ from rfl)
      simpa using this
    have := run_convert_bytes_arg (P := Tryd.prog) w 34 5 Tryd.underlying34 Tryd.underlying5 b o (c :: l).length cap ((c :: l).map fun x => (x.toNat : Int)) (by simp) (fun i hi => by
      rw [hb i hi, List.getD_eq_getElem?_getD, List.getElem?_map, List.getElem?_eq_getElem hi]; rfl) 9 Tryd.underlying9
    rw [this]
    refine congrArg (fun s => Result.ok (Value.string s) w) (ByteArray.ext (Array.toList_inj.1 ?_))
    rw [strOfNums_data, List.map_map]
    show _ = c :: l
    conv => rhs; rw [← List.map_id (c :: l)]
    apply List.map_congr_left
    intro x _
    simp
set_option maxRecDepth 100000 in
theorem open_acts {H : Type} {ench : TypeId × Value → H} {w : World} {base : Nat} {held : Bool} {v : Value} {d : DataW H} {p : List MemPlace} {r : Reach} {b0 : Nat}
    (hv : Value.okWide Tryd.prog w r b0 22 v) (h : DataW.Trod ench Tryd.prog w base (fun _ => true) held 22 v d p) :
    ∃ (q : Option Addr) (xs : List A4) (cap : Nat), v = .slice q xs.length cap ∧ xs.length ≤ cap ∧ cap ≤ maxLen ∧ Acts w q xs := by
  obtain ⟨q, xs, cap, h1, h2, h3, h4, h5⟩ := open_rows (E := 36) (enc := a4C) (k := 4) (φ := fun x : A4 => OkA w x) Tryd.underlying22 (by kernel_rfl) (by omega) (fun n cs y hy hl => by
    obtain ⟨xs, n', _, _, _, hxl, hfl⟩ := DataW.trod_struct Tryd.underlying36 hy
    have hx4 : xs.length = 4 := hxl
    have c1 : Tryd.prog.cellsOf 3 = 1 := by kernel_rfl
    have c2 : Tryd.prog.cellsOf 34 = 1 := by kernel_rfl
    have f0 : DataW.trod ench Tryd.prog w base (fun _ => true) held n' 3 ((cs.drop 0).take (Tryd.prog.cellsOf 3)) = xs[0]? := hfl 0 _ rfl
    have f1 : DataW.trod ench Tryd.prog w base (fun _ => true) held n' 3 ((cs.drop 1).take (Tryd.prog.cellsOf 3)) = xs[1]? := hfl 1 _ rfl
    have f2 : DataW.trod ench Tryd.prog w base (fun _ => true) held n' 3 ((cs.drop 2).take (Tryd.prog.cellsOf 3)) = xs[2]? := hfl 2 _ rfl
    have f3 : DataW.trod ench Tryd.prog w base (fun _ => true) held n' 34 ((cs.drop 3).take (Tryd.prog.cellsOf 34)) = xs[3]? := hfl 3 _ rfl
    rw [List.getElem?_eq_getElem (by omega)] at f0 f1 f2 f3
    match cs, hl with
    | [v0, v1, v2, v3], _ =>
      rw [c1] at f0 f1 f2
      rw [c2] at f3
      simp only [List.drop_zero, List.drop_succ_cons, List.take_succ_cons, List.take_zero] at f0 f1 f2 f3
      obtain ⟨x0, e0, _, _⟩ := DataW.trod_int Tryd.underlying3 f0
      obtain ⟨x1, e1, _, _⟩ := DataW.trod_int Tryd.underlying3 f1
      obtain ⟨x2, e2, _, _⟩ := DataW.trod_int Tryd.underlying3 f2
      simp only [List.cons.injEq, and_true] at e0 e1 e2
      subst e0 e1 e2
      rcases open_slice1 Tryd.underlying34 (by kernel_rfl) f3 with ⟨e3, _⟩ | ⟨ad, len, cap, m, nn, V, D, Pl, e3, hbb, hlc, hcm, hm, _, hel⟩
      · simp only [List.cons.injEq, and_true] at e3
        subst e3
        exact ⟨⟨x0, x1, x2, none, 0, []⟩, rfl, SlAt.nil _ _, Nat.le_refl _, Nat.zero_le _, fun _ => rfl⟩
      · simp only [List.cons.injEq, and_true] at e3
        subst e3
        have hlm : len ≤ m := by rw [hm]; split <;> omega
        have hvv : ∀ i, i < len → ∃ b : UInt8, V i = .int .u8 (b.toNat : Int) ∧ w.cell? (ad.add i) = some (V i) := fun i hi => by
          obtain ⟨g1, g2⟩ := hel i (by omega)
          obtain ⟨z, ez, _, wz⟩ := DataW.trod_int Tryd.underlying5 g2
          have hz : 0 ≤ z ∧ z ≤ 255 := by
            simpa [Lit.wf, show IntKind.u8.min = 0 from rfl, show IntKind.u8.max = 255 from rfl] using wz
          simp only [List.cons.injEq, and_true] at ez
          exact ⟨UInt8.ofNat z.toNat, by rw [ez]; congr 1; simp; omega, g1⟩
        obtain ⟨bs, hbl, hbs⟩ := list_of_all (R := fun i (b : UInt8) => V i = .int .u8 (b.toNat : Int) ∧ w.cell? (ad.add i) = some (V i)) len hvv
        refine ⟨⟨x0, x1, x2, some ad, cap, bs⟩, by simp [a4C, hbl], fun i hi => ?_, by show bs.length ≤ cap; omega, hcm, fun h => by cases h⟩
        obtain ⟨g1, g2⟩ := hbs i hi
        obtain ⟨b, o, s⟩ := ad
        obtain rfl : s = none := by
          have h0 := (hbs 0 (Nat.lt_of_le_of_lt (Nat.zero_le _) hi)).2
          have := World.cell?_spot h0
          simpa [Addr.add] using this
        refine ⟨b, o, rfl, ?_, fun j u hu => ?_⟩
        · rw [Addr.add_mid] at g2
          obtain ⟨c', e', fr', hbk, _⟩ := Go.Sort.cells_of_cell? g2
          exact lt_heap hbk
        · rw [Addr.add_mid, g1] at g2
          match j, hu with
          | 0, hu =>
            simp [enc1] at hu
            subst hu
            simpa using g2) hv h
  exact ⟨q, xs, cap, h1, h2, h3, ⟨h4, h5⟩⟩
end Go.Proofs.YtmbbhnbfgcmkgaaDoor
