/- Changes come in; SheetDiffs, walked. -/
import Derived.Test.YtpnmficlebnajaaJ10
import Derived.Test.YtpnmficlebnajaaJ9
import Derived.Test.YtpnmficlebnajaaF12
import Derived.Test.YtpnmficlebnajaaE10
namespace Go.Proofs.Ytpnmficlebnajaa
open Go.ChangeShapes Go.WideShapes Go.ChangeAt Go.RowKit Go.Deep

set_option maxRecDepth 100000 in
theorem open_chgs {H : Type} {ench : TypeId × Value → H} {w : World} {base : Nat} {held : Bool} {v : Value} {d : DataW H} {p : List MemPlace} {r : Reach} {b0 : Nat}
    (hv : Value.okWide Try.prog w r b0 46 v) (h : DataW.Trod ench Try.prog w base (fun _ => true) held 46 v d p) :
    ∃ (q : Option Addr) (xs : List Ch) (cap : Nat), v = .slice q xs.length cap ∧ xs.length ≤ cap ∧ cap ≤ maxLen ∧ SlAt chC 15 w q xs ∧ ∀ x ∈ xs, x.was.size ≤ maxLen ∧ x.is.size ≤ maxLen := by
  refine open_rows (E := 56) (φ := fun x : Ch => x.was.size ≤ maxLen ∧ x.is.size ≤ maxLen) Try.underlying46 (by kernel_rfl) (by omega) (fun n cs y hy hl => ?_) hv h
  obtain ⟨xs, n', _, _, _, hxl, hfl⟩ := DataW.trod_struct Try.underlying56 hy
  have hx4 : xs.length = 4 := hxl
  have cN : Try.prog.cellsOf 40 = 12 := by kernel_rfl
  have c3 : Try.prog.cellsOf 3 = 1 := by kernel_rfl
  have c9 : Try.prog.cellsOf 9 = 1 := by kernel_rfl
  have f0 : DataW.trod ench Try.prog w base (fun _ => true) held n' 40 ((cs.drop 0).take (Try.prog.cellsOf 40)) = xs[0]? := hfl 0 _ rfl
  have f1 : DataW.trod ench Try.prog w base (fun _ => true) held n' 3 ((cs.drop 12).take (Try.prog.cellsOf 3)) = xs[1]? := hfl 1 _ rfl
  have f2 : DataW.trod ench Try.prog w base (fun _ => true) held n' 9 ((cs.drop 13).take (Try.prog.cellsOf 9)) = xs[2]? := hfl 2 _ rfl
  have f3 : DataW.trod ench Try.prog w base (fun _ => true) held n' 9 ((cs.drop 14).take (Try.prog.cellsOf 9)) = xs[3]? := hfl 3 _ rfl
  rw [List.getElem?_eq_getElem (by omega)] at f0 f1 f2 f3
  rw [cN, List.drop_zero] at f0
  rw [c3] at f1
  rw [c9] at f2 f3
  obtain ⟨A, hA, eA⟩ := bytes_of_trod Try.underlying40 Try.underlying5 (by kernel_rfl) (by rw [List.length_take, hl]; rfl) f0
  obtain ⟨k, eK, _, _⟩ := DataW.trod_int Try.underlying3 f1
  obtain ⟨s, eS, _, hs⟩ := DataW.trod_string Try.underlying9 f2
  obtain ⟨t, eT, _, ht⟩ := DataW.trod_string Try.underlying9 f3
  refine ⟨⟨A, hA, k, s, t⟩, ?_, hs, ht⟩
  have d1 : cs.drop 12 = (cs.drop 12).take 1 ++ cs.drop 13 := by rw [← List.drop_drop (l := cs) (i := 1) (j := 12), List.take_append_drop]
  have d2 : cs.drop 13 = (cs.drop 13).take 1 ++ cs.drop 14 := by rw [← List.drop_drop (l := cs) (i := 1) (j := 13), List.take_append_drop]
  have d3 : cs.drop 14 = (cs.drop 14).take 1 := (List.take_of_length_le (by rw [List.length_drop, hl]; omega)).symm
  rw [← List.take_append_drop 12 cs, eA, d1, eK, d2, eS, d3, eT]; rfl
/-- A change whose texts are cut. -/
def cutC (c : Ch) : Ch := ⟨c.n, c.hn, c.k, cutT 60 c.was, cutT 60 c.is⟩
theorem chC_set13 (x : Ch) (s : ByteArray) : (chC x).set 13 (.string s) = chC ⟨x.n, x.hn, x.k, s, x.is⟩ := by
  unfold chC
  rw [List.set_append_right _ _ (by simp [bC, x.hn])]
  simp [bC, x.hn]
theorem chC_set14 (x : Ch) (s : ByteArray) : (chC x).set 14 (.string s) = chC ⟨x.n, x.hn, x.k, x.was, s⟩ := by
  unfold chC
  rw [List.set_append_right _ _ (by simp [bC, x.hn])]
  simp [bC, x.hn]
def chgL (l : List Ch) : List Ch := ((l.take 10).map cutC).filter fun c => rightB c.n
theorem chg_snoc (l : List Ch) (k : Nat) (h : k < l.length) : ((l.take (k + 1)).map cutC).filter (fun c => rightB c.n) = ((l.take k).map cutC).filter (fun c => rightB c.n) ++ if rightB l[k].n then [cutC l[k]] else [] := by
  rw [List.take_succ_eq_append_getElem h, List.map_append, List.filter_append]
  cases hr : rightB l[k].n <;> simp [cutC, hr]
theorem Good.ofL {x : List Ent} (h : Good x) : ofL x = x.map toR := by rw [ofL_eq, h.cut]
theorem eqInRC (w : World) (n s t : ByteArray) (k : Int) : (Op.equalIn 10000 54 (.agg #[.string n, .int .i64 k, .string s, .string t]) (.agg #[.string n, .int .i64 k, .string s, .string t])).run Try.prog w = .ok true w := by
  rw [show (10000 : Nat) = 9999 + 1 from rfl, run_equalIn_struct w 9999 54 _ _ (by kernel_rfl) (by kernel_rfl)]
  have q0 := run_equalIn_string (P := Try.prog) w 9998 9 n n Try.underlying9
  have q1 := run_equalIn_int (P := Try.prog) w 9998 3 .i64 .i64 k k Try.underlying3
  have q2 := run_equalIn_string (P := Try.prog) w 9998 9 s s Try.underlying9
  have q3 := run_equalIn_string (P := Try.prog) w 9998 9 t t Try.underlying9
  have p0 : (part 9 #[.string n, .int .i64 k, .string s, .string t] 0).run Try.prog w = .ok (.string n) w := by kernel_rfl
  have p1 : (part 3 #[.string n, .int .i64 k, .string s, .string t] 1).run Try.prog w = .ok (.int .i64 k) w := by kernel_rfl
  have p2 : (part 9 #[.string n, .int .i64 k, .string s, .string t] 2).run Try.prog w = .ok (.string s) w := by kernel_rfl
  have p3 : (part 9 #[.string n, .int .i64 k, .string s, .string t] 3).run Try.prog w = .ok (.string t) w := by kernel_rfl
  rw [beq_self_eq_true] at q0 q1 q2 q3
  simp only [Program.fieldsOf, Try.underlying54, Op.eqFields]
  simp [p0, p1, p2, p3, q0, q1, q2, q3]
theorem run_neqRC (w : World) (c : RCh) : (binOp .neq 54 (.agg (rchC c).toArray) (.agg (rchC c).toArray)).run Try.prog w = .ok (.bool false) w := by
  obtain ⟨n, k, s, t⟩ := c
  rw [run_neq_struct]
  show ((Op.equalIn 10000 54 (.agg #[.string n, .int .i64 k, .string s, .string t]) (.agg #[.string n, .int .i64 k, .string s, .string t])).run Try.prog w).andThen _ = _
  rw [eqInRC]
  rfl
theorem exec_neqRC {a : Act} {o : Oper} (w : World) (x y : Operand) (ho : o.op = .binOp .neq 54 x y 54) (c : RCh) (hx : a.eval x = .agg (rchC c).toArray) (hy : a.eval y = .agg (rchC c).toArray) : (execOp a.eval o).run Try.prog w = .ok (.value (.bool false)) w := by
  have hgd : (eqGuard .neq 54 x y (.agg (rchC c).toArray) (.agg (rchC c).toArray)).run Try.prog w = .ok () w := run_eqGuard_agg w .neq 54 x y _ _ (by kernel_rfl)
  unfold execOp
  simp only [ho, hx, hy, Sem.run_bind, hgd, run_neqRC, Result.andThen_ok, Sem.run_pure]
/-- What comes back as a slice. -/
theorem ret_sl {α : Type} {enc : α → List Value} {k : Nat} (hk : ∀ x, (enc x).length = k) {E : TypeId} {W w' : World} {e : Ending} {xs : List α} {n : Nat} (hn : xs.length = n) (h : Below W.heap.size W w' ∧ ∃ v', e = .returned v' ∧ OwnE enc E k w' W.heap.size v' xs) :
    Below W.heap.size W w' ∧ ∃ q c, e = .returned (.slice q n c) ∧ n ≤ c ∧ c ≤ maxLen ∧ SlAt enc k w' q xs := by
  obtain ⟨hb, v', rfl, ho⟩ := h
  obtain ⟨q, c, rfl, hc, hm, hq, _⟩ := ho.at hk
  subst hn
  exact ⟨hb, q, c, rfl, hc, hm, hq⟩
/-- Two sheets in memory, and what may be asked of them. -/
structure TwoS (w : World) (x y : List Ent) (nx ny : Nat) (q1 : Option Addr) (c1 : Nat) (q2 : Option Addr) (c2 : Nat) : Prop where
  gx : Good x
  gy : Good y
  lx : x.length = nx
  ly : y.length = ny
  hx : nx ≤ c1 ∧ c1 ≤ maxLen
  hy : ny ≤ c2 ∧ c2 ≤ maxLen
  ax : SlAt entC 13 w q1 x
  ay : SlAt entC 13 w q2 y
section
variable {w : World} {x y : List Ent} {nx ny : Nat} {q1 q2 : Option Addr} {c1 c2 : Nat}
theorem TwoS.below (h : TwoS w x y nx ny q1 c1 q2 c2) {W : World} (hb : Below w.heap.size w W) : TwoS W x y nx ny q1 c1 q2 c2 := ⟨h.gx, h.gy, h.lx, h.ly, h.hx, h.hy, h.ax.below hb, h.ay.below hb⟩
theorem TwoS.turn (h : TwoS w x y nx ny q1 c1 q2 c2) : TwoS w y x ny nx q2 c2 q1 c1 := ⟨h.gy, h.gx, h.ly, h.lx, h.hy, h.hx, h.ay, h.ax⟩
theorem TwoS.nx16 (h : TwoS w x y nx ny q1 c1 q2 c2) : nx ≤ 16 := by rw [← h.lx]; exact h.gx.len
theorem TwoS.ny16 (h : TwoS w x y nx ny q1 c1 q2 c2) : ny ≤ 16 := by rw [← h.ly]; exact h.gy.len
theorem TwoS.diff (h : TwoS w x y nx ny q1 c1 q2 c2) (n : Nat) (hn : (diffL x y).length = n) : Calls Try.prog 18 #[.slice q1 nx c1, .slice q2 ny c2] w fun e w' => Below w.heap.size w w' ∧ ∃ q c, e = .returned (.slice q n c) ∧ n ≤ c ∧ c ≤ maxLen ∧ SlAt chC 15 w' q (diffL x y) :=
  (diff_any q1 x nx c1 q2 y ny c2 w h.lx h.hx.1 h.hx.2 h.ax h.ly h.hy.1 h.hy.2 h.ay h.gx.upR h.gy.upR (by have := h.nx16; omega) (by have := h.ny16; omega)).mono fun _ _ k => ret_sl chC_len hn k
theorem TwoS.over (h : TwoS w x y nx ny q1 c1 q2 c2) (n : Nat) (hn : (overL x y).length = n) : Calls Try.prog 20 #[.slice q1 nx c1, .slice q2 ny c2] w fun e w' => Below w.heap.size w w' ∧ ∃ q c, e = .returned (.slice q n c) ∧ n ≤ c ∧ c ≤ maxLen ∧ SlAt entC 13 w' q (overL x y) :=
  (over_any q1 x nx c1 q2 y ny c2 w h.lx h.hx.1 h.hx.2 h.ax h.ly h.hy.1 h.hy.2 h.ay h.gx.upR h.gy.upR (by have := h.nx16; omega) (by have := h.ny16; omega)).mono fun _ _ k => ret_sl entC_len hn k
theorem TwoS.of (h : TwoS w x y nx ny q1 c1 q2 c2) : Calls Try.prog 11 #[.slice q1 nx c1] w fun e w' => Below w.heap.size w w' ∧ ∃ q c, e = .returned (.slice q nx c) ∧ nx ≤ c ∧ c ≤ maxLen ∧ SlAt rentC 2 w' q (x.map toR) := by
  have := of_any q1 x nx c1 w h.lx h.hx.1 h.hx.2 h.ax (fun e he => by have := (h.gx.each e he).2; unfold maxLen; omega)
  rw [h.gx.ofL] at this
  exact this.mono fun _ _ k => ret_sl rentC_len (by rw [List.length_map, h.lx]) k
end
theorem rdiff_sl {w : World} {x y : List Ent} {nx ny : Nat} {q1 q2 : Option Addr} {c1 c2 : Nat} (gx : Good x) (gy : Good y) (lx : x.length = nx) (ly : y.length = ny) (h1 : nx ≤ c1) (h2 : c1 ≤ maxLen) (h3 : ny ≤ c2) (h4 : c2 ≤ maxLen) (ax : SlAt rentC 2 w q1 (x.map toR)) (ay : SlAt rentC 2 w q2 (y.map toR)) (n : Nat) (hn : (diffL x y).length = n) :
    Calls Try.prog 19 #[.slice q1 nx c1, .slice q2 ny c2] w fun e w' => Below w.heap.size w w' ∧ ∃ q c, e = .returned (.slice q n c) ∧ n ≤ c ∧ c ≤ maxLen ∧ SlAt rchC 4 w' q ((diffL x y).map toRC) :=
  (rdiff_any q1 x nx c1 q2 y ny c2 w lx h1 h2 ax ly h3 h4 ay gx.upR gy.upR (by have := gx.len; omega) (by have := gy.len; omega)).mono fun _ _ k => ret_sl rchC_len (by rw [List.length_map, hn]) k
theorem rover_sl {w : World} {x y : List Ent} {nx ny : Nat} {q1 q2 : Option Addr} {c1 c2 : Nat} (gx : Good x) (gy : Good y) (lx : x.length = nx) (ly : y.length = ny) (ax : SlAt rentC 2 w q1 (x.map toR)) (ay : SlAt rentC 2 w q2 (y.map toR)) (n : Nat) (hn : (overL x y).length = n) :
    Calls Try.prog 21 #[.slice q1 nx c1, .slice q2 ny c2] w fun e w' => Below w.heap.size w w' ∧ ∃ q c, e = .returned (.slice q n c) ∧ n ≤ c ∧ c ≤ maxLen ∧ SlAt rentC 2 w' q ((overL x y).map toR) :=
  (rover_any q1 x nx c1 q2 y ny c2 w lx ax ly ay gx.upR.right gy.upR.right (by have := gx.len; omega) (by have := gy.len; omega)).mono fun _ _ k => ret_sl rentC_len (by rw [List.length_map, hn]) k
theorem ofc_sl {w : World} {q : Option Addr} {l : List Ch} {n c : Nat} (hn : l.length = n) (hc : n ≤ c) (hm : c ≤ maxLen) (h : SlAt chC 15 w q l) (hl : n ≤ 100000) :
    Calls Try.prog 22 #[.slice q n c] w fun e w' => Below w.heap.size w w' ∧ ∃ q c, e = .returned (.slice q n c) ∧ n ≤ c ∧ c ≤ maxLen ∧ SlAt rchC 4 w' q (l.map toRC) :=
  (ofc_any q l n c w hn hc hm h hl).mono fun _ _ k => ret_sl rchC_len (by rw [List.length_map, hn]) k
theorem diff_le (x y : List Ent) : (diffL x y).length ≤ x.length + y.length := Nat.le_trans (List.length_filterMap_le _ _) (over_le x y)
end Go.Proofs.Ytpnmficlebnajaa
