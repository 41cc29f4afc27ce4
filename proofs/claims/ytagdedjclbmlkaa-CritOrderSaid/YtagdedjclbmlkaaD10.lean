/- Where CritPlays stands; what its calls do there. -/
import Derived.Test.YtagdedjclbmlkaaD9
import Derived.Test.YtagdedjclbmlkaaC24
import Derived.Test.YtagdedjclbmlkaaC12
import Derived.Test.YtagdedjclbmlkaaC10
namespace Go.Proofs.Ytagdedjclbmlkaa
open Go.RowKit

theorem RSl.turn {S : List Nat} {w w' : World} {q : Option Addr} {n c : Nat} {xs : List RE} (h : RSl w q n c xs) (ht : Turn S w w') (hq : ∀ a, q = some a → a.block ∉ S) : RSl w' q n c xs := by
  refine ⟨h.len, h.le, fun i hi => ?_, fun a e => Nat.lt_of_lt_of_le (h.lt a e) ht.size, h.nil, fun a e => ?_⟩
  · obtain ⟨b, o, h1, h2, h3⟩ := h.at_ i hi
    have hb := ht.block b h2 (hq _ h1)
    exact ⟨b, o, h1, Nat.lt_of_lt_of_le h2 ht.size, range_of_block h3 hb⟩
  · obtain ⟨cs, hcs⟩ := h.blk a e
    exact ⟨cs, (ht.block _ (h.lt a e) (hq a e)).trans hcs⟩
theorem RSl.off {w : World} {B tb : Nat} {o : Option T} {q : Option Addr} {n c : Nat} {xs : List RE} (h : RSl w q n c xs) (hT : TreeAt w B tb o) : ∀ a, q = some a → a.block ∉ tb :: addrsO o := fun a e => by
  obtain ⟨cs, hcs⟩ := h.blk a e
  exact off_tree hT hcs (by decide) (by decide)
/-- A call: Del or Put, of a key. -/
structure AC where
  out : Bool
  k : List UInt8
  v : Int
  hk : k.length = 25
def acC (x : AC) : List Value := [.bool x.out] ++ (bC x.k).toList ++ [.int .i64 x.v]
theorem acC_len (x : AC) : (acC x).length = 27 := by simp [acC, bC, x.hk]
theorem acC_one (x : AC) : ∀ u ∈ acC x, u.oneCell' = true := by
  intro u hu
  simp only [acC, List.mem_append, List.mem_singleton] at hu
  rcases hu with (rfl | hu) | rfl
  · rfl
  · exact bC_one' _ u hu
  · rfl
def az27 : Array Value := #[Value.bool false, Value.int IntKind.u8 0, Value.int IntKind.u8 0, Value.int IntKind.u8 0, Value.int IntKind.u8 0, Value.int IntKind.u8 0, Value.int IntKind.u8 0, Value.int IntKind.u8 0, Value.int IntKind.u8 0, Value.int IntKind.u8 0, Value.int IntKind.u8 0, Value.int IntKind.u8 0, Value.int IntKind.u8 0, Value.int IntKind.u8 0, Value.int IntKind.u8 0, Value.int IntKind.u8 0, Value.int IntKind.u8 0, Value.int IntKind.u8 0, Value.int IntKind.u8 0, Value.int IntKind.u8 0, Value.int IntKind.u8 0, Value.int IntKind.u8 0, Value.int IntKind.u8 0, Value.int IntKind.u8 0, Value.int IntKind.u8 0, Value.int IntKind.u8 0, Value.int IntKind.i64 0]
theorem az27_sz : az27.size = 27 := rfl
theorem sizAc : (Try.prog.info? 35).map (·.size) = some 27 := by kernel_rfl
theorem ac_out {w : World} {b o : Nat} {x : AC} (h : w.rangeAt b o (acC x)) : w.cell? ⟨b, o, none⟩ = some (.bool x.out) := by
  have := range_app_left (range_app_left h) 0 _ rfl
  simpa using this
theorem ac_key {w : World} {b o : Nat} {x : AC} (h : w.rangeAt b o (acC x)) : w.rangeAt b (o + 1) (bC x.k).toList := range_app_right (range_app_left h) 1 rfl
theorem ac_val {w : World} {b o : Nat} {x : AC} (h : w.rangeAt b o (acC x)) : w.cell? ⟨b, o + 26, none⟩ = some (.int .i64 x.v) := by
  have := range_app_right h 26 (by simp [bC, x.hk]) 0 _ rfl
  simpa using this
section
variable {P : Program} {Q : Exit → Act → World → Prop}
theorem wpOp_call {ops : Array Oper} {i : Nat} {o : Oper} {a : Act} {w : World} {f : FuncId} {args : Array Value} {R : Ending → World → Prop} {K : Act → World → Prop} (hi : ops[i]? = some o) (hg : o.guard = none) (hr : (execOp a.eval o).run P w = .ok (.enter f args) w)
    (hc : Calls P f args w R) (h : ∀ e w', R e w' → ∃ v, e = .returned v ∧ K (a.put o.dst v) w') : wpOp P ops Q i K a w := by
  unfold wpOp
  simp only [hi]
  rw [if_pos (by unfold Region.wanted; rw [hg])]
  left
  unfold Oper.wp
  rw [hr, Oper.upon_enter]
  refine hc.mono ?_
  intro e w' hR
  obtain ⟨v, rfl, hk⟩ := h e w' hR
  exact hk
theorem exec_calls {o : Oper} {a : Act} {f : FuncId} {xs : Array Operand} {ts : Array TypeId} {vs : Array Value} (ho : o.op = .call { callee := .value (.func f), args := xs, argTypes := ts }) (hf : ∀ args w, (callFunc f args).run P w = .ok (.enter f args) w) (hx : xs.map a.eval = vs) (w : World) :
    (execOp a.eval o).run P w = .ok (.enter f vs) w := by
  unfold execOp
  simp [ho, resolve, invoke, hx, hf, Deferred.ofValue, show a.eval (.func f) = .func (.func f) #[] #[] from rfl]
end
/-- Where CritPlays stands. -/
structure PlSt (w1 : World) (tb : Nat) (W : World) (q : Option Addr) (n c : Nat) (ys : List RE) (o : Option T) (m : Nat) : Prop where
  tree : TreeAt W w1.heap.size tb o
  lst : RSl W q n c ys
  all : ys.map RE.p = allO o
  le : n ≤ m
  bel : Below w1.heap.size w1 W
theorem PlSt.below {w1 W W' : World} {tb : Nat} {q : Option Addr} {n c : Nat} {ys : List RE} {o : Option T} {m : Nat} (h : PlSt w1 tb W q n c ys o m) (hb : Below W.heap.size W W') : PlSt w1 tb W' q n c ys o m :=
  ⟨h.tree.below hb, h.lst.below hb, h.all, h.le, h.bel.trans (hb.mono h.bel.size)⟩
theorem PlSt.len {w1 W : World} {tb : Nat} {q : Option Addr} {n c : Nat} {ys : List RE} {o : Option T} {m : Nat} (h : PlSt w1 tb W q n c ys o m) : (allO o).length = n := by rw [← h.all, List.length_map, h.lst.len]
theorem slat2 (w : World) (y y' : K25) (E : TypeId) : SlAt keyE 25 (w.alloc (.cells (encK y ++ encK y').toArray E)) (some ⟨w.heap.size, 0, none⟩) [y.k, y'.k] := fun i hi => by
  have hr : (w.alloc (.cells (encK y ++ encK y').toArray E)).rangeAt w.heap.size 0 (encK y ++ encK y') := range_whole (by simpa using heap_alloc_new w (.cells (encK y ++ encK y').toArray E))
  match i, hi with
  | 0, _ => exact ⟨_, _, rfl, by simp, range_app_left hr⟩
  | 1, _ => exact ⟨_, _, rfl, by simp, range_app_right hr 25 (encK_len y)⟩
/-- Del of a key, said twice. -/
theorem pl_del {w1 W : World} {tb : Nat} {q : Option Addr} {n c : Nat} {ys : List RE} {o : Option T} {m : Nat} (y : K25) (h : PlSt w1 tb W q n c ys o m) (hm : m ≤ 1000000) (q' : Option Addr) (n' c' : Nat) (ys' : List RE) (hR : RSl W q' n' c' ys') (ha : ys'.map RE.p = delL (ys.map RE.p) y.k) (g : Int) (hg : g = if (findL (ys.map RE.p) y.k).isSome then 1 else 0) :
    Calls Try.prog 11 #[ptrA tb, .slice (some ⟨W.heap.size, 0, none⟩) 2 2] (W.alloc (.cells (encK y ++ encK y).toArray 30)) fun e W' => e = .returned (.int .i64 g) ∧ ∃ o', PlSt w1 tb W' q' n' c' ys' o' m := by
  have hb := below_alloc1 W (.cells (encK y ++ encK y).toArray 30)
  have hT := h.tree.below hb
  have hl := h.len
  have hle := h.le
  have hbs := hb.size
  refine (del_any _ 2 2 [y.k, y.k] _ w1.heap.size tb o rfl (by omega) (slat2 W y y _) (fun k hk => by simp at hk; rw [hk]; exact y.hk) (fun a e hm => ?_) hT (Nat.le_trans h.bel.size hb.size) (by omega)).mono ?_
  · cases e
    have := h.tree.lt _ hm
    exact absurd this (Nat.lt_irrefl _)
  · rintro e W' ⟨gone, rfl, o', hD⟩
    have e0 : findL (delL (allO o) y.k) y.k = none := by
      rw [find_none]
      intro x hx
      exact ((del_mem h.tree.wf.sorted y.k x).1 hx).2
    have e1 : allO o' = delL (allO o) y.k := by rw [hD.all, delAll, List.foldl_cons, List.foldl_cons, List.foldl_nil, delL_none e0]
    rw [hg]
    rw [h.all] at ha ⊢
    refine ⟨?_, o', hD.at_, (hR.below hb).turn hD.turn ((hR.below hb).off hT), by rw [ha, e1], ?_, (h.bel.trans (hb.mono h.bel.size)).trans (hD.turn.below hT.base (Nat.le_trans h.bel.size hb.size))⟩
    · rw [hD.gone, e1]
      cases hf : findL (allO o) y.k with
      | none => rw [delL_none hf]; simp
      | some i => have := delL_len hf; simp; omega
    · have h1 := congrArg List.length ha
      rw [List.length_map, hR.len] at h1
      have := delL_le (allO o) y.k
      omega
/-- Put of a key. -/
theorem pl_put {w1 W : World} {tb : Nat} {q : Option Addr} {n c : Nat} {ys : List RE} {o : Option T} {m : Nat} (k : List UInt8) (v : Int) (hk : k.length = 25) (h : PlSt w1 tb W q n c ys o m) (hm : m ≤ 1000000) (q' : Option Addr) (n' c' : Nat) (ys' : List RE) (hR : RSl W q' n' c' ys') (ha : ys'.map RE.p = putL (ys.map RE.p) k v) (b : Bool) (hb : (findL (ys.map RE.p) k).isSome = b) :
    Calls Try.prog 13 #[ptrA tb, .agg (bC k), .int .i64 v] W fun e W' => e = .returned (.bool (!b)) ∧ ∃ o', PlSt w1 tb W' q' n' c' ys' o' (m + 1) := by
  have hl := h.len
  have hle := h.le
  refine (put_any k v W w1.heap.size tb o hk h.tree h.bel.size (by omega)).mono ?_
  rintro e W' ⟨rfl, o', hT, hall, hturn⟩
  subst hb
  rw [h.all] at ha ⊢
  refine ⟨by rw [has_find h.tree.wf], o', hT, hR.turn hturn (hR.off h.tree), by rw [ha, hall], ?_, h.bel.trans (hturn.below h.tree.base h.bel.size)⟩
  have h1 := congrArg List.length ha
  rw [List.length_map, hR.len] at h1
  have := putL_len (allO o) k v
  omega
theorem PlSt.more {w1 W : World} {tb : Nat} {q : Option Addr} {n c : Nat} {ys : List RE} {o : Option T} {m m' : Nat} (h : PlSt w1 tb W q n c ys o m) (hm : m ≤ m') : PlSt w1 tb W q n c ys o m' := ⟨h.tree, h.lst, h.all, Nat.le_trans h.le hm, h.bel⟩
theorem pl_get {w1 W : World} {tb : Nat} {q : Option Addr} {n c : Nat} {ys : List RE} {o : Option T} {m : Nat} (k : List UInt8) (hk : k.length = 25) (h : PlSt w1 tb W q n c ys o m) :
    Calls Try.prog 14 #[ptrA tb, .agg (bC k)] W fun e W' => e = .returned (getR (getL (allO o) k)) ∧ Below W.heap.size W W' := by
  refine (get_any k W w1.heap.size tb o hk h.tree).mono ?_
  rintro e W' ⟨rfl, hb⟩
  exact ⟨by rw [get_eq h.tree.wf], hb⟩
theorem pl_rget {w1 W : World} {tb : Nat} {q : Option Addr} {n c : Nat} {ys : List RE} {o : Option T} {m : Nat} (k : List UInt8) (hk : k.length = 25) (h : PlSt w1 tb W q n c ys o m) (hm : m ≤ 1000000) :
    Calls Try.prog 15 #[.slice q n c, .agg (rkC k).toArray] W fun e W' => e = .returned (getR (getL (allO o) k)) ∧ Below W.heap.size W W' := by
  have := rget_any q n c ys k W h.lst.len (Nat.le_trans h.le hm) hk h.lst.at_
  rwa [h.all] at this
theorem pl_rdel {w1 W : World} {tb : Nat} {q : Option Addr} {n c : Nat} {ys : List RE} {o : Option T} {m : Nat} (k : List UInt8) (hk : k.length = 25) (h : PlSt w1 tb W q n c ys o m) (hm : m ≤ 1000000) (b : Bool) (hb : (findL (ys.map RE.p) k).isSome = b) :
    Calls Try.prog 9 #[.slice q n c, .agg (rkC k).toArray] W fun e W' => ∃ q' n' c' ys', e = .returned (.tuple #[.slice q' n' c', .bool b]) ∧ RSl W' q' n' c' ys' ∧ ys'.map RE.p = delL (ys.map RE.p) k ∧ Below W.heap.size W W' := by
  subst hb
  exact rdel_any q n c ys k W h.lst (Nat.le_trans h.le hm) hk
theorem pl_rput {w1 W : World} {tb : Nat} {q : Option Addr} {n c : Nat} {ys : List RE} {o : Option T} {m : Nat} (k : List UInt8) (v : Int) (hk : k.length = 25) (h : PlSt w1 tb W q n c ys o m) (hm : m ≤ 1000000) (b : Bool) (hb : (findL (ys.map RE.p) k).isSome = b) :
    Calls Try.prog 12 #[.slice q n c, .agg (rkC k).toArray, .int .i64 v] W fun e W' => ∃ q' n' c' ys', e = .returned (.tuple #[.slice q' n' c', .bool (!b)]) ∧ RSl W' q' n' c' ys' ∧ ys'.map RE.p = putL (ys.map RE.p) k v ∧ Below W.heap.size W W' := by
  subst hb
  exact rput_any q n c ys k v W h.lst (Nat.le_trans h.le hm) hk
end Go.Proofs.Ytagdedjclbmlkaa
