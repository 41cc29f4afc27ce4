/- Del. -/
import Derived.Test.YtagdedjclbmlkaaC10
namespace Go.Proofs.Ytagdedjclbmlkaa
open Go.RowKit

theorem delL_none {l : List (List UInt8 × Int)} {k : List UInt8} (h : findL l k = none) : delL l k = l := by unfold delL; rw [h]
theorem delL_len {l : List (List UInt8 × Int)} {k : List UInt8} {i : Nat} (h : findL l k = some i) : (delL l k).length + 1 = l.length := by
  unfold delL
  rw [h]
  obtain ⟨hi, _⟩ := find_some h
  simp only [List.length_append, List.length_take, List.length_drop]
  omega
def delAll (l : List (List UInt8 × Int)) (ks : List (List UInt8)) : List (List UInt8 × Int) := ks.foldl delL l
theorem delL_le (l : List (List UInt8 × Int)) (k : List UInt8) : (delL l k).length ≤ l.length := by
  cases h : findL l k with
  | none => rw [delL_none h]; exact Nat.le_refl _
  | some i => have := delL_len h; omega
def keyE (k : List UInt8) : List Value := (bC k).toList
theorem del_in {W : World} {B tb : Nat} {n : Int} {z : Zip} {a b a2 : Nat} {s : Bool} {o : T} {k x : List UInt8} {v : Int} (h : TreeN W B tb n (some (plug ((a, b, s, o) :: z) (.leaf a2 x v)))) (hal : Along k ((a, b, s, o) :: z)) :
    TreeN (W.setCell (slotZ tb z) (ptrA o.addr)) B tb n (some (T.del k (plug ((a, b, s, o) :: z) (.leaf a2 x v)))) := by
  have hdel := del_plug k z a b a2 s o x v hal
  have hwf : (plug z o).WF := by
    have := T.del_WF k h.wf
    rwa [hdel] at this
  rw [hdel]
  have hz : ∃ t2, plug ((a, b, s, o) :: z) (.leaf a2 x v) = plug z t2 ∧ InT W t2 ∧ InT W o ∧ (∀ g ∈ o.addrs, g ∈ t2.addrs) ∧ o.addrs.Sublist t2.addrs := by
    have hin := (in_plug (w := W) (tb := tb) (n := n) ((a, b, s, o) :: z) (.leaf a2 x v)).2 ⟨h.tree, h.ins⟩
    cases s with
    | true =>
      refine ⟨.fork a b o (.leaf a2 x v), rfl, ⟨hin.1.1, hin.1.2.1, hin.2⟩, hin.1.2.1, fun g hg => by simp [T.addrs, hg], ?_⟩
      exact (List.sublist_append_left _ _).cons _
    | false =>
      refine ⟨.fork a b (.leaf a2 x v) o, rfl, ⟨hin.1.1, hin.2, hin.1.2.1⟩, hin.1.2.1, fun g hg => by simp [T.addrs, hg], ?_⟩
      exact (List.sublist_append_right _ _).cons _
  obtain ⟨t2, e, ht2, ho2, hsub, hsl⟩ := hz
  rw [e] at h
  have hadd := plug_addrs z t2
  have hn2 : (tb :: (t2.addrs ++ zaddrs z)).Nodup := (List.Perm.cons tb hadd).nodup_iff.1 h.nod
  have hn3 : (tb :: (o.addrs ++ zaddrs z)).Nodup := hn2.sublist ((List.Sublist.append hsl (List.Sublist.refl _)).cons_cons tb)
  have hnz : (tb :: zaddrs z).Nodup := by
    rw [List.nodup_cons, List.nodup_append] at hn3
    rw [List.nodup_cons]
    exact ⟨fun hx => hn3.1 (List.mem_append.2 (.inr hx)), hn3.2.2.1⟩
  have hin := (in_plug (w := W) (tb := tb) (n := n) z t2).2 ⟨h.tree, h.ins⟩
  have hblk := slot_blk tb z
  have hset := hin.1.set o.addr hnz
  have hoo : InT (W.setCell (slotZ tb z) (ptrA o.addr)) o := ho2.keep fun y hy => by
    have : slotZ tb z = ⟨(slotZ tb z).block, (slotZ tb z).off, none⟩ := by
      match z with
      | [] => rfl
      | (_, _, true, _) :: _ => rfl
      | (_, _, false, _) :: _ => rfl
    rw [this]
    refine heap_setCell_other _ fun e' => ?_
    rw [List.nodup_cons, List.nodup_append] at hn3
    rcases hblk with e2 | e2
    · exact hn3.1 (by rw [← e2, ← e']; exact List.mem_append.2 (.inl hy))
    · exact hn3.2.2.2 y hy _ e2 e'
  have hnew := (in_plug (w := W.setCell (slotZ tb z) (ptrA o.addr)) (tb := tb) (n := n) z o).1 ⟨hset, hoo⟩
  refine ⟨hnew.1, hnew.2, ?_, hwf, ?_⟩
  · exact (List.Perm.cons tb (plug_addrs z o)).nodup_iff.2 hn3
  · intro y hy
    have hy : y ∈ tb :: (plug z o).addrs := hy
    have hy := (List.Perm.cons tb (plug_addrs z o)).mem_iff.1 hy
    refine h.base y ((List.Perm.cons tb hadd).mem_iff.2 ?_)
    rcases List.mem_cons.1 hy with rfl | hy
    · simp
    · rcases List.mem_append.1 hy with hy | hy
      · exact List.mem_cons_of_mem _ (List.mem_append.2 (.inl (hsub y hy)))
      · exact List.mem_cons_of_mem _ (List.mem_append.2 (.inr hy))
theorem del_addrs {k : List UInt8} {z : Zip} {a b a2 : Nat} {s : Bool} {o : T} {x : List UInt8} {v : Int} (hal : Along k ((a, b, s, o) :: z)) : ∀ g ∈ (T.del k (plug ((a, b, s, o) :: z) (.leaf a2 x v))).addrs, g ∈ (plug ((a, b, s, o) :: z) (.leaf a2 x v)).addrs := by
  intro g hg
  rw [del_plug k z a b a2 s o x v hal] at hg
  have hg := (plug_addrs z o).mem_iff.1 hg
  refine (plug_addrs _ _).mem_iff.2 ?_
  show g ∈ (T.leaf a2 x v).addrs ++ (a :: (o.addrs ++ zaddrs z))
  rcases List.mem_append.1 hg with h | h
  · exact List.mem_append.2 (.inr (List.mem_cons_of_mem _ (List.mem_append.2 (.inl h))))
  · exact List.mem_append.2 (.inr (List.mem_cons_of_mem _ (List.mem_append.2 (.inr h))))
def z25A : Array Value := #[Value.int IntKind.u8 0, Value.int IntKind.u8 0, Value.int IntKind.u8 0, Value.int IntKind.u8 0, Value.int IntKind.u8 0, Value.int IntKind.u8 0, Value.int IntKind.u8 0, Value.int IntKind.u8 0, Value.int IntKind.u8 0, Value.int IntKind.u8 0, Value.int IntKind.u8 0, Value.int IntKind.u8 0, Value.int IntKind.u8 0, Value.int IntKind.u8 0, Value.int IntKind.u8 0, Value.int IntKind.u8 0, Value.int IntKind.u8 0, Value.int IntKind.u8 0, Value.int IntKind.u8 0, Value.int IntKind.u8 0, Value.int IntKind.u8 0, Value.int IntKind.u8 0, Value.int IntKind.u8 0, Value.int IntKind.u8 0, Value.int IntKind.u8 0]
def upV (tb : Nat) : Zip → Value
  | [] => .pointer none
  | _ :: z => .pointer (some (slotZ tb z))
theorem slot_at (tb : Nat) (z : Zip) : ∃ sb so, slotZ tb z = ⟨sb, so, none⟩ := by
  match z with
  | [] => exact ⟨_, _, rfl⟩
  | (_, _, true, _) :: _ => exact ⟨_, _, rfl⟩
  | (_, _, false, _) :: _ => exact ⟨_, _, rfl⟩
/-- The state behind some keys. -/
structure DelSt (w : World) (B tb : Nat) (o : Option T) (ks : List (List UInt8)) (gone : Int) (wr : World) (o' : Option T) : Prop where
  at_ : TreeAt wr B tb o'
  all : allO o' = delAll (allO o) ks
  gone : gone = ((allO o).length : Int) - ((allO o').length : Int)
  turn : Turn (tb :: addrsO o) w wr
  sub : ∀ a ∈ addrsO o', a ∈ addrsO o
theorem DelSt.below {w : World} {B tb : Nat} {o o' : Option T} {ks : List (List UInt8)} {gone : Int} {wr W : World} (h : DelSt w B tb o ks gone wr o') (hb : Below wr.heap.size wr W) : DelSt w B tb o ks gone W o' := ⟨h.at_.below hb, h.all, h.gone, h.turn.trans (Turn.of_below hb), h.sub⟩
theorem DelSt.miss {w : World} {B tb : Nat} {o o' : Option T} {ks : List (List UInt8)} {gone : Int} {wr : World} (h : DelSt w B tb o ks gone wr o') {k : List UInt8} (hf : findL (allO o') k = none) : DelSt w B tb o (ks ++ [k]) gone wr o' :=
  ⟨h.at_, by rw [delAll, List.foldl_append]; show _ = delL (delAll (allO o) ks) k; rw [← h.all, delL_none hf], h.gone, h.turn, h.sub⟩
theorem DelSt.hit {w : World} {B tb : Nat} {o o' : Option T} {ks : List (List UInt8)} {gone : Int} {wr W : World} (h : DelSt w B tb o ks gone wr o') {k : List UInt8} {i : Nat} (hf : findL (allO o') k = some i) {o2 : Option T} (ht : TreeAt W B tb o2) (ha : allO o2 = delL (allO o') k) (htu : Turn (tb :: addrsO o') wr W) (hs : ∀ a ∈ addrsO o2, a ∈ addrsO o') : DelSt w B tb o (ks ++ [k]) (gone + 1) W o2 :=
  ⟨ht, by rw [delAll, List.foldl_append]; show _ = delL (delAll (allO o) ks) k; rw [← h.all, ha], by have := delL_len hf; rw [ha, h.gone]; omega, h.turn.trans (htu.mono fun x _ hx => by
    rcases List.mem_cons.1 hx with rfl | hx
    · simp
    · exact List.mem_cons_of_mem _ (h.sub x hx)), fun a ha => h.sub a (hs a ha)⟩
end Go.Proofs.Ytagdedjclbmlkaa
