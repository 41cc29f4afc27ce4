/- What Put writes. -/
import Derived.Test.YtagdedjclbmlkaaC8
namespace Go.Proofs.Ytagdedjclbmlkaa
open Go.RowKit

theorem leaf_set (k : List UInt8) (v u : Int) (hk : k.length = 25) : (leafC k u).toArray.setIfInBounds 51 (.int .i64 v) = (leafC k v).toArray := by
  obtain ⟨a0, a1, a2, a3, a4, a5, a6, a7, a8, a9, a10, a11, a12, a13, a14, a15, a16, a17, a18, a19, a20, a21, a22, a23, a24, rfl⟩ := list25 k hk
  rfl
theorem upd_addrs (k : List UInt8) (v : Int) : ∀ t : T, (T.upd k v t).addrs = t.addrs
  | .leaf _ _ _ => rfl
  | .fork a b l r => by
    unfold T.upd
    split
    · show a :: (l.addrs ++ (T.upd k v r).addrs) = _; rw [upd_addrs]; rfl
    · show a :: ((T.upd k v l).addrs ++ r.addrs) = _; rw [upd_addrs]; rfl
theorem upd_addr (k : List UInt8) (v : Int) (t : T) : (T.upd k v t).addr = t.addr := by
  cases t with
  | leaf => rfl
  | fork a b l r => unfold T.upd; split <;> rfl
theorem upd_len (k : List UInt8) (v : Int) : ∀ t : T, (T.upd k v t).all.length = t.all.length
  | .leaf _ _ _ => rfl
  | .fork a b l r => by
    unfold T.upd
    split
    · show (l.all ++ (T.upd k v r).all).length = (l.all ++ r.all).length; rw [List.length_append, List.length_append, upd_len]
    · show ((T.upd k v l).all ++ r.all).length = (l.all ++ r.all).length; rw [List.length_append, List.length_append, upd_len]
theorem upd_in {W : World} {B tb : Nat} {t : T} {k : List UInt8} (v : Int) (h : TreeAt W B tb (some t)) (hk : (T.near k t).2.1 = k) (hl : k.length = 25) :
    TreeAt (W.setCell ⟨(T.near k t).1, 51, none⟩ (.int .i64 v)) B tb (some (T.upd k v t)) := by
  obtain ⟨z, hz, hal⟩ := exists_zip k t
  rw [hk] at hz
  obtain ⟨a, ha⟩ : ∃ a, a = (T.near k t).1 := ⟨_, rfl⟩
  obtain ⟨u, hu⟩ : ∃ u, u = (T.near k t).2.2 := ⟨_, rfl⟩
  rw [← ha, ← hu] at hz
  rw [← ha]
  clear ha hu
  have hn := h.nod
  have hadd := plug_addrs z (.leaf a k u)
  rw [← hz] at hadd
  have hn2 : (tb :: (a :: zaddrs z)).Nodup := (List.Perm.cons tb hadd).nodup_iff.1 hn
  simp only [List.nodup_cons, List.mem_cons, not_or] at hn2
  have hin := (in_plug (w := W) (tb := tb) (n := (t.all.length : Int)) z (.leaf a k u)).2 (by rw [← hz]; exact ⟨h.tree, h.ins⟩)
  have ho : ∀ g, g ≠ a → (W.setCell ⟨a, 51, none⟩ (.int .i64 v)).heap[g]? = W.heap[g]? := fun g hg => heap_setCell_other _ hg
  have hup : T.upd k v t = plug z (.leaf a k v) := by
    conv => lhs; rw [hz]
    rw [upd_plug k v z _ hal]; rfl
  have hnew := (in_plug (w := W.setCell ⟨a, 51, none⟩ (.int .i64 v)) (tb := tb) (n := (t.all.length : Int)) z (.leaf a k v)).1
    ⟨hin.1.keep (ho tb hn2.1.1) fun x hx => ho x (fun e => hn2.2.1 (e ▸ hx)), by
      show _ = some (Obj.cells (leafC k v).toArray NODE (0, 0))
      rw [heap_setCell_self _ (show W.heap[a]? = _ from hin.2), leaf_set k v u hl]⟩
  rw [← hup] at hnew
  refine ⟨?_, hnew.2, ?_, T.upd_WF k v h.wf, ?_⟩
  · show _ = some (Obj.cells #[ptrA (T.upd k v t).addr, .int .i64 ((T.upd k v t).all.length : Int)] TREE (0, 0))
    rw [upd_len]; exact hnew.1
  · show (tb :: (T.upd k v t).addrs).Nodup
    rw [upd_addrs]; exact hn
  · show ∀ a ∈ tb :: (T.upd k v t).addrs, B ≤ a
    rw [upd_addrs]; exact h.base
/-- Where a new leaf is to be hung: the walk has come to t', which stays below the new fork. -/
def Stop (d : Nat) : T → Prop
  | .leaf _ _ _ => True
  | .fork _ b _ _ => ¬ b < d
theorem ins_stop {la fa : Nat} {k : List UInt8} {v : Int} {d : Nat} : ∀ {t : T}, Stop d t → T.ins la fa k v d t = if bitOf k d then .fork fa d t (.leaf la k v) else .fork fa d (.leaf la k v) t
  | .leaf _ _ _, _ => rfl
  | .fork _ b _ _, h => by
    have h : ¬ b < d := h
    unfold T.ins
    rw [if_neg h]
theorem ins_in {W : World} {B tb : Nat} {n : Int} {z : Zip} {t' : T} {k : List UInt8} {v : Int} {d la fa : Nat} (h : TreeN W B tb n (some (plug z t'))) (hal : Along k z) (hd : ∀ x ∈ z, x.2.1 < d) (hs : Stop d t')
    (hwf : (T.ins la fa k v d (plug z t')).WF) (hlen : ((T.ins la fa k v d (plug z t')).all.length : Int) = n)
    (hleaf : W.heap[la]? = some (.cells (leafC k v).toArray NODE (0, 0))) (hfork : W.heap[fa]? = some (.cells (forkC d (if bitOf k d then t'.addr else la) (if bitOf k d then la else t'.addr)).toArray NODE (0, 0)))
    (hl1 : la ∉ tb :: (plug z t').addrs) (hf1 : fa ∉ tb :: (plug z t').addrs) (hlf : la ≠ fa) (hB1 : B ≤ la) (hB2 : B ≤ fa) :
    TreeAt (W.setCell (slotZ tb z) (ptrA fa)) B tb (some (T.ins la fa k v d (plug z t'))) := by
  have hadd := plug_addrs z t'
  have hn2 : (tb :: (t'.addrs ++ zaddrs z)).Nodup := (List.Perm.cons tb hadd).nodup_iff.1 h.nod
  have hnz : (tb :: zaddrs z).Nodup := by
    rw [List.nodup_cons, List.nodup_append] at hn2
    rw [List.nodup_cons]
    exact ⟨fun hx => hn2.1 (List.mem_append.2 (.inr hx)), hn2.2.2.1⟩
  have hin := (in_plug (w := W) (tb := tb) (n := n) z t').2 ⟨h.tree, h.ins⟩
  have hblk := slot_blk tb z
  have ho : ∀ g, g ≠ (slotZ tb z).block → (W.setCell (slotZ tb z) (ptrA fa)).heap[g]? = W.heap[g]? := fun g hg => by
    have : slotZ tb z = ⟨(slotZ tb z).block, (slotZ tb z).off, none⟩ := by
      match z with
      | [] => rfl
      | (_, _, true, _) :: _ => rfl
      | (_, _, false, _) :: _ => rfl
    rw [this]
    exact heap_setCell_other _ hg
  have hmem : ∀ g, g ∈ tb :: (plug z t').addrs ↔ g ∈ tb :: (t'.addrs ++ zaddrs z) := fun g => (List.Perm.cons tb hadd).mem_iff
  have hslot : (slotZ tb z).block ∈ tb :: (plug z t').addrs := (hmem _).2 (by
    rcases hblk with e | e
    · rw [e]; simp
    · exact List.mem_cons_of_mem _ (List.mem_append.2 (.inr e)))
  have hkl := ho la (fun e => hl1 (e ▸ hslot))
  have hkf := ho fa (fun e => hf1 (e ▸ hslot))
  have ht' : InT (W.setCell (slotZ tb z) (ptrA fa)) t' := hin.2.keep fun x hx => ho x (fun e => by
    rw [List.nodup_cons, List.nodup_append] at hn2
    rcases hblk with e' | e'
    · exact hn2.1 (by rw [← e', ← e]; exact List.mem_append.2 (.inl hx))
    · exact hn2.2.2.2 x hx _ e' e)
  have hi : T.ins la fa k v d (plug z t') = plug z (T.ins la fa k v d t') := ins_plug la fa k v d z t' hal hd
  have hsub : InT (W.setCell (slotZ tb z) (ptrA fa)) (T.ins la fa k v d t') ∧ (T.ins la fa k v d t').addr = fa ∧ (T.ins la fa k v d t').addrs.Perm (fa :: la :: t'.addrs) := by
    rw [ins_stop hs]
    cases hb : bitOf k d with
    | true =>
      rw [hb] at hfork
      refine ⟨⟨hkf.trans hfork, ht', hkl.trans hleaf⟩, rfl, ?_⟩
      show (fa :: (t'.addrs ++ [la])).Perm _
      exact List.Perm.cons fa (List.perm_append_singleton _ _)
    | false =>
      rw [hb] at hfork
      exact ⟨⟨hkf.trans hfork, hkl.trans hleaf, ht'⟩, rfl, List.Perm.refl _⟩
  obtain ⟨h1, h2, h3⟩ := hsub
  have hset := hin.1.set fa hnz
  rw [← h2] at hset
  have hnew := (in_plug (w := W.setCell (slotZ tb z) (ptrA (T.ins la fa k v d t').addr)) (tb := tb) (n := n) z (T.ins la fa k v d t')).1 ⟨hset, by rw [h2]; exact h1⟩
  rw [h2, ← hi] at hnew
  have hperm : (T.ins la fa k v d (plug z t')).addrs.Perm (fa :: la :: (plug z t').addrs) := by
    rw [hi]
    refine (plug_addrs z _).trans ?_
    refine (List.Perm.append_right _ h3).trans ?_
    exact List.Perm.cons fa (List.Perm.cons la hadd.symm)
  refine ⟨?_, hnew.2, ?_, hwf, ?_⟩
  · show _ = some (Obj.cells #[ptrA (T.ins la fa k v d (plug z t')).addr, .int .i64 ((T.ins la fa k v d (plug z t')).all.length : Int)] TREE (0, 0))
    rw [hlen]; exact hnew.1
  · show (tb :: (T.ins la fa k v d (plug z t')).addrs).Nodup
    refine (List.Perm.cons tb hperm).nodup_iff.2 ?_
    have hn := h.nod
    simp only [addrsO, List.nodup_cons, List.mem_cons, not_or] at hn hl1 hf1 ⊢
    exact ⟨⟨fun e => hf1.1 e.symm, fun e => hl1.1 e.symm, hn.1⟩, ⟨fun e => hlf e.symm, hf1.2⟩, hl1.2, hn.2⟩
  · intro x hx
    have hx : x ∈ tb :: (T.ins la fa k v d (plug z t')).addrs := hx
    rcases List.mem_cons.1 hx with rfl | hx
    · exact h.base _ (by simp)
    · rcases List.mem_cons.1 (hperm.mem_iff.1 hx) with rfl | hx
      · exact hB2
      · rcases List.mem_cons.1 hx with rfl | hx
        · exact hB1
        · exact h.base _ (List.mem_cons_of_mem _ hx)
theorem ins_len (la fa : Nat) (k : List UInt8) (v : Int) (d : Nat) : ∀ t : T, (T.ins la fa k v d t).all.length = t.all.length + 1
  | .leaf _ _ _ => by unfold T.ins; split <;> rfl
  | .fork a b l r => by
    unfold T.ins
    split
    · split
      · show (l.all ++ (T.ins la fa k v d r).all).length = (l.all ++ r.all).length + 1
        rw [List.length_append, List.length_append, ins_len]; omega
      · show ((T.ins la fa k v d l).all ++ r.all).length = (l.all ++ r.all).length + 1
        rw [List.length_append, List.length_append, ins_len]; omega
    · split
      · show ((l.all ++ r.all) ++ [(k, v)]).length = (l.all ++ r.all).length + 1; rw [List.length_append]; rfl
      · show ([(k, v)] ++ (l.all ++ r.all)).length = (l.all ++ r.all).length + 1; rw [List.length_append]; show 1 + _ = _; omega
theorem plug_WF : ∀ (z : Zip) (t : T), (plug z t).WF → t.WF
  | [], _, h => h
  | (a, b, true, o) :: z, t, h => (plug_WF z (.fork a b o t) h).2.2.1
  | (a, b, false, o) :: z, t, h => (plug_WF z (.fork a b t o) h).2.1
theorem builtLeaf (k : List UInt8) (hk : k.length = 25) (v : Int) : Try.prog.built NODE [(0, .bool true), (1, .agg (bC k)), (2, .agg (bC k)), (3, .int .i64 v)] = some (leafC k v).toArray := by
  obtain ⟨a0, a1, a2, a3, a4, a5, a6, a7, a8, a9, a10, a11, a12, a13, a14, a15, a16, a17, a18, a19, a20, a21, a22, a23, a24, rfl⟩ := list25 k hk
  kernel_rfl
theorem builtFork (d : Nat) : Try.prog.built NODE [(4, .int .i64 (d : Int))] = some (nodeV false z25 z25 0 d (.pointer none) (.pointer none)).toArray := by kernel_rfl
theorem sizNode : (Try.prog.info? NODE).map (·.size) = some 55 := by kernel_rfl
end Go.Proofs.Ytagdedjclbmlkaa
