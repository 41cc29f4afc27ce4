/- The tree in memory. -/
import Derived.Test.YtagdedjclbmlkaaCX
import Derived.Test.YtagdedjclbmlkaaKX
import Derived.Test.YtagdedjclbmlkaaGX
namespace Go.Proofs.Ytagdedjclbmlkaa
open Go.RowKit

def ptrA (p : Nat) : Value := .pointer (some ⟨p, 0, none⟩)
def nodeV (lf : Bool) (k k2 : List UInt8) (v b : Int) (p q : Value) : List Value := .bool lf :: ((bC k).toList ++ ((bC k2).toList ++ [.int .i64 v, .int .i64 b, p, q]))
theorem nodeV_len {lf : Bool} {k k2 : List UInt8} {v b : Int} {p q : Value} (h : k.length = 25) (h2 : k2.length = 25) : (nodeV lf k k2 v b p q).length = 55 := by simp [nodeV, bC, h, h2]
def leafC (k : List UInt8) (v : Int) : List Value := nodeV true k k v 0 (.pointer none) (.pointer none)
def forkC (b p q : Nat) : List Value := nodeV false z25 z25 0 b (ptrA p) (ptrA q)
/-- Cells of a node, by places. -/
theorem nodeV_key {lf : Bool} {k k2 : List UInt8} {v b : Int} {p q : Value} {w : World} {g : Nat} (h : w.rangeAt g 0 (nodeV lf k k2 v b p q)) : w.rangeAt g 1 (bC k).toList := by
  have := range_app_right (xs := [Value.bool lf]) (ys := (bC k).toList ++ ((bC k2).toList ++ [.int .i64 v, .int .i64 b, p, q])) h 1 rfl
  exact range_app_left this
theorem nodeV_bytes {lf : Bool} {k k2 : List UInt8} {v b : Int} {p q : Value} {w : World} {g : Nat} (h : w.rangeAt g 0 (nodeV lf k k2 v b p q)) (h1 : k.length = 25) : w.rangeAt g 26 (bC k2).toList := by
  have := range_app_right (xs := [Value.bool lf]) (ys := (bC k).toList ++ ((bC k2).toList ++ [.int .i64 v, .int .i64 b, p, q])) h 1 rfl
  have := range_app_right this 25 (by simp [bC, h1])
  exact range_app_left this
theorem nodeV_tail {lf : Bool} {k k2 : List UInt8} {v b : Int} {p q : Value} {w : World} {g : Nat} (h : w.rangeAt g 0 (nodeV lf k k2 v b p q)) (h1 : k.length = 25) (h2 : k2.length = 25) : w.rangeAt g 51 [.int .i64 v, .int .i64 b, p, q] := by
  have := range_app_right (xs := [Value.bool lf]) (ys := (bC k).toList ++ ((bC k2).toList ++ [.int .i64 v, .int .i64 b, p, q])) h 1 rfl
  have := range_app_right this 25 (by simp [bC, h1])
  exact range_app_right this 25 (by simp [bC, h2])
abbrev NODE : TypeId := 90
abbrev TREE : TypeId := 82
def cellsT : T → List Value
  | .leaf _ k v => leafC k v
  | .fork _ b l r => forkC b l.addr r.addr
def InT (w : World) : T → Prop
  | .leaf a k v => w.heap[a]? = some (.cells (leafC k v).toArray NODE (0, 0))
  | .fork a b l r => w.heap[a]? = some (.cells (forkC b l.addr r.addr).toArray NODE (0, 0)) ∧ InT w l ∧ InT w r
theorem InT.root {w : World} : ∀ {t : T}, InT w t → w.heap[t.addr]? = some (.cells (cellsT t).toArray NODE (0, 0))
  | .leaf _ _ _, h => h
  | .fork _ _ _ _, h => h.1
theorem InT.keep {w w' : World} : ∀ {t : T}, InT w t → (∀ a ∈ t.addrs, w'.heap[a]? = w.heap[a]?) → InT w' t
  | .leaf a k v, h, he => (he a (by simp [T.addrs])).trans h
  | .fork a b l r, h, he => ⟨(he a (by simp [T.addrs])).trans h.1, h.2.1.keep fun x hx => he x (by simp [T.addrs, hx]), h.2.2.keep fun x hx => he x (by simp [T.addrs, hx])⟩
theorem InT.lt {w : World} : ∀ {t : T}, InT w t → ∀ a ∈ t.addrs, a < w.heap.size
  | .leaf a k v, h, x, hx => by simp only [T.addrs, List.mem_singleton] at hx; subst hx; exact lt_heap h
  | .fork a b l r, h, x, hx => by
    simp only [T.addrs, List.mem_cons, List.mem_append] at hx
    rcases hx with rfl | hx | hx
    · exact lt_heap h.1
    · exact h.2.1.lt x hx
    · exact h.2.2.lt x hx
theorem InT.below {w w' : World} {t : T} (h : InT w t) (hb : Below w.heap.size w w') : InT w' t := h.keep fun a ha => hb.block a (h.lt a ha)
theorem InT.turn {S : List Nat} {w w' : World} {t : T} (h : InT w t) (ht : Turn S w w') (hs : ∀ a ∈ t.addrs, a ∉ S) : InT w' t := h.keep fun a ha => ht.block a (h.lt a ha) (hs a ha)
theorem addr_mem : ∀ t : T, t.addr ∈ t.addrs
  | .leaf _ _ _ => by simp [T.addr, T.addrs]
  | .fork _ _ _ _ => by simp [T.addr, T.addrs]
/-! ### A place in a tree: what stands above it -/
abbrev Zip := List (Nat × Nat × Bool × T)
def plug : Zip → T → T
  | [], t => t
  | (a, b, true, o) :: z, t => plug z (.fork a b o t)
  | (a, b, false, o) :: z, t => plug z (.fork a b t o)
def zaddrs : Zip → List Nat
  | [] => []
  | (a, _, _, o) :: z => a :: (o.addrs ++ zaddrs z)
/-- Where the pointer to the place stands. -/
def slotZ (tb : Nat) : Zip → Addr
  | [] => ⟨tb, 0, none⟩
  | (a, _, true, _) :: _ => ⟨a, 54, none⟩
  | (a, _, false, _) :: _ => ⟨a, 53, none⟩
def InZ (w : World) (tb : Nat) (n : Int) : Zip → Nat → Prop
  | [], p => w.heap[tb]? = some (.cells #[ptrA p, .int .i64 n] TREE (0, 0))
  | (a, b, true, o) :: z, p => w.heap[a]? = some (.cells (forkC b o.addr p).toArray NODE (0, 0)) ∧ InT w o ∧ InZ w tb n z a
  | (a, b, false, o) :: z, p => w.heap[a]? = some (.cells (forkC b p o.addr).toArray NODE (0, 0)) ∧ InT w o ∧ InZ w tb n z a
theorem in_plug {w : World} {tb : Nat} {n : Int} : ∀ (z : Zip) (t : T), (InZ w tb n z t.addr ∧ InT w t) ↔ (w.heap[tb]? = some (.cells #[ptrA (plug z t).addr, .int .i64 n] TREE (0, 0)) ∧ InT w (plug z t))
  | [], t => Iff.rfl
  | (a, b, true, o) :: z, t => by
    have := in_plug (w := w) (tb := tb) (n := n) z (.fork a b o t)
    refine Iff.trans ?_ this
    constructor
    · rintro ⟨⟨h1, h2, h3⟩, h4⟩; exact ⟨h3, h1, h2, h4⟩
    · rintro ⟨h3, h1, h2, h4⟩; exact ⟨⟨h1, h2, h3⟩, h4⟩
  | (a, b, false, o) :: z, t => by
    have := in_plug (w := w) (tb := tb) (n := n) z (.fork a b t o)
    refine Iff.trans ?_ this
    constructor
    · rintro ⟨⟨h1, h2, h3⟩, h4⟩; exact ⟨h3, h1, h4, h2⟩
    · rintro ⟨h3, h1, h4, h2⟩; exact ⟨⟨h1, h2, h3⟩, h4⟩
theorem plug_addrs : ∀ (z : Zip) (t : T), (plug z t).addrs.Perm (t.addrs ++ zaddrs z)
  | [], t => by simp [plug, zaddrs]
  | (a, b, true, o) :: z, t => by
    refine (plug_addrs z (.fork a b o t)).trans ?_
    simp only [T.addrs, zaddrs]
    rw [List.cons_append]
    refine List.Perm.trans ?_ List.perm_middle.symm
    refine List.Perm.cons a ?_
    rw [List.append_assoc]
    exact List.perm_append_comm_assoc ..
  | (a, b, false, o) :: z, t => by
    refine (plug_addrs z (.fork a b t o)).trans ?_
    simp only [T.addrs, zaddrs]
    rw [List.cons_append]
    refine List.Perm.trans ?_ List.perm_middle.symm
    exact List.Perm.cons a (by rw [List.append_assoc])
theorem InZ.keep {w w' : World} {tb : Nat} {n : Int} : ∀ {z : Zip} {p : Nat}, InZ w tb n z p → w'.heap[tb]? = w.heap[tb]? → (∀ a ∈ zaddrs z, w'.heap[a]? = w.heap[a]?) → InZ w' tb n z p
  | [], _, h, ht, _ => ht.trans h
  | (a, b, true, o) :: z, _, h, ht, he => ⟨(he a (by simp [zaddrs])).trans h.1, h.2.1.keep fun x hx => he x (by simp [zaddrs, hx]), h.2.2.keep ht fun x hx => he x (by simp [zaddrs, hx])⟩
  | (a, b, false, o) :: z, _, h, ht, he => ⟨(he a (by simp [zaddrs])).trans h.1, h.2.1.keep fun x hx => he x (by simp [zaddrs, hx]), h.2.2.keep ht fun x hx => he x (by simp [zaddrs, hx])⟩
/-- The cell that leads to the place. -/
theorem InZ.cell {w : World} {tb : Nat} {n : Int} : ∀ {z : Zip} {p : Nat}, InZ w tb n z p → w.cell? (slotZ tb z) = some (ptrA p)
  | [], _, h => by rw [show slotZ tb [] = ⟨tb, 0, none⟩ from rfl, cell_blk h]; rfl
  | (a, b, true, o) :: z, _, h => by rw [show slotZ tb ((a, b, true, o) :: z) = ⟨a, 54, none⟩ from rfl, cell_blk h.1]; rfl
  | (a, b, false, o) :: z, _, h => by rw [show slotZ tb ((a, b, false, o) :: z) = ⟨a, 53, none⟩ from rfl, cell_blk h.1]; rfl
theorem InZ.frozen {w : World} {tb : Nat} {n : Int} : ∀ {z : Zip} {p : Nat}, InZ w tb n z p → w.frozen? (slotZ tb z) = false
  | [], _, h => by simp [slotZ, World.frozen?, show w.heap[tb]? = _ from h]
  | (a, b, true, o) :: z, _, h => by simp [slotZ, World.frozen?, h.1]
  | (a, b, false, o) :: z, _, h => by simp [slotZ, World.frozen?, h.1]
theorem slot_blk (tb : Nat) (z : Zip) : (slotZ tb z).block = tb ∨ (slotZ tb z).block ∈ zaddrs z := by
  match z with
  | [] => exact .inl rfl
  | (a, b, true, o) :: z => exact .inr (by simp [slotZ, zaddrs])
  | (a, b, false, o) :: z => exact .inr (by simp [slotZ, zaddrs])
/-- Another subtree hung there. -/
theorem InZ.set {w : World} {tb : Nat} {n : Int} {z : Zip} {p : Nat} (q : Nat) (h : InZ w tb n z p) (hn : (tb :: zaddrs z).Nodup) : InZ (w.setCell (slotZ tb z) (ptrA q)) tb n z q := by
  match z, h, hn with
  | [], h, _ => exact heap_setCell_self _ h
  | (a, b, true, o) :: z, h, hn =>
    simp only [zaddrs, List.nodup_cons, List.mem_cons, List.mem_append, not_or] at hn
    have ho : ∀ k, k ≠ a → (w.setCell ⟨a, 54, none⟩ (ptrA q)).heap[k]? = w.heap[k]? := fun k hk => heap_setCell_other _ hk
    refine ⟨heap_setCell_self _ h.1, h.2.1.keep fun x hx => ho x (fun e => hn.2.1.1 (e ▸ hx)), h.2.2.keep (ho tb hn.1.1) fun x hx => ho x (fun e => hn.2.1.2 (e ▸ hx))⟩
  | (a, b, false, o) :: z, h, hn =>
    simp only [zaddrs, List.nodup_cons, List.mem_cons, List.mem_append, not_or] at hn
    have ho : ∀ k, k ≠ a → (w.setCell ⟨a, 53, none⟩ (ptrA q)).heap[k]? = w.heap[k]? := fun k hk => heap_setCell_other _ hk
    refine ⟨heap_setCell_self _ h.1, h.2.1.keep fun x hx => ho x (fun e => hn.2.1.1 (e ▸ hx)), h.2.2.keep (ho tb hn.1.1) fun x hx => ho x (fun e => hn.2.1.2 (e ▸ hx))⟩
/-! ### What a place above says of a key -/
def Along (k : List UInt8) (z : Zip) : Prop := ∀ x ∈ z, x.2.2.1 = bitOf k x.2.1
theorem near_plug (k : List UInt8) : ∀ (z : Zip) (t : T), Along k z → T.near k (plug z t) = T.near k t
  | [], _, _ => rfl
  | (a, b, s, o) :: z, t, h => by
    have hs : s = bitOf k b := h (a, b, s, o) (by simp)
    have hz : Along k z := fun x hx => h x (by simp [hx])
    cases s with
    | true =>
      show T.near k (plug z (.fork a b o t)) = _
      rw [near_plug k z _ hz]
      show (if bitOf k b = true then T.near k t else T.near k o) = _
      rw [← hs]; rfl
    | false =>
      show T.near k (plug z (.fork a b t o)) = _
      rw [near_plug k z _ hz]
      show (if bitOf k b = true then T.near k o else T.near k t) = _
      rw [← hs]; rfl
theorem upd_plug (k : List UInt8) (v : Int) : ∀ (z : Zip) (t : T), Along k z → T.upd k v (plug z t) = plug z (T.upd k v t)
  | [], _, _ => rfl
  | (a, b, s, o) :: z, t, h => by
    have hs : s = bitOf k b := h (a, b, s, o) (by simp)
    have hz : Along k z := fun x hx => h x (by simp [hx])
    cases s with
    | true =>
      show T.upd k v (plug z (.fork a b o t)) = plug z (.fork a b o (T.upd k v t))
      rw [upd_plug k v z _ hz]
      show plug z (if bitOf k b = true then _ else _) = _
      rw [← hs]; rfl
    | false =>
      show T.upd k v (plug z (.fork a b t o)) = plug z (.fork a b (T.upd k v t) o)
      rw [upd_plug k v z _ hz]
      show plug z (if bitOf k b = true then _ else _) = _
      rw [← hs]; rfl
theorem ins_plug (la fa : Nat) (k : List UInt8) (v : Int) (d : Nat) : ∀ (z : Zip) (t : T), Along k z → (∀ x ∈ z, x.2.1 < d) → T.ins la fa k v d (plug z t) = plug z (T.ins la fa k v d t)
  | [], _, _, _ => rfl
  | (a, b, s, o) :: z, t, h, hd => by
    have hs : s = bitOf k b := h (a, b, s, o) (by simp)
    have hb : b < d := hd (a, b, s, o) (by simp)
    have hz : Along k z := fun x hx => h x (by simp [hx])
    have hdz : ∀ x ∈ z, x.2.1 < d := fun x hx => hd x (by simp [hx])
    cases s with
    | true =>
      show T.ins la fa k v d (plug z (.fork a b o t)) = plug z (.fork a b o (T.ins la fa k v d t))
      rw [ins_plug la fa k v d z _ hz hdz]
      show plug z (if b < d then _ else _) = _
      rw [if_pos hb, ← hs]; rfl
    | false =>
      show T.ins la fa k v d (plug z (.fork a b t o)) = plug z (.fork a b (T.ins la fa k v d t) o)
      rw [ins_plug la fa k v d z _ hz hdz]
      show plug z (if b < d then _ else _) = _
      rw [if_pos hb, ← hs]; rfl
theorem path_plug (k : List UInt8) : ∀ (z : Zip) (t : T), Along k z → T.path k (plug z t) = (z.map (·.2.1)).reverse ++ T.path k t
  | [], _, _ => rfl
  | (a, b, s, o) :: z, t, h => by
    have hs : s = bitOf k b := h (a, b, s, o) (by simp)
    have hz : Along k z := fun x hx => h x (by simp [hx])
    cases s with
    | true =>
      show T.path k (plug z (.fork a b o t)) = _
      rw [path_plug k z _ hz]
      show _ ++ (b :: (if bitOf k b = true then _ else _)) = _
      rw [← hs]; simp
    | false =>
      show T.path k (plug z (.fork a b t o)) = _
      rw [path_plug k z _ hz]
      show _ ++ (b :: (if bitOf k b = true then _ else _)) = _
      rw [← hs]; simp
theorem del_leafR {k : List UInt8} {a b a2 : Nat} {l : T} {x : List UInt8} {v : Int} (h : bitOf k b = true) : T.del k (.fork a b l (.leaf a2 x v)) = l := by (conv => lhs; rw [T.del.eq_def]); simp [h]
theorem del_leafL {k : List UInt8} {a b a2 : Nat} {r : T} {x : List UInt8} {v : Int} (h : bitOf k b = false) : T.del k (.fork a b (.leaf a2 x v) r) = r := by (conv => lhs; rw [T.del.eq_def]); simp [h]
theorem del_forkR {k : List UInt8} {a b a2 b2 : Nat} {l l2 r2 : T} (h : bitOf k b = true) : T.del k (.fork a b l (.fork a2 b2 l2 r2)) = .fork a b l (T.del k (.fork a2 b2 l2 r2)) := by (conv => lhs; rw [T.del.eq_def]); simp [h]
theorem del_forkL {k : List UInt8} {a b a2 b2 : Nat} {r l2 r2 : T} (h : bitOf k b = false) : T.del k (.fork a b (.fork a2 b2 l2 r2) r) = .fork a b (T.del k (.fork a2 b2 l2 r2)) r := by (conv => lhs; rw [T.del.eq_def]); simp [h]
/-- A leaf's fork gives way to the other side. -/
theorem del_plug (k : List UInt8) (z : Zip) (a b a2 : Nat) (s : Bool) (o : T) (x : List UInt8) (v : Int) (h : Along k ((a, b, s, o) :: z)) : T.del k (plug ((a, b, s, o) :: z) (.leaf a2 x v)) = plug z o := by
  have step : ∀ (z : Zip) (a b : Nat) (l r : T), Along k z → T.del k (plug z (.fork a b l r)) = plug z (T.del k (.fork a b l r)) := by
    intro z
    induction z with
    | nil => intro a b l r _; rfl
    | cons y z ih =>
      intro a b l r h
      obtain ⟨a3, b3, s, o⟩ := y
      have hs : s = bitOf k b3 := h (a3, b3, s, o) (by simp)
      have hz : Along k z := fun x hx => h x (by simp [hx])
      cases s with
      | true =>
        show T.del k (plug z (.fork a3 b3 o (.fork a b l r))) = plug z (.fork a3 b3 o (T.del k (.fork a b l r)))
        rw [ih _ _ _ _ hz, del_forkR hs.symm]
      | false =>
        show T.del k (plug z (.fork a3 b3 (.fork a b l r) o)) = plug z (.fork a3 b3 (T.del k (.fork a b l r)) o)
        rw [ih _ _ _ _ hz, del_forkL hs.symm]
  have hs : s = bitOf k b := h (a, b, s, o) (by simp)
  have hz : Along k z := fun x hx => h x (by simp [hx])
  cases s with
  | true =>
    show T.del k (plug z (.fork a b o (.leaf a2 x v))) = _
    rw [step z _ _ _ _ hz, del_leafR hs.symm]
  | false =>
    show T.del k (plug z (.fork a b (.leaf a2 x v) o)) = _
    rw [step z _ _ _ _ hz, del_leafL hs.symm]
/-! ### A tree behind its pointer -/
def addrsO : Option T → List Nat
  | none => []
  | some t => t.addrs
def InO (w : World) : Option T → Prop
  | none => True
  | some t => InT w t
def rootV : Option T → Value
  | none => .pointer none
  | some t => ptrA t.addr
structure TreeAt (w : World) (B tb : Nat) (o : Option T) : Prop where
  tree : w.heap[tb]? = some (.cells #[rootV o, .int .i64 ((allO o).length : Int)] TREE (0, 0))
  ins : InO w o
  nod : (tb :: addrsO o).Nodup
  wf : WFO o
  base : ∀ a ∈ tb :: addrsO o, B ≤ a
theorem TreeAt.lt {w : World} {B tb : Nat} {o : Option T} (h : TreeAt w B tb o) : ∀ a ∈ tb :: addrsO o, a < w.heap.size := fun a ha => by
  rcases List.mem_cons.1 ha with rfl | ha
  · exact lt_heap h.tree
  · cases o with
    | none => cases ha
    | some t => exact InT.lt (t := t) h.ins a ha
theorem TreeAt.keep {w w' : World} {B tb : Nat} {o : Option T} (h : TreeAt w B tb o) (he : ∀ a ∈ tb :: addrsO o, w'.heap[a]? = w.heap[a]?) : TreeAt w' B tb o where
  tree := (he tb (by simp)).trans h.tree
  ins := by
    cases o with
    | none => trivial
    | some t => exact InT.keep (t := t) h.ins fun a ha => he a (List.mem_cons_of_mem _ ha)
  nod := h.nod
  wf := h.wf
  base := h.base
theorem TreeAt.below {w w' : World} {B tb : Nat} {o : Option T} (h : TreeAt w B tb o) (hb : Below w.heap.size w w') : TreeAt w' B tb o := h.keep fun a ha => hb.block a (h.lt a ha)
/-- A tree whose count may be ahead. -/
structure TreeN (w : World) (B tb : Nat) (n : Int) (o : Option T) : Prop where
  tree : w.heap[tb]? = some (.cells #[rootV o, .int .i64 n] TREE (0, 0))
  ins : InO w o
  nod : (tb :: addrsO o).Nodup
  wf : WFO o
  base : ∀ a ∈ tb :: addrsO o, B ≤ a
theorem TreeAt.n {w : World} {B tb : Nat} {o : Option T} (h : TreeAt w B tb o) : TreeN w B tb ((allO o).length : Int) o := ⟨h.tree, h.ins, h.nod, h.wf, h.base⟩
theorem TreeN.lt {w : World} {B tb : Nat} {n : Int} {o : Option T} (h : TreeN w B tb n o) : ∀ a ∈ tb :: addrsO o, a < w.heap.size := fun a ha => by
  rcases List.mem_cons.1 ha with rfl | ha
  · exact lt_heap h.tree
  · cases o with
    | none => cases ha
    | some t => exact InT.lt (t := t) h.ins a ha
theorem TreeN.keep {w w' : World} {B tb : Nat} {n : Int} {o : Option T} (h : TreeN w B tb n o) (he : ∀ a ∈ tb :: addrsO o, w'.heap[a]? = w.heap[a]?) : TreeN w' B tb n o where
  tree := (he tb (by simp)).trans h.tree
  ins := by
    cases o with
    | none => trivial
    | some t => exact InT.keep (t := t) h.ins fun a ha => he a (List.mem_cons_of_mem _ ha)
  nod := h.nod
  wf := h.wf
  base := h.base
theorem TreeN.below {w w' : World} {B tb : Nat} {n : Int} {o : Option T} (h : TreeN w B tb n o) (hb : Below w.heap.size w w') : TreeN w' B tb n o := h.keep fun a ha => hb.block a (h.lt a ha)
/-- A tree's blocks are of two types. -/
theorem TreeAt.type {w : World} {B tb : Nat} {o : Option T} (h : TreeAt w B tb o) : ∀ a ∈ tb :: addrsO o, ∃ cs T', w.heap[a]? = some (.cells cs T' (0, 0)) ∧ (T' = NODE ∨ T' = TREE) := fun a ha => by
  rcases List.mem_cons.1 ha with rfl | ha
  · exact ⟨_, _, h.tree, .inr rfl⟩
  · cases o with
    | none => cases ha
    | some t =>
      have hi : InT w t := h.ins
      have : ∀ (t : T), InT w t → ∀ a ∈ t.addrs, ∃ cs, w.heap[a]? = some (.cells cs NODE (0, 0)) := by
        intro t
        induction t with
        | leaf a k v => intro h x hx; simp only [T.addrs, List.mem_singleton] at hx; subst hx; exact ⟨_, h⟩
        | fork a b l r ihl ihr =>
          intro h x hx
          simp only [T.addrs, List.mem_cons, List.mem_append] at hx
          rcases hx with rfl | hx | hx
          · exact ⟨_, h.1⟩
          · exact ihl h.2.1 x hx
          · exact ihr h.2.2 x hx
      obtain ⟨cs, hc⟩ := this t hi a ha
      exact ⟨cs, _, hc, .inl rfl⟩
end Go.Proofs.Ytagdedjclbmlkaa
