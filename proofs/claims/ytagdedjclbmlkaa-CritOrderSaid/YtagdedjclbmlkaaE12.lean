/- Two trees side by side; what puts and dels leave in them. -/
import Derived.Test.YtagdedjclbmlkaaEX
import Derived.Test.YtagdedjclbmlkaaE1
import Derived.Test.YtagdedjclbmlkaaE7
import Derived.Test.YtagdedjclbmlkaaE11
namespace Go.Proofs.Ytagdedjclbmlkaa
open Go.RowKit

/-- Two trees, apart. -/
structure Two (w0 W : World) (ta tb : Nat) (oa ob : Option T) (na nb : Nat) : Prop where
  a : TreeAt W w0.heap.size ta oa
  b : TreeAt W w0.heap.size tb ob
  dis : ∀ x ∈ ta :: addrsO oa, x ∉ tb :: addrsO ob
  la : (allO oa).length ≤ na
  lb : (allO ob).length ≤ nb
  bel : Below w0.heap.size w0 W
theorem Two.below {w0 W W' : World} {ta tb : Nat} {oa ob : Option T} {na nb : Nat} (h : Two w0 W ta tb oa ob na nb) (hb : Below W.heap.size W W') : Two w0 W' ta tb oa ob na nb :=
  ⟨h.a.below hb, h.b.below hb, h.dis, h.la, h.lb, h.bel.trans (hb.mono h.bel.size)⟩
theorem Two.swap {w0 W : World} {ta tb : Nat} {oa ob : Option T} {na nb : Nat} (h : Two w0 W ta tb oa ob na nb) : Two w0 W tb ta ob oa nb na :=
  ⟨h.b, h.a, fun x hx hx' => h.dis x hx' hx, h.lb, h.la, h.bel⟩
theorem TreeAt.apart {S : List Nat} {w w' : World} {B tb : Nat} {o : Option T} (h : TreeAt w B tb o) (ht : Turn S w w') (hd : ∀ x ∈ tb :: addrsO o, x ∉ S) : TreeAt w' B tb o := h.keep fun x hx => ht.block x (h.lt x hx) (hd x hx)
theorem Two.put {w0 W : World} {ta tb : Nat} {oa ob : Option T} {na nb : Nat} (k : List UInt8) (v : Int) (hk : k.length = 25) (h : Two w0 W ta tb oa ob na nb) (hn : na ≤ 1000000) :
    Calls Try.prog 13 #[ptrA ta, .agg (bC k), .int .i64 v] W fun e W' => (∃ r : Bool, e = .returned (.bool r)) ∧ ∃ oa', Two w0 W' ta tb oa' ob (na + 1) nb ∧ allO oa' = putL (allO oa) k v := by
  refine (put_anyS k v W w0.heap.size ta oa hk h.a h.bel.size (Nat.le_trans h.la hn)).mono ?_
  rintro e W' ⟨rfl, oa', h1, h2, h3, h4⟩
  refine ⟨⟨_, rfl⟩, oa', ⟨h1, h.b.apart h3 (fun x hx hx' => h.dis x hx' hx), ?_, ?_, h.lb, h.bel.trans (h3.below h.a.base h.bel.size)⟩, h2⟩
  · intro x hx hx'
    rcases List.mem_cons.1 hx with rfl | hx
    · exact h.dis x (by simp) hx'
    · rcases h4 x hx with h5 | h5
      · exact h.dis x (List.mem_cons_of_mem _ h5) hx'
      · exact absurd (h.b.lt x hx') (by omega)
  · have := putL_len (allO oa) k v
    have := h.la
    rw [h2]; omega
theorem Two.del {w0 W : World} {ta tb : Nat} {oa ob : Option T} {na nb : Nat} (y : K25) (h : Two w0 W ta tb oa ob na nb) (hn : na ≤ 1000000) :
    Calls Try.prog 11 #[ptrA ta, .slice (some ⟨W.heap.size, 0, none⟩) 1 1] (W.alloc (.cells (encK y).toArray 30)) fun e W' => (∃ g : Int, e = .returned (.int .i64 g)) ∧ ∃ oa', Two w0 W' ta tb oa' ob na nb ∧ allO oa' = delL (allO oa) y.k := by
  have hb := below_alloc1 W (.cells (encK y).toArray 30)
  have h' := h.below hb
  have hsl : SlAt keyE 25 (W.alloc (.cells (encK y).toArray 30)) (some ⟨W.heap.size, 0, none⟩) [y.k] := slat_key (slat1 (enc := encK) (k := 25) W y 30)
  refine (del_any _ 1 1 [y.k] _ w0.heap.size ta oa rfl (by omega) hsl (fun k hk => by simp at hk; rw [hk]; exact y.hk) (fun a e hm => ?_) h'.a h'.bel.size (Nat.le_trans h.la hn)).mono ?_
  · cases e
    exact absurd (h.a.lt _ hm) (Nat.lt_irrefl _)
  · rintro e W' ⟨gone, rfl, oa', hD⟩
    have e1 : allO oa' = delL (allO oa) y.k := by rw [hD.all, delAll, List.foldl_cons, List.foldl_nil]
    refine ⟨⟨_, rfl⟩, oa', ⟨hD.at_, h'.b.apart hD.turn (fun x hx hx' => h.dis x hx' hx), ?_, ?_, h.lb, h'.bel.trans (hD.turn.below h'.a.base h'.bel.size)⟩, e1⟩
    · intro x hx hx'
      rcases List.mem_cons.1 hx with rfl | hx
      · exact h.dis x (by simp) hx'
      · exact h.dis x (List.mem_cons_of_mem _ (hD.sub x hx)) hx'
    · have := delL_le (allO oa) y.k
      have := h.la
      rw [e1]; omega
/-! ### Plain -/
abbrev LE := List (List UInt8 × Int)
theorem inv1_next {l : LE} (hs : Sorted l) {ks : List (List UInt8)} {v : Int} (h : ∀ x, x ∈ l ↔ x.1 ∈ ks ∧ x.2 = v) (k : List UInt8) : ∀ x, x ∈ putL l k v ↔ x.1 ∈ ks ++ [k] ∧ x.2 = v := by
  intro x
  rw [put_mem hs, h x, List.mem_append, List.mem_singleton]
  constructor
  · rintro (rfl | ⟨⟨h1, h2⟩, _⟩)
    · exact ⟨.inr rfl, rfl⟩
    · exact ⟨.inl h1, h2⟩
  · rintro ⟨h1, h2⟩
    by_cases e : x.1 = k
    · left; rw [← e, ← h2]
    · right; exact ⟨⟨h1.resolve_right e, h2⟩, e⟩
/-- Behind puts of ms with 1, some keys put with 0. -/
def Mid (l : LE) (ms ks : List (List UInt8)) : Prop := ∀ x, x ∈ l ↔ (x.1 ∈ ks ∧ x.2 = 0) ∨ (x.1 ∈ ms ∧ x.1 ∉ ks ∧ x.2 = 1)
theorem mid_start {l : LE} {ms : List (List UInt8)} (h : ∀ x, x ∈ l ↔ x.1 ∈ ms ∧ x.2 = 1) : Mid l ms [] := fun x => by rw [h x]; simp
theorem mid_next {l : LE} (hs : Sorted l) {ms ks : List (List UInt8)} (h : Mid l ms ks) (k : List UInt8) : Mid (putL l k 0) ms (ks ++ [k]) := by
  intro x
  rw [put_mem hs, h x, List.mem_append, List.mem_singleton]
  constructor
  · rintro (rfl | ⟨⟨h1, h2⟩ | ⟨h1, h2, h3⟩, h4⟩)
    · exact .inl ⟨.inr rfl, rfl⟩
    · exact .inl ⟨.inl h1, h2⟩
    · exact .inr ⟨h1, fun h => h.elim h2 h4, h3⟩
  · rintro (⟨h1, h2⟩ | ⟨h1, h2, h3⟩)
    · by_cases e : x.1 = k
      · left; rw [← e, ← h2]
      · right; exact ⟨.inl ⟨h1.resolve_right e, h2⟩, e⟩
    · right; exact ⟨.inr ⟨h1, fun h => h2 (.inl h), h3⟩, fun h => h2 (.inr h)⟩
theorem mid_same {l : LE} {ms ks ks' : List (List UInt8)} (h : Mid l ms ks) (e : ∀ x, x ∈ ks ↔ x ∈ ks') : Mid l ms ks' := fun x => by rw [h x, e x.1]
/-- Some of ms are gone. -/
def Late (l : LE) (ms gone ks : List (List UInt8)) : Prop := ∀ x, x ∈ l ↔ (x.1 ∈ ks ∧ x.2 = 0) ∨ (x.1 ∈ ms ∧ x.1 ∉ ks ∧ x.1 ∉ gone ∧ x.2 = 1)
theorem late_start {l : LE} {ms ks : List (List UInt8)} (h : Mid l ms ks) : Late l ms [] ks := fun x => by rw [h x]; simp
theorem late_skip {l : LE} {ms gone ks : List (List UInt8)} (h : Late l ms gone ks) (k : List UInt8) (hk : k ∈ ks) : Late l ms (gone ++ [k]) ks := by
  intro x
  rw [h x, List.mem_append, List.mem_singleton]
  constructor
  · rintro (h1 | ⟨h1, h2, h3, h4⟩)
    · exact .inl h1
    · exact .inr ⟨h1, h2, fun h => h.elim h3 (fun e => h2 (e ▸ hk)), h4⟩
  · rintro (h1 | ⟨h1, h2, h3, h4⟩)
    · exact .inl h1
    · exact .inr ⟨h1, h2, fun h => h3 (.inl h), h4⟩
theorem late_del {l : LE} (hs : Sorted l) {ms gone ks : List (List UInt8)} (h : Late l ms gone ks) (k : List UInt8) (hk : k ∉ ks) : Late (delL l k) ms (gone ++ [k]) ks := by
  intro x
  rw [del_mem hs, h x, List.mem_append, List.mem_singleton]
  constructor
  · rintro ⟨h1 | ⟨h1, h2, h3, h4⟩, h5⟩
    · exact .inl h1
    · exact .inr ⟨h1, h2, fun h => h.elim h3 h5, h4⟩
  · rintro (h1 | ⟨h1, h2, h3, h4⟩)
    · exact ⟨.inl h1, fun e => hk (e ▸ h1.1)⟩
    · exact ⟨.inr ⟨h1, h2, fun h => h3 (.inl h), h4⟩, fun h => h3 (.inr h)⟩
theorem late_end {l : LE} {ms ks : List (List UInt8)} (h : Late l ms ms ks) : ∀ x, x ∈ l ↔ x.1 ∈ ks ∧ x.2 = 0 := by
  intro x
  rw [h x]
  constructor
  · rintro (h1 | ⟨h1, _, h3, _⟩)
    · exact h1
    · exact absurd h1 h3
  · exact .inl
/-- The keys in another turn. -/
def rotK (ks : List K25) (r i : Nat) : List (List UInt8) := (List.range i).map fun j => ((ks[(j + r) % ks.length]?).map (·.k)).getD []
theorem rot_next (ks : List K25) (r i : Nat) (h : (i + r) % ks.length < ks.length) : rotK ks r (i + 1) = rotK ks r i ++ [ks[(i + r) % ks.length].k] := by
  unfold rotK
  rw [List.range_succ, List.map_append, List.map_singleton, List.getElem?_eq_getElem h]
  rfl
theorem rot_all (ks : List K25) (r : Nat) (x : List UInt8) : x ∈ rotK ks r ks.length ↔ x ∈ ks.map (·.k) := by
  unfold rotK
  rw [List.mem_map, List.mem_map]
  constructor
  · rintro ⟨j, hj, rfl⟩
    rw [List.mem_range] at hj
    have h : (j + r) % ks.length < ks.length := Nat.mod_lt _ (by omega)
    rw [List.getElem?_eq_getElem h]
    exact ⟨_, List.getElem_mem h, rfl⟩
  · rintro ⟨y, hy, rfl⟩
    obtain ⟨i, hi, rfl⟩ := List.getElem_of_mem hy
    have hn : 0 < ks.length := by omega
    refine ⟨(i + (ks.length - r % ks.length)) % ks.length, List.mem_range.2 (Nat.mod_lt _ hn), ?_⟩
    have hr := Nat.mod_lt r hn
    have e : ((i + (ks.length - r % ks.length)) % ks.length + r) % ks.length = i := by
      rw [Nat.mod_add_mod]
      have h1 := Nat.div_add_mod r ks.length
      have h2 : i + (ks.length - r % ks.length) + r = i + ks.length * (r / ks.length + 1) := by
        rw [Nat.mul_add, Nat.mul_one]; omega
      rw [h2, Nat.add_mul_mod_self_left, Nat.mod_eq_of_lt hi]
    rw [e, List.getElem?_eq_getElem hi]
    rfl
theorem same_ext {l m : LE} (hl : Sorted l) (hm : Sorted m) {ks : List (List UInt8)} (h1 : ∀ x, x ∈ l ↔ x.1 ∈ ks ∧ x.2 = 0) (h2 : ∀ x, x ∈ m ↔ x.1 ∈ ks ∧ x.2 = 0) : l = m := sorted_ext hl hm fun x => by rw [h1 x, h2 x]
theorem take_snoc {α : Type} (l : List α) (f : α → List UInt8) {i : Nat} (h : i < l.length) : (l.take (i + 1)).map f = (l.take i).map f ++ [f l[i]] := by
  rw [List.take_succ_eq_append_getElem h, List.map_append]; rfl
theorem hasZ (x : List UInt8) : hasP z25 0 x = true := by
  unfold hasP depOk cutK cutN
  simp
theorem sorted_at {l : LE} (h : Sorted l) {i : Nat} (hi : i + 1 < l.length) : ltK (l[i]'(by omega)).1 l[i + 1].1 = true := List.pairwise_iff_getElem.1 h i (i + 1) (by omega) hi (by omega)
/-! ### Operations -/
theorem exec_lenK {o : Oper} {a : Act} {w : World} (t : Tmp) (ho : o.op = .call { callee := .builtin .len, args := #[.tmp t], argTypes := #[64] }) (q : Option Addr) (n c : Nat) (hx : a.tmps.getD t undef = .slice q n c) : (execOp a.eval o).run Try.prog w = .ok (.value (.int .i64 (n : Int))) w := by
  have hx' : a.tmps[t]?.getD undef = .slice q n c := by simpa using hx
  unfold execOp
  simp only [ho]
  simp [go_sem, resolve, invoke, Act.eval, hx']
theorem exec_min30 {o : Oper} {a : Act} {w : World} (t : Tmp) (ho : o.op = .call { callee := .builtin .min, args := #[.tmp t, .const (.int .i64 30)], argTypes := #[3, 3] }) (n m : Int) (hm : min n 30 = m) (hx : a.tmps.getD t undef = .int .i64 n) : (execOp a.eval o).run Try.prog w = .ok (.value (.int .i64 m)) w := by
  subst hm
  have hx' : a.tmps[t]?.getD undef = .int .i64 n := by simpa using hx
  unfold execOp
  simp only [ho]
  simp [go_sem, resolve, invoke, Act.eval, hx']
theorem exec_convIU {o : Oper} {a : Act} {w : World} (x : Operand) (ho : o.op = .convert 3 73 x) (z : Int) (n : Nat) (hz : z % 18446744073709551616 = (n : Int)) (hx : a.eval x = .int .i64 z) : (execOp a.eval o).run Try.prog w = .ok (.value (.int .u64 (n : Int))) w := by
  unfold execOp
  simp only [ho, hx]
  simp [go_sem]
  simp [IntKind.wrap, IntKind.bits, IntKind.signed]
  exact hz
theorem exec_remU {o : Oper} {a : Act} {w : World} (x y : Operand) (ho : o.op = .binOp .rem 73 x y 73) (m n : Nat) (hn : 0 < n) (hn2 : n ≤ 1000000) (hx : a.eval x = .int .u64 (m : Int)) (hy : a.eval y = .int .u64 (n : Int)) : (execOp a.eval o).run Try.prog w = .ok (.value (.int .u64 ((m % n : Nat) : Int))) w := by
  unfold execOp
  simp only [ho, hx, hy]
  have h0 : n ≠ 0 := by omega
  have h1 : (m : Int).tmod (n : Int) = ((m % n : Nat) : Int) := by rw [Int.tmod_eq_emod_of_nonneg (by omega)]; simp
  have h2 : m % n < n := Nat.mod_lt _ hn
  simp [go_sem, h0, h1]
theorem exec_convUI {o : Oper} {a : Act} {w : World} (x : Operand) (ho : o.op = .convert 73 3 x) (n : Nat) (hn : n ≤ 1000000) (hx : a.eval x = .int .u64 (n : Int)) : (execOp a.eval o).run Try.prog w = .ok (.value (.int .i64 (n : Int))) w := by
  unfold execOp
  simp only [ho, hx]
  simp [go_sem]
  rw [IntKind.wrap_i64]; omega
theorem exec_remI {o : Oper} {a : Act} {w : World} (x y : Operand) (ho : o.op = .binOp .rem 3 x y 3) (m n : Nat) (hn : 0 < n) (hn2 : n ≤ 1000000) (hx : a.eval x = .int .i64 (m : Int)) (hy : a.eval y = .int .i64 (n : Int)) : (execOp a.eval o).run Try.prog w = .ok (.value (.int .i64 ((m % n : Nat) : Int))) w := by
  unfold execOp
  simp only [ho, hx, hy]
  have h0 : n ≠ 0 := by omega
  have h1 : (m : Int).tmod (n : Int) = ((m % n : Nat) : Int) := by rw [Int.tmod_eq_emod_of_nonneg (by omega)]; simp
  have h2 : m % n < n := Nat.mod_lt _ hn
  simp [go_sem, h0, h1]
theorem exec_subI {o : Oper} {a : Act} {w : World} (x : Operand) (ho : o.op = .binOp .sub 3 x (.const (.int .i64 1)) 3) (n : Nat) (hn : n ≤ 1000000) (hx : a.eval x = .int .i64 ((n + 1 : Nat) : Int)) : (execOp a.eval o).run Try.prog w = .ok (.value (.int .i64 (n : Int))) w := by
  have hy : a.eval (.const (.int .i64 1)) = .int .i64 1 := rfl
  unfold execOp
  simp only [ho, hx, hy]
  simp [go_sem]
  rw [IntKind.wrap_i64]; omega
end Go.Proofs.Ytagdedjclbmlkaa
