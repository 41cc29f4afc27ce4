/- Words that the call itself gathers; a map's iterator. -/
import Derived.Test.YtmdhlpnieimdaaaW2
import Derived.Maps.RangeRun
import Derived.Laws.AppendOwn
import Derived.Deep.MidRow
namespace Go.Proofs.Ytmdhlpnieimdaaa
open Go.RowKit

def uC (l : List Nat) : List Value := l.map fun x : Nat => Value.int .u64 x
/-- A slice of words that the call itself made (nil too). -/
def OwnU (w : World) (base : Nat) (v : Value) (ns : List Nat) : Prop := w.ownsRow base 23 1 v ns.length (uC ns)
theorem OwnU.nil (w : World) (base : Nat) : OwnU w base (.slice none 0 0) [] := ⟨by simp [uC], .inl ⟨rfl, rfl⟩⟩
theorem OwnU.block {w w' : World} {base : Nat} {v : Value} {ns : List Nat} (h : OwnU w base v ns) (he : ∀ g, v.ownBlock = some g → w'.heap[g]? = w.heap[g]?) : OwnU w' base v ns := by
  obtain ⟨h1, h2 | ⟨g, cap, cur, hv, hg, hh, r⟩⟩ := h
  · exact ⟨h1, .inl h2⟩
  · exact ⟨h1, .inr ⟨g, cap, cur, hv, hg, (he g (by rw [hv]; rfl)).trans hh, r⟩⟩
theorem OwnU.lt {w : World} {base : Nat} {v : Value} {ns : List Nat} (h : OwnU w base v ns) (g : Nat) (hg : v.ownBlock = some g) : base ≤ g ∧ g < w.heap.size := by
  obtain ⟨h1, h2 | ⟨g', cap, cur, hv, hg', hh, r⟩⟩ := h
  · rw [h2.1] at hg; cases hg
  · rw [hv] at hg
    obtain rfl : g' = g := by simpa [Value.ownBlock] using hg
    exact ⟨hg', lt_heap hh⟩
theorem OwnU.below {w w' : World} {base : Nat} {v : Value} {ns : List Nat} (h : OwnU w base v ns) (hb : Below w.heap.size w w') : OwnU w' base v ns :=
  h.block fun g hg => hb.block g (h.lt g hg).2
theorem info23U : (Try.prog.info? 23).map (fun i => (i.zero, i.size, i.bytes)) = some (some (.int .u64 0), 1, 8) := by kernel_rfl
theorem wl_appU {ops : Array Oper} {rest : List Oper} {o : Oper} {a : Act} {w : World} {Q : Exit → Act → World → Prop}
    (hgd : o.guard = none) (s x : Operand) (ho : o.op = .call { callee := .builtin .append, args := #[s, x], argTypes := #[52, 52] })
    (base : Nat) (v : Value) (ns : List Nat) (hs : a.eval s = v) (hown : OwnU w base v ns) (b c y : Nat) (hx : a.eval x = .slice (some ⟨b, 0, none⟩) 1 c)
    (hg : w.heap[b]? = some (.cells #[.int .u64 y] 23)) (hlen : ns.length ≤ 1000000000) (hbase : base ≤ w.heap.size)
    (h : ∀ v' w', OwnU w' base v' (ns ++ [y]) → w.grownBy w' v.ownBlock → wpList Try.prog ops Q rest (a.put o.dst v') w') : wpList Try.prog ops Q (o :: rest) a w := by
  obtain ⟨i, hi, hz, hsz, hby⟩ := info_parts info23U
  refine wpList_append_own w hgd s x 52 ho base 23 i (.int .u64 0) 1 8 Try.underlying52 hi hz hsz hby rfl (by omega) v ns.length (uC ns) hs hown ⟨b, 0, none⟩ 1 c [.int .u64 y] hx rfl ?_ ?_ ?_ ?_ hbase ?_
  · intro j u hu
    rw [Addr.add_mid, Nat.zero_add, cell_of_tab hg]
    simpa using hu
  · intro u hu
    simp only [List.mem_cons, List.not_mem_nil, or_false] at hu
    subst hu; rfl
  · unfold maxLen; omega
  · omega
  · intro v' w' h1 h2 _
    refine h v' w' ?_ h2
    have e : uC (ns ++ [y]) = uC ns ++ [.int .u64 y] := by simp [uC]
    unfold OwnU
    rw [e, List.length_append]
    exact h1
theorem OwnU.two {w : World} {base : Nat} {v : Value} {x y : Nat} (h : OwnU w base v [x, y]) : ∃ g cap, v = .slice (some ⟨g, 0, none⟩) 2 cap ∧ base ≤ g ∧ Two w g x y := by
  obtain ⟨h1, h2 | ⟨g, cap, cur, hv, hg, hh, hc, hm, hs, ht⟩⟩ := h
  · cases h2.2
  · have h0 : cur[0]? = some (.int .u64 x) := by
      have := congrArg (fun l : List Value => l[0]?) ht
      simpa [uC] using this
    have h1 : cur[1]? = some (.int .u64 y) := by
      have := congrArg (fun l : List Value => l[1]?) ht
      simpa [uC] using this
    exact ⟨g, cap, hv, hg, ⟨by rw [cell_of_tab hh]; exact h0, by rw [cell_of_tab hh]; exact h1, fun i => by simp [World.frozen?, hh]⟩⟩

/-- The iterator in block q over the map in block r: what has come out is js, what is left is rest. -/
def IterAt (w : World) (q r : Nat) (l : List EntN) (c : Nat) (js rest : List EntN) : Prop :=
  ∃ (seen : Array Nat) (c0 : Nat), w.heap[q]? = some (.mapIter (some r) c seen c0) ∧ c ≤ c0 ∧ seen.toList = js.map EntN.b ∧ l.Perm (js ++ rest)
theorem left_of (l : List EntN) (js rest : List EntN) (seen : Array Nat) (hs : seen.toList = js.map EntN.b) (hp : l.Perm (js ++ rest)) (hn : (l.map EntN.b).Nodup) (e : MapEntry) :
    e ∈ (leftOf (l.map EntN.e).toArray seen).toList ↔ ∃ x ∈ rest, e = x.e := by
  have hn' : ((js ++ rest).map EntN.b).Nodup := (hp.map EntN.b).nodup_iff.1 hn
  have hsc : ∀ n, seen.contains n = true ↔ n ∈ js.map EntN.b := fun n => by
    rw [← hs, Array.contains_iff_mem]; simp
  simp only [leftOf, Array.toList_filter, List.mem_filter, List.mem_map, Bool.not_eq_true', List.toList_toArray]
  constructor
  · rintro ⟨⟨x, hx, rfl⟩, h2⟩
    rcases List.mem_append.1 (hp.mem_iff.1 hx) with h | h
    · have : seen.contains x.b = true := (hsc _).2 (List.mem_map.2 ⟨x, h, rfl⟩)
      rw [show (EntN.e x).born = x.b from rfl, this] at h2; cases h2
    · exact ⟨x, h, rfl⟩
  · rintro ⟨x, hx, rfl⟩
    refine ⟨⟨x, hp.mem_iff.2 (List.mem_append.2 (.inr hx)), rfl⟩, ?_⟩
    cases h : seen.contains (EntN.e x).born
    · rfl
    · have h1 := (hsc x.b).1 h
      rw [List.map_append] at hn'
      have := (List.nodup_append.1 hn').2.2 x.b h1 x.b (List.mem_map.2 ⟨x, hx, rfl⟩)
      exact absurd rfl this
/-- A step of the iterator. -/
theorem iter_step {w : World} {q r : Nat} {l : List EntN} {c : Nat} {js rest : List EntN} (h : IterAt w q r l c js rest) (hm : w.heap[r]? = some (mObjN l c)) (hb : ∀ e ∈ l, e.b < c) (hn : (l.map EntN.b).Nodup) (hqr : q ≠ r) (ty : TypeId) :
    (rest = [] ∧ (Instr.next (.pointer (some ⟨q, 0, none⟩)) false ty).run Try.prog w = .ok (.tuple #[.bool false]) w) ∨
    ∃ (x : EntN) (rest' : List EntN) (w1 : World), x ∈ l ∧ rest.length = rest'.length + 1 ∧ (Instr.next (.pointer (some ⟨q, 0, none⟩)) false ty).run Try.prog w = .ok (.tuple #[.bool true, .int .u64 x.k, .int .i64 x.n]) w1 ∧
      (Instr.entry (.pointer (some ⟨q, 0, none⟩))).run Try.prog w1 = .ok (.tuple #[.int .u64 x.k, .int .i64 x.n]) w1 ∧ IterAt w1 q r l c (js ++ [x]) rest' ∧ (∀ k, k ≠ q → w1.heap[k]? = w.heap[k]?) ∧ w1.heap.size = w.heap.size ∧ w1.os = w.os ∧ w1.tape = w.tape ∧ w1.output = w.output := by
  obtain ⟨seen, c0, h1, h2, h3, h4⟩ := h
  have hold : ∀ x ∈ (l.map EntN.e).toArray.toList, x.born < c := fun x hx => by
    simp only [List.toList_toArray, List.mem_map] at hx
    obtain ⟨e, he, rfl⟩ := hx
    exact hb e he
  have hL := left_of l js rest seen h3 h4 hn
  by_cases hr : rest = []
  · left
    refine ⟨hr, ?_⟩
    rcases run_next_at (P := Try.prog) w ty q r c c0 seen (l.map EntN.e).toArray c h1 hm hold h2 with ⟨_, h⟩ | ⟨e, he, _⟩
    · exact h
    · obtain ⟨x, hx, _⟩ := (hL e).1 he
      rw [hr] at hx; simp at hx
  · right
    rcases run_next_at (P := Try.prog) w ty q r c c0 seen (l.map EntN.e).toArray c h1 hm hold h2 with ⟨h0, _⟩ | ⟨e, he, w1, hw1, hrun⟩
    · obtain ⟨x, hx⟩ := List.exists_mem_of_ne_nil rest hr
      have := (hL x.e).2 ⟨x, hx, rfl⟩
      rw [Array.eq_empty_of_size_eq_zero h0] at this
      simp at this
    · obtain ⟨x, hx, rfl⟩ := (hL e).1 he
      have hxl : x ∈ l := h4.mem_iff.2 (List.mem_append.2 (.inr hx))
      obtain ⟨a, b, rfl⟩ := List.append_of_mem hx
      have hw1h : w1.heap = w.heap ∧ w1.os = w.os ∧ w1.tape = w.tape ∧ w1.output = w.output := by rcases hw1 with rfl | rfl <;> exact ⟨rfl, rfl, rfl, rfl⟩
      obtain ⟨e1, e2, e3, e4⟩ := hw1h
      have h1' : w1.heap[q]? = some (.mapIter (some r) c seen c0) := by rw [e1]; exact h1
      have hm' : (putB w1 q (.mapIter (some r) c (seen.push x.b) c)).heap[r]? = some (mObjN l c) := by rw [putB_other _ _ _ _ (Ne.symm hqr), e1]; exact hm
      have hq' : (putB w1 q (.mapIter (some r) c (seen.push x.b) c)).heap[q]? = some (.mapIter (some r) c (seen.push x.b) c) := putB_same _ _ _ _ h1'
      refine ⟨x, a ++ b, putB w1 q (.mapIter (some r) c (seen.push x.b) c), hxl, by simp; omega, hrun, ?_, ?_, fun k hk => by rw [putB_other _ _ _ _ hk, e1], by rw [putB_size, e1], e2, e3, e4⟩
      · have := run_entry_at (P := Try.prog) (putB w1 q (.mapIter (some r) c (seen.push x.b) c)) q r c seen (l.map EntN.e).toArray c x.e hq' hm' (by simp only [List.toList_toArray]; exact List.mem_map.2 ⟨x, hxl, rfl⟩) (by rw [List.toList_toArray, List.map_map]; exact hn)
        exact this
      · refine ⟨seen.push x.b, c, hq', Nat.le_refl _, by simp [h3], h4.trans ?_⟩
        have : (js ++ (a ++ x :: b)).Perm (js ++ (x :: (a ++ b))) := List.perm_middle.append_left js
        rw [List.append_assoc]
        exact this
theorem nodup_of_lt : ∀ (l : List Nat), l.Pairwise (· < ·) → l.Nodup := fun l h => h.imp fun h => Nat.ne_of_lt h
theorem OwnU.slen {w : World} {base : Nat} {v : Value} {ns : List Nat} (h : OwnU w base v ns) : slen v = ns.length := by
  obtain ⟨_, ⟨rfl, h2⟩ | ⟨g, cap, cur, rfl, _⟩⟩ := h
  · exact h2.symm
  · rfl
theorem IterAt.block {w w' : World} {q r : Nat} {l : List EntN} {c : Nat} {js rest : List EntN} (h : IterAt w q r l c js rest) (he : w'.heap[q]? = w.heap[q]?) : IterAt w' q r l c js rest := by
  obtain ⟨s, c0, h1, h2⟩ := h; exact ⟨s, c0, he.trans h1, h2⟩
theorem IterAt.lt {w : World} {q r : Nat} {l : List EntN} {c : Nat} {js rest : List EntN} (h : IterAt w q r l c js rest) : q < w.heap.size := by
  obtain ⟨s, c0, h1, h2⟩ := h; exact lt_heap h1
end Go.Proofs.Ytmdhlpnieimdaaa
