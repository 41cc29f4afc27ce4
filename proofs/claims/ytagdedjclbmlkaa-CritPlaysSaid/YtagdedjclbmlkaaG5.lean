/- Parts of slices; appending a part of a slice; laws for the steps of a region that draws. -/
import Derived.Test.YtagdedjclbmlkaaG1
import Derived.Maps.AppendAt
import Derived.Laws.AppendOwnNone
import Derived.Laws.Slices
namespace Go.Proofs.Ytagdedjclbmlkaa
open Go.RowKit

section
variable {α : Type} {enc : α → List Value} {k : Nat}
/-- Where s[j:] lies. -/
def cutQ (k : Nat) (q : Option Addr) (j co : Nat) : Option Addr := if co = j then q else q.map (·.add (j * k))
theorem cutQ_none (k j co : Nat) : cutQ k none j co = none := by unfold cutQ; split <;> rfl
theorem cutQ_isNone {k : Nat} {q : Option Addr} {j co : Nat} (h : cutQ k q j co = none) : q = none := by
  cases q with
  | none => rfl
  | some a => unfold cutQ at h; split at h <;> simp at h
theorem run_sl_lo {P : Program} {T E : TypeId} (hT : P.underlying T = some (.slice E)) (hk : (P.info? E).map (·.size) = some k) (q : Option Addr) (n co j : Nat) (hj : j ≤ n) (w : World) :
    (Instr.sliceAt T (.slice q n co) (some (.int .i64 (j : Nat))) none none).run P w = .ok (.slice (cutQ k q j co) (n - j) (co - j)) w := by
  obtain ⟨ie, hie, hs⟩ := Option.map_eq_some_iff.1 hk
  have hjn : (j : Int) ≤ n := by omega
  have hs' : (sizeOf E).run P w = .ok k w := by simp [sizeOf, typeInfo, hie, hs]
  simp [Instr.sliceAt, Instr.slice, run_underlying hT, Instr.sliceBounds, run_sliceBound, hs', cutQ, hjn, (by omega : (0 : Int) ≤ (j : Int))]
theorem run_sl_hi {P : Program} {T E : TypeId} (hT : P.underlying T = some (.slice E)) (hk : (P.info? E).map (·.size) = some k) (q : Option Addr) (n co j : Nat) (hc : j ≤ co) (w : World) :
    (Instr.sliceAt T (.slice q n co) none (some (.int .i64 (j : Nat))) none).run P w = .ok (.slice q j co) w := by
  obtain ⟨ie, hie, hs⟩ := Option.map_eq_some_iff.1 hk
  have hjn : (j : Int) ≤ co := by omega
  have hs' : (sizeOf E).run P w = .ok k w := by simp [sizeOf, typeInfo, hie, hs]
  simp [Instr.sliceAt, Instr.slice, run_underlying hT, Instr.sliceBounds, run_sliceBound, hs', hjn, (by omega : (0 : Int) ≤ (j : Int))]
  cases q <;> simp [Addr.add]
theorem SlAt.cut {w : World} {q : Option Addr} {ys : List α} (h : SlAt enc k w q ys) (j co : Nat) (hc : ys.length ≤ co) : SlAt enc k w (cutQ k q j co) (ys.drop j) := by
  unfold cutQ
  split
  · rename_i e
    rw [List.drop_eq_nil_of_le (by omega)]
    exact SlAt.nil _ _
  · intro i hi
    rw [List.length_drop] at hi
    obtain ⟨b, o, rfl, _⟩ := h 0 (by omega)
    obtain ⟨b', o', h1, h2, h3⟩ := h.drop j i (by rw [List.length_drop]; exact hi)
    refine ⟨b', o', ?_, h2, h3⟩
    rw [← h1]
    show some (Addr.add _ _) = some _
    rw [Addr.add_mid]
theorem slat_range (hk : ∀ x, (enc x).length = k) {w : World} {b : Nat} : ∀ (ys : List α) (o : Nat), SlAt enc k w (some ⟨b, o, none⟩) ys → w.rangeAt b o (ys.flatMap enc)
  | [], _, _ => fun j v hv => by simp at hv
  | y :: ys, o, h => by
    obtain ⟨b', o', h1, _, h3⟩ := h 0 (by simp)
    simp only [Option.some.injEq, Addr.mk.injEq] at h1
    obtain ⟨rfl, rfl, _⟩ := h1
    have ht := slat_range hk ys (o + k) (by have := h.drop 1; simpa using this)
    intro j v hv
    rw [List.flatMap_cons] at hv
    rcases Nat.lt_or_ge j k with hj | hj
    · rw [List.getElem?_append_left (by rw [hk]; exact hj)] at hv
      have := h3 j v hv
      simpa using this
    · rw [List.getElem?_append_right (by rw [hk]; exact hj), hk] at hv
      have := ht (j - k) v hv
      rwa [show o + k + (j - k) = o + j by omega] at this
theorem OwnE.none_cap {E : TypeId} {w : World} {base n co : Nat} {q : Option Addr} {xs : List α} (h : OwnE enc E k w base (.slice q n co) xs) (hq : q = none) : co = 0 := by
  obtain ⟨_, ⟨h2, _⟩ | ⟨g, cap, cur, h2, _⟩⟩ := h
  · simp only [Value.slice.injEq] at h2; exact h2.2.2
  · simp only [Value.slice.injEq] at h2; rw [hq] at h2; cases h2.1
theorem OwnE.cap_le {E : TypeId} {w : World} {base n co : Nat} {q : Option Addr} {xs : List α} (h : OwnE enc E k w base (.slice q n co) xs) : n = xs.length ∧ n ≤ co := by
  obtain ⟨p, cap', hv⟩ := h.slice
  have hn : n = xs.length := by simp only [Value.slice.injEq] at hv; exact hv.2.1
  refine ⟨hn, ?_⟩
  obtain ⟨_, ⟨h2, h3⟩ | ⟨g, cap, cur, h2, _, _, hc, _⟩⟩ := h
  · simp only [Value.slice.injEq] at h2; omega
  · simp only [Value.slice.injEq] at h2; omega
/-- append(s, part...), at its operation. -/
theorem op_app {P : Program} {o : Oper} {a : Act} {w : World} {K : Act → World → Prop} {Q : Exit → Act → World → Prop} (T E : TypeId) (bytes : Nat) (z : Value) (hT : P.underlying T = some (.slice E)) (hinf : (P.info? E).map (fun i => (i.zero, i.size, i.bytes)) = some (some z, k, bytes)) (hzk : z.cells.size = k) (hk0 : 0 < k) (hk : ∀ x, (enc x).length = k) (h1 : ∀ x, ∀ u ∈ enc x, u.oneCell' = true)
    (s x : Operand) (ho : o.op = .call { callee := .builtin .append, args := #[s, x], argTypes := #[T, T] })
    (base : Nat) (v : Value) (xs : List α) (hs : a.eval s = v) (hown : OwnE enc E k w base v xs) (q : Option Addr) (m c : Nat) (ys : List α) (hx : a.eval x = .slice q m c) (hm : ys.length = m) (hq : SlAt enc k w q ys) (hq0 : q = none → c = 0)
    (hlen : (xs.length + m) * bytes ≤ 140737488355328) (hml : xs.length + m ≤ maxLen) (hbase : base ≤ w.heap.size)
    (h : ∀ v' w', OwnE enc E k w' base v' (xs ++ ys) → w.grownBy w' v.ownBlock → (v'.ownBlock = v.ownBlock ∨ v'.ownBlock = some w.heap.size) → K (a.put o.dst v') w') : o.wp P a w K Q := by
  obtain ⟨i, hi, hz, hsz, hby⟩ := info_parts hinf
  cases q with
  | none =>
    have hy : ys = [] := by
      cases ys with
      | nil => rfl
      | cons y ys =>
        obtain ⟨b, o, h1, _⟩ := hq 0 (by simp)
        cases h1
    subst hy
    have hm0 : m = 0 := by simpa using hm.symm
    subst hm0
    have hc := hq0 rfl
    subst hc
    have hrun := run_append_owned_none (P := P) (w := w) base T o.type E i k hT hi v xs.length (xs.flatMap enc) hown
    unfold Oper.wp
    simp [execOp, ho, resolve, invoke, builtin, hs, hx, hrun, Result.andThen]
    exact h v w (by rw [List.append_nil]; exact hown) ⟨rfl, rfl, rfl, Nat.le_refl _, fun _ _ _ => rfl⟩ (Or.inl rfl)
  | some ad =>
    have hnews : ∀ j u, (ys.flatMap enc)[j]? = some u → w.cell? (ad.add j) = some u := by
      cases ys with
      | nil => intro j u hu; simp at hu
      | cons y ys =>
        obtain ⟨b, o, h1, _⟩ := hq 0 (by simp)
        cases h1
        intro j u hu
        rw [Addr.add_mid]
        exact slat_range hk _ _ hq j u hu
    have hall : ∀ u ∈ ys.flatMap enc, u.oneCell' = true := by
      intro u hu
      obtain ⟨y, _, hy⟩ := List.mem_flatMap.1 hu
      exact h1 y u hy
    obtain ⟨v', w', hr, g1, g2, _, g4⟩ := run_append_own_at (P := P) w base T o.type E i z k bytes hT hi hz hsz hby hzk hk0 v xs.length (xs.flatMap enc) hown ad m c (ys.flatMap enc) (by rw [flat_len hk, hm]) hnews hall hml hlen hbase
    unfold Oper.wp execOp
    simp only [ho, resolve, invoke, builtin, Sem.run_bind, Sem.run_pure, Result.andThen_ok, List.map_toArray, List.map_cons, List.map_nil, hs, hx, hr]
    refine h v' w' ?_ g2 g4
    have e : (xs ++ ys).flatMap enc = xs.flatMap enc ++ ys.flatMap enc := List.flatMap_append
    unfold OwnE
    rw [e, List.length_append, hm]
    exact g1
/-- []E{}. -/
theorem op_bs0 {P : Program} {o : Oper} {a : Act} {w : World} {K : Act → World → Prop} {Q : Exit → Act → World → Prop} (T E : TypeId) (hT : P.underlying T = some (.slice E)) (hk : (P.info? E).map (·.size) = some k) (ho : o.op = .buildSlice T 0 #[]) (base : Nat) (hb : base ≤ w.heap.size)
    (h : ∀ v' w', OwnE enc E k w' base v' [] → w.grownBy w' none → v'.ownBlock = some w.heap.size → K (a.put o.dst v') w') : o.wp P a w K Q := by
  obtain ⟨ie, hie, hs⟩ := Option.map_eq_some_iff.1 hk
  have hr : (Instr.buildSlice T 0 #[]).run P w = .ok (.slice (some ⟨w.heap.size, 0, none⟩) 0 0) (w.alloc (.cells #[] E)) := by
    simp [Instr.buildSlice, run_underlying hT, sizeOf, typeInfo, hie, newRow, Instr.fill, show Array.range 0 = #[] from rfl]
  have := World.ownsRow_made (e := E) (size := k) (base := base) w #[] 0 hb (by unfold maxLen; omega) (by simp)
  unfold Oper.wp execOp
  simp only [ho, Sem.run_bind, List.map_toArray, List.map_nil, hr, Result.andThen_ok]
  exact h _ _ this ⟨rfl, rfl, rfl, by simp, fun b hb _ => heap_alloc_old _ _ hb⟩ rfl
/-- []E{y}. -/
theorem op_bs1 {P : Program} {o : Oper} {a : Act} {w : World} {K : Act → World → Prop} {Q : Exit → Act → World → Prop} (T E : TypeId) (bytes : Nat) (z : Value) (hT : P.underlying T = some (.slice E)) (hinf : (P.info? E).map (fun i => (i.zero, i.size, i.bytes)) = some (some z, k, bytes)) (_ : z.cells.size = k) (hk0 : 0 < k) (hk2 : k ≤ 1000000) (hk : ∀ x, (enc x).length = k)
    (x : Operand) (ho : o.op = .buildSlice T 1 #[(0, x)]) (y : α) (hx : a.eval x = .agg (enc y).toArray)
    (h : K (a.put o.dst (.slice (some ⟨w.heap.size, 0, none⟩) 1 1)) (w.alloc (.cells (enc y).toArray E))) : o.wp P a w K Q := by
  obtain ⟨ie, hie, hz, hsz, hby⟩ := info_parts hinf
  have hb := run_buildSlice (P := P) w T E 1 #[(0, .agg (enc y).toArray)] (enc y).toArray ie z hT hie hz (by rw [hsz]; omega) (by rw [hsz]; omega) (by
    rw [hsz]
    have := Great.fill_whole (s := k) hk0 [.agg (enc y).toArray] ((Array.range (1 * k)).map (z.cells[· % z.cells.size]!)) (fun v hv => by
      simp at hv; subst hv
      show (enc y).toArray.size = k
      simp [hk]) (by simp)
    simp only [List.zipIdx_cons, List.zipIdx_nil, List.map_cons, List.map_nil] at this
    rw [this]
    simp [Value.cells])
  unfold Oper.wp execOp
  have hp : (#[(0, x)].map fun (p : Nat × Operand) => (p.1, a.eval p.2)) = #[(0, Value.agg (enc y).toArray)] := by simp [hx]
  simp only [ho, Sem.run_bind, hp, hb, Result.andThen_ok]
  exact h
end
theorem st_if {P : Program} {ops : Array Oper} {o : Oper} {a : Act} {w : World} {K : Act → World → Prop} {Q : Exit → Act → World → Prop} {E : Prop} (hg : o.guard = none) (h : o.wp P a w K Q) : if Region.wanted o (yielded ops a.tmps) = true then o.wp P a w K Q else E := by
  rw [if_pos (by unfold Region.wanted; rw [hg])]; exact h
end Go.Proofs.Ytagdedjclbmlkaa
