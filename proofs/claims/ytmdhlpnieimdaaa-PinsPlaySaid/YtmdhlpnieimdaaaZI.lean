/- The document's Times. -/
import Derived.Test.YtmdhlpnieimdaaaZH
import Derived.Test.YtmdhlpnieimdaaaZG
import Derived.Test.YtmdhlpnieimdaaaGX
import Derived.Deep.RegionHeld
namespace Go.Proofs.Ytmdhlpnieimdaaa
open Go.RowKit

/-- One time more, in a rising list. -/
def insU (x : Nat) : List Nat → List Nat
  | [] => [x]
  | y :: l => if y < x then y :: insU x l else if y = x then y :: l else x :: y :: l
theorem insU_len (x : Nat) : ∀ l, (insU x l).length ≤ l.length + 1
  | [] => by simp [insU]
  | y :: l => by
    have := insU_len x l
    unfold insU
    split
    · simp; omega
    · split <;> simp
theorem insU_mem (x z : Nat) : ∀ l, z ∈ insU x l ↔ z = x ∨ z ∈ l
  | [] => by simp [insU]
  | y :: l => by
    have := insU_mem x z l
    unfold insU
    split
    · rw [List.mem_cons, this, List.mem_cons]
      constructor
      · rintro (h | h | h) <;> simp [h]
      · rintro (h | h | h) <;> simp [h]
    · split
      · rename_i h; subst h
        simp
      · simp
theorem insU_rise (x : Nat) : ∀ l : List Nat, l.Pairwise (· < ·) → (insU x l).Pairwise (· < ·)
  | [], _ => by simp [insU]
  | y :: l, h => by
    obtain ⟨h1, h2⟩ := List.pairwise_cons.1 h
    have ih := insU_rise x l h2
    unfold insU
    split
    · rename_i hyx
      refine List.pairwise_cons.2 ⟨fun z hz => ?_, ih⟩
      rcases (insU_mem x z l).1 hz with rfl | hz
      · exact hyx
      · exact h1 z hz
    · split
      · exact h
      · refine List.pairwise_cons.2 ⟨fun z hz => ?_, h⟩
        rcases List.mem_cons.1 hz with rfl | hz
        · omega
        · have := h1 z hz; omega
theorem insU_at (x : Nat) : ∀ (l : List Nat) (k : Nat), k ≤ l.length → (∀ i (h : i < l.length), i < k → l[i] < x) → (∀ h : k < l.length, x < l[k]) → insU x l = l.take k ++ [x] ++ l.drop k
  | [], k, h, _, _ => by
    have : k = 0 := by simpa using h
    subst this; rfl
  | y :: l, 0, _, _, h2 => by
    have := h2 (by simp)
    simp only [List.getElem_cons_zero] at this
    unfold insU
    rw [if_neg (by omega), if_neg (by omega)]; rfl
  | y :: l, k + 1, h, h1, h2 => by
    have h0 := h1 0 (by simp) (by omega)
    simp only [List.getElem_cons_zero] at h0
    unfold insU
    rw [if_pos h0, insU_at x l k (by simpa using h) (fun i hi hik => by have := h1 (i + 1) (by simpa using hi) (by omega); simpa using this) (fun hk => by have := h2 (by simpa using hk); simpa using this)]
    rfl
theorem insU_has (x : Nat) : ∀ (l : List Nat) (k : Nat) (hk : k < l.length), (∀ i (h : i < l.length), i < k → l[i] < x) → l[k] = x → insU x l = l
  | y :: l, 0, _, _, h2 => by
    simp only [List.getElem_cons_zero] at h2
    unfold insU
    rw [if_neg (by omega), if_pos h2]
  | y :: l, k + 1, h, h1, h2 => by
    have h0 := h1 0 (by simp) (by omega)
    simp only [List.getElem_cons_zero] at h0
    unfold insU
    rw [if_pos h0, insU_has x l k (by simpa using h) (fun i hi hik => by have := h1 (i + 1) (by simpa using hi) (by omega); simpa using this) (by simpa using h2)]
/-- The times of the first n places, rising, each once. -/
def dT (u : Nat) (ts : List Nat) : Nat → List Nat
  | 0 => []
  | n + 1 => if u.testBit n then insU (ts.getD n 0) (dT u ts n) else dT u ts n
theorem dT_len (u : Nat) (ts : List Nat) : ∀ n, (dT u ts n).length ≤ n
  | 0 => by simp [dT]
  | n + 1 => by
    have := dT_len u ts n
    have h := insU_len (ts.getD n 0) (dT u ts n)
    unfold dT
    split <;> omega
theorem dT_rise (u : Nat) (ts : List Nat) : ∀ n, (dT u ts n).Pairwise (· < ·)
  | 0 => by simp [dT]
  | n + 1 => by
    unfold dT
    split
    · exact insU_rise _ _ (dT_rise u ts n)
    · exact dT_rise u ts n
theorem dT_mem (u : Nat) (ts : List Nat) (x : Nat) : ∀ n, x ∈ dT u ts n ↔ ∃ i, i < n ∧ u.testBit i = true ∧ ts.getD i 0 = x
  | 0 => by simp [dT]
  | n + 1 => by
    have ih := dT_mem u ts x n
    unfold dT
    by_cases hb : u.testBit n = true
    · rw [if_pos hb, insU_mem, ih]
      constructor
      · rintro (rfl | ⟨i, h1, h2⟩)
        · exact ⟨n, by omega, hb, rfl⟩
        · exact ⟨i, by omega, h2⟩
      · rintro ⟨i, h1, h2, h3⟩
        by_cases e : i = n
        · subst e; exact .inl h3.symm
        · exact .inr ⟨i, by omega, h2, h3⟩
    · rw [if_neg hb, ih]
      constructor
      · rintro ⟨i, h1, h2⟩; exact ⟨i, by omega, h2⟩
      · rintro ⟨i, h1, h2, h3⟩
        by_cases e : i = n
        · subst e; exact absurd h2 hb
        · exact ⟨i, by omega, h2, h3⟩
theorem dT_is {s : PS} (h : s.Ok) : IsT s (dT s.used s.times 64) := by
  refine ⟨dT_rise _ _ _, fun x => ?_⟩
  rw [dT_mem, h.hf]
  constructor
  · rintro ⟨i, h1, h2, h3⟩
    have := cntP_pos (p := s.is x) 64 h1 (by simp [PS.is, h2, PS.at1]; simpa using h3)
    omega
  · intro hne
    by_cases hex : ∃ i, i < 64 ∧ s.is x i = true
    · obtain ⟨i, h1, h2⟩ := hex
      simp only [PS.is, Bool.and_eq_true, beq_iff_eq] at h2
      exact ⟨i, h1, h2.1, h2.2⟩
    · exact absurd (cntP_none 64 fun i hi => by
        cases hb : s.is x i
        · rfl
        · exact absurd ⟨i, hi, hb⟩ hex) hne
theorem K_len {s : PS} (h : s.Ok) : s.K.length ≤ 900 := by
  have hI := dT_is h
  have hp := (List.perm_ext_iff_of_nodup h.hn (nodup_of_lt _ hI.1)).2 fun x => by rw [h.hk, hI.2]
  have := dT_len s.used s.times 64
  rw [hp.length_eq]; omega
theorem takeD {P : Program} {md : Region.Mode} {ops : Array Oper} {Q : Exit → Act → World → Prop} {S : World → Prop} {i : Nat} {oi : Oper} {v : Value} {fuel : Nat} {listed : Array Bool} {a : Act} {w : World} (d : Nat) (hi : ops[i]? = some oi) (hd : oi.dst = some d)
    (hs : Region.noSelect ops = true) (hf : Region.free md ops listed i = true) (hr : (Region.ready md ops listed).contains i = true)
    (hQ : ∀ c a w, Q (.panic c) (a.put (some d) v) w → Q (.panic c) a w) (hy : YieldsIf P ops S oi v a) (hS : S w)
    (h : wpAnyH P md ops Q S fuel (listed.setIfInBounds i true) (a.put (some d) v) w) : wpAnyH P md ops Q S (fuel + 1) listed a w :=
  wpAnyH_take hi hs hf hr (by rw [hd]; exact hQ) hy hS (by rw [hd]; exact h)
theorem oneH {P : Program} {md : Region.Mode} {ops : Array Oper} {Q : Exit → Act → World → Prop} {S : World → Prop} (i : Nat) {fuel : Nat} {listed : Array Bool} {a : Act} {w : World} (hr : Region.ready md ops listed = [i])
    (h : wpOp P ops Q i (fun a' w' => S w' ∧ wpAnyH P md ops Q S fuel (listed.setIfInBounds i true) a' w') a w) : wpAnyH P md ops Q S (fuel + 1) listed a w :=
  wpAnyH_all hr (by simp) fun j hj => by
    rw [List.mem_singleton] at hj
    subst hj
    exact h
theorem twoH {P : Program} {md : Region.Mode} {ops : Array Oper} {Q : Exit → Act → World → Prop} {S : World → Prop} (i j : Nat) {fuel : Nat} {listed : Array Bool} {a : Act} {w : World} (hr : Region.ready md ops listed = [i, j])
    (h : wpOp P ops Q i (fun a' w' => S w' ∧ wpAnyH P md ops Q S fuel (listed.setIfInBounds i true) a' w') a w) (h' : wpOp P ops Q j (fun a' w' => S w' ∧ wpAnyH P md ops Q S fuel (listed.setIfInBounds j true) a' w') a w) : wpAnyH P md ops Q S (fuel + 1) listed a w :=
  wpAnyH_all hr (by simp) fun k hk => by
    simp only [List.mem_cons, List.not_mem_nil, or_false] at hk
    rcases hk with rfl | rfl
    · exact h
    · exact h'
theorem slat1 {α : Type} {enc : α → List Value} {k : Nat} (w : World) (y : α) (E : TypeId) : SlAt enc k (w.alloc (.cells (enc y).toArray E)) (some ⟨w.heap.size, 0, none⟩) [y] := fun i hi => by
  have h0 : i = 0 := by simp at hi; omega
  subst h0
  refine ⟨w.heap.size, 0, rfl, by simp, ?_⟩
  rw [Nat.zero_mul]
  exact range_whole (by simpa using heap_alloc_new w (.cells (enc y).toArray E))
def uE (n : Nat) : List Value := [.int .u64 (n : Int)]
theorem uE_len (n : Nat) : (uE n).length = 1 := rfl
theorem uE_one (n : Nat) : ∀ u ∈ uE n, u.oneCell' = true := fun u hu => by simp only [uE, List.mem_singleton] at hu; subst hu; rfl
theorem siz23 : (Try.prog.info? 23).map (·.size) = some 1 := by kernel_rfl
theorem uZ_sz : (Value.int .u64 0).cells.size = 1 := rfl
theorem exec_bsU {o : Oper} {a : Act} {w : World} (x : Operand) (ho : o.op = .buildSlice 52 1 #[(0, x)]) (y : Nat) (hx : a.eval x = .int .u64 (y : Int)) : (execOp a.eval o).run Try.prog w = .ok (.value (.slice (some ⟨w.heap.size, 0, none⟩) 1 1)) (w.alloc (.cells (uE y).toArray 23)) := by
  have hb : (Instr.buildSlice 52 1 #[(0, .int .u64 (y : Int))]).run Try.prog w = .ok (.slice (some ⟨w.heap.size, 0, none⟩) 1 1) (w.alloc (.cells #[.int .u64 (y : Int)] 23)) := by
    simp [go_sem, Try.underlying52]
  unfold execOp
  simp only [ho, List.map_toArray, List.map_cons, List.map_nil, hx, Sem.run_bind, hb]
  rfl
theorem exec_f43 {o : Oper} {a : Act} {w : World} (x : Operand) (ho : o.op = .fieldAddr 43 x 1) (b : Nat) (hx : a.eval x = .pointer (some ⟨b, 0, none⟩)) : (execOp a.eval o).run Try.prog w = .ok (.value (.pointer (some ⟨b, 64, none⟩))) w := by
  unfold execOp
  simp only [ho, hx, Sem.run_bind]
  simp [go_sem, Try.underlying43]
theorem exec_i24 {o : Oper} {a : Act} {w : World} (x y : Operand) (ho : o.op = .indexAddr 24 x y) (b f j : Nat) (hx : a.eval x = .pointer (some ⟨b, f, none⟩)) (hy : a.eval y = .int .i64 (j : Int)) (hj : j < 64) : (execOp a.eval o).run Try.prog w = .ok (.value (.pointer (some ⟨b, f + j, none⟩))) w := by
  have hjI : (j : Int) < 64 := by omega
  unfold execOp
  simp only [ho, hx, hy, Sem.run_bind]
  simp [go_sem, Try.underlying24, hj, hjI]
theorem slat_kept {w w' : World} {b : Nat} {x : Nat} (h : SlAt uE 1 w (some ⟨b, 0, none⟩) [x]) (he : w'.heap[b]? = w.heap[b]?) (hl : b < w'.heap.size) : SlAt uE 1 w' (some ⟨b, 0, none⟩) [x] := fun i hi => by
  obtain ⟨b', o, h1, h2, h3⟩ := h i hi
  cases h1
  exact ⟨b, 0, rfl, hl, range_of_block h3 he⟩
theorem slat_cell {w : World} {q : Option Addr} {l : List Nat} (h : SlAt uE 1 w q l) (i : Nat) (hi : i < l.length) : ∃ b o, q = some ⟨b, o, none⟩ ∧ b < w.heap.size ∧ w.cell? ⟨b, o + i, none⟩ = some (.int .u64 ((l[i] : Nat) : Int)) := by
  obtain ⟨b, o, h1, h2, h3⟩ := h i hi
  refine ⟨b, o, h1, h2, ?_⟩
  have := h3 0 (.int .u64 ((l[i] : Nat) : Int)) rfl
  simpa using this

theorem infoU : (Try.prog.info? 23).map (fun i => (i.zero, i.size, i.bytes)) = some (some (.int .u64 0), 1, 8) := by kernel_rfl
theorem ag23 (w : World) : (isAgg 23).run Try.prog w = .ok false w := by simp [isAgg, run_underlying Try.underlying23]
theorem below_drew (w : World) : Below w.heap.size w w.drew := ⟨rfl, rfl, rfl, Nat.le_refl _, fun _ _ => rfl⟩
theorem below_drewN (w : World) (n : Nat) : Below w.heap.size w (w.drewN n) := ⟨rfl, rfl, rfl, Nat.le_refl _, fun _ _ => rfl⟩
end Go.Proofs.Ytmdhlpnieimdaaa
