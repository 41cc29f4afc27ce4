/- What the law PinsStay leans on. -/
import Derived.Test.YtmdhlpnieimdaaaF
import Derived.Deep.Slices
namespace Go.Proofs.Ytmdhlpnieimdaaa
open Go.ChangeShapes Go.WideShapes Go.ChangeAt Go.RowKit Go.Deep

theorem cntP_full {p : Nat → Bool} : ∀ n, (∀ i, i < n → p i = true) → cntP p n = n
  | 0, _ => rfl
  | n + 1, h => by rw [cntP, cntP_full n fun i hi => h i (by omega), h n (by omega)]; rfl
theorem ones_pin {s : PS} {k : Nat} (hk : k < 64) (h0 : s.used.testBit k = false) (t : Nat) : onesOf (s.pin k t).used = onesOf s.used + 1 := by
  rw [onesOf, onesOf, cntTo_eq, cntTo_eq]
  refine cntP_flip 64 hk ?_ h0 fun i hi => ?_
  · show (s.used ||| 2 ^ k).testBit k = true
    rw [or_test]; simp
  · show (s.used ||| 2 ^ k).testBit i = _
    rw [or_test]; simp [hi]
theorem ones_un {s : PS} (h : s.Ok) (id : Int) : onesOf (s.un id).used ≤ onesOf s.used := by
  cases hh : hasL s.used id
  · rw [PS.un, hh]; exact Nat.le_refl _
  · obtain ⟨k, rfl, hk, h1⟩ := hasL_spec hh
    rw [un_eq hh, onesOf, onesOf, cntTo_eq, cntTo_eq]
    have := cntP_flip 64 hk (p := s.used.testBit) (q := (clearB s.used k).testBit) h1 (by rw [clearB_test h.hu hk]; simp) fun i hi => by rw [clearB_test h.hu hk]; simp [hi]
    show cntP (clearB s.used k).testBit 64 ≤ _
    omega
/-- The pin j is at t. -/
def JP (s : PS) (j t : Nat) : Prop := s.used.testBit j = true ∧ s.at1 j = t
theorem JP.un {s : PS} {j t : Nat} (h : JP s j t) (hs : s.Ok) (id : Int) (hne : id ≠ j) : JP (s.un id) j t := by
  cases hh : hasL s.used id
  · rw [PS.un, hh]; exact h
  · obtain ⟨k, rfl, hk, h1⟩ := hasL_spec hh
    have hkj : j ≠ k := fun e => hne (by rw [e])
    rw [un_eq hh]
    refine ⟨?_, ?_⟩
    · show (clearB s.used k).testBit j = true
      rw [clearB_test hs.hu hk, h.1]; simp [hkj]
    · show (s.times.set k 0).getD j 0 = t
      rw [at1_set (by rw [hs.hl]; exact hk), if_neg hkj]; exact h.2
theorem JP.pin {s : PS} {j t : Nat} (h : JP s j t) (hs : s.Ok) {k : Nat} (hk : k < 64) (h0 : s.used.testBit k = false) (x : Nat) : JP (s.pin k x) j t := by
  have hkj : j ≠ k := fun e => by rw [← e, h.1] at h0; cases h0
  refine ⟨?_, ?_⟩
  · show (s.used ||| 2 ^ k).testBit j = true
    rw [or_test, h.1]; rfl
  · show (s.times.set k x).getD j 0 = t
    rw [at1_set (by rw [hs.hl]; exact hk), if_neg hkj]; exact h.2
theorem JP.has {s : PS} {j t : Nat} (h : JP s j t) (hj : j < 64) : hasL s.used (j : Int) = true := by
  simp [hasL, h.1]; omega

/-- A table, all whose blocks are this call's own. -/
structure TB (w0 W : World) (tp : Nat) (s : PS) (o : Option Nat) : Prop where
  t : TabP W tp s o
  b : Below tp w0 W
  r : ∀ r, o = some r → tp ≤ r
theorem TB.ok {w0 W : World} {tp : Nat} {s : PS} {o : Option Nat} (h : TB w0 W tp s o) : s.Ok := h.t.2
theorem TB.below {w0 W W' : World} {tp : Nat} {s : PS} {o : Option Nat} (h : TB w0 W tp s o) (hb : Below W.heap.size W W') : TB w0 W' tp s o :=
  ⟨h.t.below hb, h.b.trans (hb.mono (Nat.le_of_lt h.t.lt)), h.r⟩

theorem pin_gen (w0 : World) (tp : Nat) (o : Option Nat) (x : Nat) (s : PS) (W : World) (h : TB w0 W tp s o) :
    Calls Try.prog 8 #[.pointer (some ⟨tp, 0, none⟩), .int .u64 x] W fun e w' => ∃ (a b : Int) (o' : Option Nat) (s' : PS), e = .returned (.tuple #[.int .i64 a, .int .i64 b]) ∧ TB w0 w' tp s' o' ∧ (o.isSome = true → o' = o) ∧ onesOf s'.used ≤ onesOf s.used + 1 ∧ ∀ j t, JP s j t → JP s' j t := by
  rcases room_or s.used h.ok.hu with ⟨hb, _⟩ | ⟨k, hk, h0, _, hb⟩
  · exact (pin_nix tp o x s W h.t hb).mono fun e w' ⟨he, hw⟩ => ⟨0, 6, o, s, he, hw ▸ h, fun _ => rfl, by omega, fun j t hj => hj⟩
  · refine (pin_room tp o k x s W h.t hk h0 hb).mono fun e w' ⟨he, r, h1, h2, h3, h4⟩ => ⟨k, 0, some r, s.pin k x, he, ⟨h4, ?_, ?_⟩, ?_, by rw [ones_pin hk h0]; exact Nat.le_refl _, fun j t hj => hj.pin h.ok hk h0 x⟩
    · have hrl : tp ≤ r := by
        cases o with
        | none => rw [h1 rfl]; exact Nat.le_of_lt h.t.lt
        | some r0 => rw [h2 r0 rfl]; exact h.r r0 rfl
      exact h.b.trans (h3.below (fun x hx => by simp at hx; omega) (Nat.le_of_lt h.t.lt))
    · intro r' e'
      cases e'
      cases o with
      | none => rw [h1 rfl]; exact Nat.le_of_lt h.t.lt
      | some r0 => rw [h2 r0 rfl]; exact h.r r0 rfl
    · intro ho
      cases o with
      | none => cases ho
      | some r0 => rw [h2 r0 rfl]
theorem pin_first30 (w0 : World) (tp : Nat) (o : Option Nat) (x : Nat) (s : PS) (W : World) (h : TB w0 W tp s o) (h30 : onesOf s.used ≤ 60) :
    Calls Try.prog 8 #[.pointer (some ⟨tp, 0, none⟩), .int .u64 x] W fun e w' => ∃ (j r : Nat) (s' : PS), j < 64 ∧ e = .returned (.tuple #[.int .i64 j, .int .i64 0]) ∧ TB w0 w' tp s' (some r) ∧ JP s' j x := by
  rcases room_or s.used h.ok.hu with ⟨hb, hall⟩ | ⟨k, hk, h0, _, hb⟩
  · have : onesOf s.used = 64 := by rw [onesOf, cntTo_eq]; exact cntP_full 64 hall
    omega
  · refine (pin_room tp o k x s W h.t hk h0 hb).mono fun e w' ⟨he, r, h1, h2, h3, h4⟩ => ⟨k, r, s.pin k x, hk, he, ⟨h4, ?_, ?_⟩, ?_, ?_⟩
    · have hrl : tp ≤ r := by
        cases o with
        | none => rw [h1 rfl]; exact Nat.le_of_lt h.t.lt
        | some r0 => rw [h2 r0 rfl]; exact h.r r0 rfl
      exact h.b.trans (h3.below (fun x hx => by simp at hx; omega) (Nat.le_of_lt h.t.lt))
    · intro r' e'
      cases e'
      cases o with
      | none => rw [h1 rfl]; exact Nat.le_of_lt h.t.lt
      | some r0 => rw [h2 r0 rfl]; exact h.r r0 rfl
    · show (s.used ||| 2 ^ k).testBit k = true
      rw [or_test]; simp
    · show (s.times.set k x).getD k 0 = x
      rw [at1_set (by rw [h.ok.hl]; exact hk), if_pos rfl]
theorem un_gen (w0 : World) (tp : Nat) (o : Option Nat) (id : Int) (s : PS) (W : World) (h : TB w0 W tp s o) :
    Calls Try.prog 7 #[.pointer (some ⟨tp, 0, none⟩), .slice (some ⟨W.heap.size, 0, none⟩) 1 1] (W.alloc (.cells #[.int .i64 id] 3)) fun e w' => e = .returned (.int .i64 (if hasL s.used id then 1 else 0 : Nat)) ∧ TB w0 w' tp (s.un id) o := by
  have h' := h.below (below_alloc1 W (.cells #[.int .i64 id] 3))
  refine (unpin_any tp W.heap.size 1 [id] s o _ h'.t (heap_alloc_new _ _) rfl (by omega) (by have := h.t.lt; omega)).mono fun e w' ⟨he, h2, h3⟩ => ⟨he.trans (by simp [unN]), h3, ?_, h.r⟩
  refine h'.b.trans (h2.below (fun x hx => ?_) (Nat.le_of_lt h'.t.lt))
  rcases List.mem_cons.1 hx with e | e
  · omega
  · cases o with
    | none => simp at e
    | some r => simp at e; rw [e]; exact h.r r rfl
theorem at_gen (w0 : World) (tp j t : Nat) (o : Option Nat) (s : PS) (W : World) (h : TB w0 W tp s o) (hj : j < 64) (hJ : JP s j t) :
    Calls Try.prog 9 #[.pointer (some ⟨tp, 0, none⟩), .int .i64 j] W fun e w' => e = .returned (.tuple #[.int .u64 t, .bool true]) ∧ W = w' :=
  (at_tab tp s.used s.times o j W h.t.1.1).mono fun e w' ⟨he, hw⟩ => ⟨by rw [he, hJ.has hj]; have := hJ.2; simp only [PS.at1, List.getD_eq_getElem?_getD] at this; simp [this], hw⟩
theorem count_gen (w0 : World) (tp j t r : Nat) (s : PS) (W : World) (h : TB w0 W tp s (some r)) (hj : j < 64) (hJ : JP s j t) :
    Calls Try.prog 10 #[.pointer (some ⟨tp, 0, none⟩), .int .u64 t] W fun e w' => ∃ m : Nat, 1 ≤ m ∧ m ≤ 64 ∧ e = .returned (.int .i64 m) ∧ W = w' :=
  (count_of tp r t s W h.t).mono fun e w' ⟨he, hw⟩ => ⟨s.f t, by have := PS.f_pos h.ok hj hJ.1; rw [hJ.2] at this; exact this, PS.f_le h.ok t, he, hw⟩

/-- The argument: a slice of acts. -/
def ActsIn (w : World) (q : Option Addr) (n : Nat) : Prop := ∀ i, i < n → ∃ (b o : Nat) (kd id : Int) (t : Nat), q = some ⟨b, o, none⟩ ∧ b < w.heap.size ∧ w.cell? ⟨b, o + i * 3, none⟩ = some (.int .i64 kd) ∧ w.cell? ⟨b, o + i * 3 + 1, none⟩ = some (.int .i64 id) ∧ w.cell? ⟨b, o + i * 3 + 2, none⟩ = some (.int .u64 t)
theorem add_add' (a : Addr) (i j : Nat) : (a.add i).add j = a.add (i + j) := by
  obtain ⟨b, o, s⟩ := a
  unfold Addr.add
  by_cases h1 : i = 0
  · subst h1; simp
  · by_cases h2 : j = 0
    · subst h2; simp [h1]
    · have : ¬ (i + j = 0) := by omega
      simp [h1, h2, this, Nat.add_assoc]
theorem open_acts {H : Type} {enc : TypeId × Value → H} {w : World} {base : Nat} {held : Bool} {v : Value} {d : DataW H} {p : List MemPlace} {r : Reach} {b0 : Nat}
    (hv : Value.okWide Try.prog w r b0 22 v) (h : DataW.Trod enc Try.prog w base (fun _ => true) held 22 v d p) :
    ∃ q n cap, v = .slice q n cap ∧ n ≤ cap ∧ cap ≤ maxLen ∧ ActsIn w q n := by
  obtain ⟨fuel, hf⟩ := h
  obtain ⟨q, l, c, rfl⟩ := okWide_slice Try.underlying22 hv
  rcases open_slice Try.underlying22 hf with ⟨h0, _⟩ | ⟨a, len, cap, m, n, D, Pl, hcs, hb, hl, hm, hmm, hx, hi⟩
  · simp only [Value.cells, List.cons.injEq, and_true] at h0
    simp at h0
    obtain ⟨rfl, rfl, rfl⟩ := h0
    exact ⟨none, 0, 0, rfl, Nat.le_refl _, by unfold maxLen; omega, fun i hi => by omega⟩
  · simp only [Value.cells] at hcs
    simp at hcs
    obtain ⟨rfl, rfl, rfl⟩ := hcs
    refine ⟨some a, l, c, rfl, hl, hm, fun i hil => ?_⟩
    have hmc : m = c := by simpa using hmm
    have hC : Try.prog.cellsOf 29 = 3 := by kernel_rfl
    rw [hC] at hi
    obtain ⟨cs', h1, h2⟩ := hi i (by omega)
    obtain ⟨_, hlen, hat⟩ := World.cells?_some h1
    obtain ⟨xs, n', _, _, _, hxl, hfl⟩ := DataW.trod_struct Try.underlying29 h2
    have hx3 : xs.length = 3 := hxl
    have c3 : Try.prog.cellsOf 3 = 1 := by kernel_rfl
    have c23 : Try.prog.cellsOf 23 = 1 := by kernel_rfl
    have f0 : DataW.trod enc Try.prog w base (fun _ => true) held n' 3 ((cs'.drop 0).take (Try.prog.cellsOf 3)) = xs[0]? := hfl 0 _ rfl
    have f1 : DataW.trod enc Try.prog w base (fun _ => true) held n' 3 ((cs'.drop 1).take (Try.prog.cellsOf 3)) = xs[1]? := hfl 1 _ rfl
    have f2 : DataW.trod enc Try.prog w base (fun _ => true) held n' 23 ((cs'.drop 2).take (Try.prog.cellsOf 23)) = xs[2]? := hfl 2 _ rfl
    rw [List.getElem?_eq_getElem (by omega)] at f0 f1 f2
    rw [c3] at f0 f1
    rw [c23] at f2
    obtain ⟨kd, h0, _⟩ := DataW.trod_int Try.underlying3 f0
    obtain ⟨id, h1', _⟩ := DataW.trod_int Try.underlying3 f1
    obtain ⟨t, h2', _, wt⟩ := DataW.trod_int Try.underlying23 f2
    obtain ⟨tn, rfl⟩ : ∃ tn : Nat, t = tn := ⟨t.toNat, by
      have : 0 ≤ t ∧ t ≤ IntKind.u64.max := by simpa [Lit.wf, show IntKind.u64.min = 0 from rfl] using wt
      omega⟩
    have e0 : cs'[0]? = some (.int .i64 kd) := by
      have := congrArg (fun l : List Value => l[0]?) h0
      simpa [List.getElem?_take] using this
    have e1 : cs'[1]? = some (.int .i64 id) := by
      have := congrArg (fun l : List Value => l[0]?) h1'
      simpa [List.getElem?_take] using this
    have e2 : cs'[2]? = some (.int .u64 tn) := by
      have := congrArg (fun l : List Value => l[0]?) h2'
      simpa [List.getElem?_take] using this
    have hat' : ∀ j, j < 3 → w.cell? (a.add (i * 3 + j)) = cs'[j]? := fun j hj => by
      rw [← hat j hj, add_add']
    obtain ⟨cs0, g1, _⟩ := hi 0 (by omega)
    obtain ⟨_, hlen0, hat0⟩ := World.cells?_some g1
    have hu : w.cell? a = some (cs0[0]'(by omega)) := by
      have := hat0 0 (by omega)
      rw [add_add', List.getElem?_eq_getElem (by omega)] at this
      exact this
    obtain ⟨b, o, s⟩ := a
    obtain rfl : s = none := World.cell?_spot hu
    refine ⟨b, o, kd, id, tn, rfl, ?_, ?_, ?_, ?_⟩
    · obtain ⟨c', e', fr', hbk, _⟩ := Go.Sort.cells_of_cell? hu
      exact lt_heap hbk
    · have := hat' 0 (by omega)
      rw [e0, Addr.add_mid] at this; exact this
    · have := hat' 1 (by omega)
      rw [e1, Addr.add_mid] at this; rw [Nat.add_assoc]; exact this
    · have := hat' 2 (by omega)
      rw [e2, Addr.add_mid] at this; rw [Nat.add_assoc]; exact this
end Go.Proofs.Ytmdhlpnieimdaaa
