/- WatchAnew: what holds between its steps. -/
import Derived.Test.YtnafcbmpjjlhnaaK28
namespace Go.Proofs.Ytnafcbmpjjlhnaa
open Go.RowKit

def QB (x : Wt) : Prop := x.queue.length ≤ 13 ∧ (x.stop = false → x.queue.length ≤ 12)
theorem QB.hand {x : Wt} (h : QB x) (e : Ev) : QB (handW x e) := by
  unfold handW
  split
  · exact h
  split
  · exact h
  split
  · exact h
  rename_i h1 _ _
  have h2 := h.2 (by simpa using h1)
  split
  · exact ⟨by simp; omega, by simp⟩
  · exact ⟨by simp; omega, fun _ => by simp; omega⟩
theorem hand_key (x : Wt) (e : Ev) : (handW x e).key = x.key ∧ (handW x e).depth = x.depth := by
  unfold handW
  split
  · exact ⟨rfl, rfl⟩
  split
  · exact ⟨rfl, rfl⟩
  split
  · exact ⟨rfl, rfl⟩
  split <;> exact ⟨rfl, rfl⟩
theorem pub_keep (t : Int) : ∀ (ds : List Wr) (s : Wt × Nat), QB s.1 → QB (ds.foldl (stepW t) s).1 ∧ (ds.foldl (stepW t) s).1.key = s.1.key ∧ (ds.foldl (stepW t) s).1.depth = s.1.depth
  | [], _, h => ⟨h, rfl, rfl⟩
  | r :: rs, s, h => by
    have h1 : (stepW t s r).1 = handW s.1 (evOf t r) := rfl
    have h2 := pub_keep t rs (stepW t s r) (by rw [h1]; exact h.hand _)
    rw [List.foldl_cons]
    rw [h1] at h2
    have h3 := hand_key s.1 (evOf t r)
    exact ⟨h2.1, h2.2.1.trans h3.1, h2.2.2.trans h3.2⟩
theorem own_slice {α : Type} {enc : α → List Value} {k : Nat} (hk : ∀ x, (enc x).length = k) {E : TypeId} {w : World} {base : Nat} {v : Value} {xs : List α} (h : OwnE enc E k w base v xs) :
    ∃ (q : Option Addr) (c : Nat), v = .slice q xs.length c ∧ SlAt enc k w q xs ∧ (q = none → xs.length = 0 ∧ c = 0) := by
  obtain ⟨q, c, hv, _, _, hs, _⟩ := h.at hk
  refine ⟨q, c, hv, hs, fun hq => ?_⟩
  obtain ⟨_, ⟨h1, h2⟩ | ⟨g', cap', cur, h1, _⟩⟩ := h
  · rw [hv] at h1; simp only [Value.slice.injEq] at h1; exact ⟨h1.2.1, h1.2.2⟩
  · rw [hv, hq] at h1; simp at h1
theorem own_type {α : Type} {enc : α → List Value} {k : Nat} {E : TypeId} {w : World} {base : Nat} {v : Value} {xs : List α} (h : OwnE enc E k w base v xs) {g : Nat} (hg : v.ownBlock = some g) : ∃ cs, w.heap[g]? = some (.cells cs E (0, 0)) := by
  obtain ⟨_, ⟨rfl, _⟩ | ⟨g', cap', cur, rfl, _, hh, _⟩⟩ := h
  · cases hg
  · simp only [Value.ownBlock, Option.some.injEq] at hg
    exact ⟨cur, by rw [← hg]; exact hh⟩
/-- What a turn of a watcher keeps: blocks of other types. -/
theorem turn_keep {B p : Nat} {x : Wt} {q : Value} {w w' : World} (hx : WtAt B w p x q) (ht : Turn (p :: q.ownBlock.toList) w w') {b : Nat} {cs : Array Value} {T : TypeId} {fr : Nat × Nat} (hb : w.heap[b]? = some (.cells cs T fr)) (h1 : T ≠ 67) (h2 : T ≠ 52) : w'.heap[b]? = some (.cells cs T fr) := by
  refine (ht.block b (lt_heap hb) fun hm => ?_).trans hb
  rcases List.mem_cons.1 hm with h | h
  · exact ty_ne hb hx.blk h1 h
  · cases hq : q.ownBlock with
    | none => rw [hq] at h; simp at h
    | some g =>
      rw [hq] at h
      simp at h
      subst h
      exact own_ne hx.own hb h2 hq
theorem turn_bel {B p : Nat} {x : Wt} {q : Value} {w w' : World} (hx : WtAt B w p x q) (ht : Turn (p :: q.ownBlock.toList) w w') (hB : B ≤ w.heap.size) : Below B w w' :=
  ht.below (fun k hk => by
    rcases List.mem_cons.1 hk with h | h
    · rw [h]; exact hx.low
    · cases hq : q.ownBlock with
      | none => rw [hq] at h; simp at h
      | some g => rw [hq] at h; simp at h; rw [h]; exact (hx.own.lt g hq).1) hB
/-- One registry with a watcher, one that is empty, the prefix. -/
structure One (B : Nat) (w : World) (g1 g2 bp p : Nat) (k : List UInt8) (d : Int) (x : Wt) (q : Value) : Prop where
  r1 : w.heap[g1]? = some (.cells (rgC 0 (.pointer (some ⟨p, 0, none⟩))).toArray 37 (0, 0))
  r2 : w.heap[g2]? = some (.cells rg0.toArray 37 (0, 0))
  bx : w.heap[bp]? = some (.cells (pC k d).toArray 32 (0, 0))
  a1 : WtAt B w p x q
  qb : QB x
  xk : x.key = k
  xd : x.depth = d
  sz : B ≤ w.heap.size
theorem One.below {B : Nat} {w w' : World} {g1 g2 bp p : Nat} {k : List UInt8} {d : Int} {x : Wt} {q : Value} (h : One B w g1 g2 bp p k d x q) (hb : Below w.heap.size w w') : One B w' g1 g2 bp p k d x q :=
  ⟨(hb.block _ (lt_heap h.r1)).trans h.r1, (hb.block _ (lt_heap h.r2)).trans h.r2, (hb.block _ (lt_heap h.bx)).trans h.bx, h.a1.below hb, h.qb, h.xk, h.xd, Nat.le_trans h.sz hb.size⟩
theorem One.turn {B : Nat} {w w' : World} {g1 g2 bp p : Nat} {k : List UInt8} {d : Int} {x x' : Wt} {q q' : Value} (h : One B w g1 g2 bp p k d x q) (ht : Turn (p :: q.ownBlock.toList) w w') (ha : WtAt B w' p x' q') (hq : QB x') (hk : x'.key = x.key) (hd : x'.depth = x.depth) : One B w' g1 g2 bp p k d x' q' :=
  ⟨turn_keep h.a1 ht h.r1 (by decide) (by decide), turn_keep h.a1 ht h.r2 (by decide) (by decide), turn_keep h.a1 ht h.bx (by decide) (by decide), ha, hq, hk.trans h.xk, hd.trans h.xd, Nat.le_trans h.sz ht.size⟩
/-- Two registries, a watcher in each: both keep the same. -/
structure Two (B : Nat) (w : World) (g1 g2 p1 p2 : Nat) (x : Wt) (y : Wt) (q1 q2 : Value) : Prop where
  r1 : w.heap[g1]? = some (.cells (rgC 0 (.pointer (some ⟨p1, 0, none⟩))).toArray 37 (0, 0))
  r2 : w.heap[g2]? = some (.cells (rgC 0 (.pointer (some ⟨p2, 0, none⟩))).toArray 37 (0, 0))
  a1 : WtAt B w p1 x q1
  a2 : WtAt B w p2 y q2
  qb : QB x
  qb2 : QB y
  pne : p1 ≠ p2
  dis : ∀ g, q1.ownBlock = some g → q2.ownBlock ≠ some g
  sz : B ≤ w.heap.size
theorem Two.swap {B : Nat} {w : World} {g1 g2 p1 p2 : Nat} {x y : Wt} {q1 q2 : Value} (h : Two B w g1 g2 p1 p2 x y q1 q2) : Two B w g2 g1 p2 p1 y x q2 q1 :=
  ⟨h.r2, h.r1, h.a2, h.a1, h.qb2, h.qb, h.pne.symm, fun g h1 h2 => h.dis g h2 h1, h.sz⟩
theorem Two.below {B : Nat} {w w' : World} {g1 g2 p1 p2 : Nat} {x y : Wt} {q1 q2 : Value} (h : Two B w g1 g2 p1 p2 x y q1 q2) (hb : Below w.heap.size w w') : Two B w' g1 g2 p1 p2 x y q1 q2 :=
  ⟨(hb.block _ (lt_heap h.r1)).trans h.r1, (hb.block _ (lt_heap h.r2)).trans h.r2, h.a1.below hb, h.a2.below hb, h.qb, h.qb2, h.pne, h.dis, Nat.le_trans h.sz hb.size⟩
theorem Two.turn {B : Nat} {w w' : World} {g1 g2 p1 p2 : Nat} {x y x' : Wt} {q1 q2 q' : Value} (h : Two B w g1 g2 p1 p2 x y q1 q2) (ht : Turn (p1 :: q1.ownBlock.toList) w w') (ha : WtAt B w' p1 x' q') (hq : QB x') (hw : q'.ownBlock = q1.ownBlock ∨ ∃ g', q'.ownBlock = some g' ∧ w.heap.size ≤ g') : Two B w' g1 g2 p1 p2 x' y q' q2 := by
  refine ⟨turn_keep h.a1 ht h.r1 (by decide) (by decide), turn_keep h.a1 ht h.r2 (by decide) (by decide), ha, ?_, hq, h.qb2, h.pne, fun g h1 h2 => ?_, Nat.le_trans h.sz ht.size⟩
  · refine h.a2.keep (ht.block _ (lt_heap h.a2.blk) fun hm => ?_) fun g hg => ht.block _ (h.a2.own.lt g hg).2 fun hm => ?_
    · rcases List.mem_cons.1 hm with h1 | h1
      · exact h.pne h1.symm
      · cases hq1 : q1.ownBlock with
        | none => rw [hq1] at h1; simp at h1
        | some g =>
          rw [hq1] at h1
          simp at h1
          subst h1
          exact own_ne h.a1.own h.a2.blk (by decide) hq1
    · rcases List.mem_cons.1 hm with h1 | h1
      · subst h1
        exact own_ne h.a2.own h.a1.blk (by decide) hg
      · cases hq1 : q1.ownBlock with
        | none => rw [hq1] at h1; simp at h1
        | some g' =>
          rw [hq1] at h1
          simp at h1
          subst h1
          exact h.dis g hq1 hg
  · rcases hw with h3 | ⟨g', h3, h4⟩
    · exact h.dis g (h3 ▸ h1) h2
    · rw [h3] at h1
      simp only [Option.some.injEq] at h1
      subst h1
      have := (h.a2.own.lt g' h2).2
      omega
theorem pubO_any (B g p base : Nat) (x : Wt) (qv : Value) (t : Int) (v : Value) (ws : List Wr) (w : World)
    (hg : w.heap[g]? = some (.cells (rgC 0 (.pointer (some ⟨p, 0, none⟩))).toArray 37 (0, 0))) (hx : WtAt B w p x qv) (hB : B ≤ w.heap.size)
    (hv : OwnE wrC 58 35 w base v ws) (hn20 : ws.length ≤ 20) (hqb : QB x) :
    Calls Try.prog 7 #[.pointer (some ⟨g, 0, none⟩), .int .u64 t, v] w fun e w' => e = .returned (.int .i64 ((pubP x t (srt ws)).2 : Int)) ∧ ∃ qv', WtAt B w' p (pubP x t (srt ws)).1 qv' ∧ Turn (p :: qv.ownBlock.toList) w w' ∧ (qv'.ownBlock = qv.ownBlock ∨ ∃ g', qv'.ownBlock = some g' ∧ w.heap.size ≤ g') := by
  obtain ⟨q, c, rfl, hs, hq0⟩ := own_slice wrC_len hv
  exact publish_any B g 0 p (by omega) x qv t q ws.length c ws w hg hx hB rfl hs hq0 hn20 (by have := hqb.1; omega)
theorem pub_one (B g1 g2 bp p base : Nat) (k : List UInt8) (d : Int) (x : Wt) (qv : Value) (t : Int) (v : Value) (ws : List Wr) (w : World) (h : One B w g1 g2 bp p k d x qv)
    (hv : OwnE wrC 58 35 w base v ws) (hn20 : ws.length ≤ 20) :
    Calls Try.prog 7 #[.pointer (some ⟨g1, 0, none⟩), .int .u64 t, v] w fun e w' => e = .returned (.int .i64 ((pubP x t (srt ws)).2 : Int)) ∧ ∃ x' q', One B w' g1 g2 bp p k d x' q' ∧ Below B w w' :=
  (pubO_any B g1 p base x qv t v ws w h.r1 h.a1 h.sz hv hn20 h.qb).mono fun e w' ⟨he, q', h1, h2, h3⟩ => by
    have hk := pub_keep t (srt ws) (x, 0) h.qb
    exact ⟨he, _, q', h.turn h2 h1 hk.1 hk.2.1 hk.2.2, turn_bel h.a1 h2 h.sz⟩
theorem pub_two (B g1 g2 p1 p2 base : Nat) (x y : Wt) (q1 q2 : Value) (t : Int) (v : Value) (ws : List Wr) (w : World) (h : Two B w g1 g2 p1 p2 x y q1 q2)
    (hv : OwnE wrC 58 35 w base v ws) (hn20 : ws.length ≤ 20) :
    Calls Try.prog 7 #[.pointer (some ⟨g1, 0, none⟩), .int .u64 t, v] w fun e w' => e = .returned (.int .i64 ((pubP x t (srt ws)).2 : Int)) ∧ ∃ q', Two B w' g1 g2 p1 p2 (pubP x t (srt ws)).1 y q' q2 ∧ OwnE wrC 58 35 w' base v ws ∧ Below B w w' :=
  (pubO_any B g1 p1 base x q1 t v ws w h.r1 h.a1 h.sz hv hn20 h.qb).mono fun e w' ⟨he, q', h1, h2, h3⟩ => by
    have hk := pub_keep t (srt ws) (x, 0) h.qb
    refine ⟨he, q', h.turn h2 h1 hk.1 h3, hv.block fun g hg => ?_, turn_bel h.a1 h2 h.sz⟩
    obtain ⟨cs, hc⟩ := own_type hv hg
    exact (turn_keep h.a1 h2 hc (by decide) (by decide)).trans hc.symm
end Go.Proofs.Ytnafcbmpjjlhnaa
