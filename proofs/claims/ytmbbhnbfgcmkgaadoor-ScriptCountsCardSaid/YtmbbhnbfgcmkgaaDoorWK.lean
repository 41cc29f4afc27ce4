/- strings.Builder: what a writer leaves alone. -/
import Derived.Test.YtmbbhnbfgcmkgaaDoorWB
import Derived.Lib.AppendStr
namespace Go.Proofs.YtmbbhnbfgcmkgaaDoor
open Go.RowKit

section
variable {P : Program} {w : World}
/-- In which block an appended text lies. -/
theorem own_blockS (base : Nat) (t u ty e : TypeId) (i : TypeInfo) (ht : P.underlying t = some (.slice e)) (hu : P.underlying u = some .string) (hi : P.info? e = some i) (hz : i.zero = some (.int .u8 0)) (hsize : i.size = 1) (hby : i.bytes = 1)
    (v : Value) (n : Nat) (xs : List Value) (hown : w.ownsRow base e 1 v n xs) (s : ByteArray) (h63 : n + s.size ≤ maxLen) (hbytes : n + s.size ≤ 140737488355328) (v' : Value) (w' : World) (hr : (Builtin.append_ #[t, u] ty #[v, .string s]).run P w = .ok v' w') :
    v'.ownBlock = v.ownBlock ∨ v'.ownBlock = some w.heap.size := by
  have hsmall : n + s.size ≤ 9223372036854775807 := by simp only [maxLen] at h63; omega
  have hxl : xs.length = n := by simpa using hown.1
  rcases hown.2 with ⟨rfl, rfl⟩ | ⟨g, cap, cur, rfl, hbg, hg, hnc, hcm, hcs, htake⟩
  · by_cases hm : s.size = 0
    · left
      have hf := Lib.run_firstCells_string (P := P) w 1 s
      rw [hm] at hf
      have hr2 : (Builtin.append_ #[t, u] ty #[.slice none 0 0, .string s]).run P w = .ok (.slice none 0 0) w := by
        simp [Builtin.append_, run_underlying ht, run_underlying hu, sizeOf, typeInfo, hi, hsize, Builtin.lenOf, hm, hf]
      rw [hr2] at hr
      cases hr; rfl
    · right
      have hr2 := run_append_nil_string (P := P) w t u ty e i (.int .u8 0) ht hu hi hz s (by omega) (by omega) (by rw [hby]; omega)
      rw [hr2] at hr
      cases hr; rfl
  · by_cases hroom : n + s.size ≤ cap
    · left
      have hr2 := Lib.run_append_room_string (P := P) w t u ty e i ht hu hi hsize g n cap cur hg s hroom (by omega)
      rw [hr2] at hr
      cases hr; rfl
    · right
      have hr2 := Lib.run_append_grow_string (P := P) w t u ty e i (.int .u8 0) ht hu hi hz ⟨g, 0, none⟩ n cap xs (by rw [hsize]; simpa using hxl) (hown.cells (g := g) rfl) s (by omega) (by omega) (by rw [hby]; exact growslice_fits (by omega) (by omega))
      rw [hr2] at hr
      cases hr; rfl
theorem wl_appS {ops : Array Oper} {rest : List Oper} {o : Oper} {a : Act} {Q : Exit → Act → World → Prop} (hgd : o.guard = none) (sl x : Operand) (t u : TypeId)
    (ho : o.op = .call { callee := .builtin .append, args := #[sl, x], argTypes := #[t, u] })
    (base : Nat) (e : TypeId) (i : TypeInfo) (ht : P.underlying t = some (.slice e)) (hu : P.underlying u = some .string) (hi : P.info? e = some i) (hz : i.zero = some (.int .u8 0))
    (hsize : i.size = 1) (hby : i.bytes = 1)
    (v : Value) (n : Nat) (xs : List Value) (hs : a.eval sl = v) (hown : w.ownsRow base e 1 v n xs) (s : ByteArray) (hx : a.eval x = .string s)
    (h63 : n + s.size ≤ maxLen) (hbytes : n + s.size ≤ 140737488355328) (hbase : base ≤ w.heap.size)
    (h : ∀ v' w', w'.ownsRow base e 1 v' (n + s.size) (xs ++ Lib.strCells s) → w.grownBy w' v.ownBlock → (v'.ownBlock = v.ownBlock ∨ v'.ownBlock = some w.heap.size) → wpList P ops Q rest (a.put o.dst v') w') : wpList P ops Q (o :: rest) a w :=
  wpList_step fun _ hK => by
    rw [if_pos (by unfold Region.wanted; rw [hgd])]
    obtain ⟨v', w', hr, h2, h3, _⟩ := Lib.run_append_own_string (P := P) w base t u o.type e i ht hu hi hz hsize hby v n xs hown s h63 hbytes hbase
    have h4 := own_blockS base t u o.type e i ht hu hi hz hsize hby v n xs hown s h63 hbytes v' w' hr
    unfold Oper.wp execOp
    simp only [ho, resolve, invoke, builtin, Sem.run_bind, Sem.run_pure, Result.andThen_ok, List.map_toArray, List.map_cons, List.map_nil, hs, hx, hr]
    exact hK _ _ (h v' w' h2 h3 h4)
end
/-- A block that is neither the builder's nor its buffer's. -/
def ApartB (b : Nat) (w : World) (k : Nat) : Prop := k ≠ b ∧ k < w.heap.size ∧ ∀ v, w.cell? ⟨b, 1, none⟩ = some v → v.ownBlock ≠ some k
def KeepA (b : Nat) (w w' : World) : Prop := ∀ k, ApartB b w k → ApartB b w' k ∧ w'.heap[k]? = w.heap[k]?
theorem KeepA.refl (b : Nat) (w : World) : KeepA b w w := fun _ h => ⟨h, rfl⟩
theorem KeepA.trans {b : Nat} {x y z : World} (h : KeepA b x y) (k : KeepA b y z) : KeepA b x z := fun i hi => ⟨(k i (h i hi).1).1, (k i (h i hi).1).2.trans (h i hi).2⟩
theorem KeepA.below {b : Nat} {x y : World} (hb : b < x.heap.size) (h : Below x.heap.size x y) : KeepA b x y := fun i hi =>
  ⟨⟨hi.1, Nat.lt_of_lt_of_le hi.2.1 h.size, fun v hv => hi.2.2 v (by rw [← hv]; exact (h.cell (p := ⟨b, 1, none⟩) hb).symm)⟩, h.block i hi.2.1⟩
theorem KeepA.set0 (b : Nat) (v : Value) (w : World) : KeepA b w (w.setCell ⟨b, 0, none⟩ v) := fun i hi => by
  refine ⟨⟨hi.1, by simpa [World.setCell] using hi.2.1, fun u hu => hi.2.2 u ?_⟩, heap_setCell_other v hi.1⟩
  rw [← hu]
  unfold World.cell?
  simp only [World.setCell, Array.getElem?_modify, if_true]
  cases w.heap[b]? with
  | none => rfl
  | some o => cases o <;> simp
theorem KeepA.app {b : Nat} {v v' : Value} {w w' : World} {p : Value} {T : TypeId} (hc : w.cell? ⟨b, 1, none⟩ = some v) (hg : w.grownBy w' v.ownBlock) (hb : w'.heap[b]? = some (.cells #[p, v] T (0, 0))) (ho : v'.ownBlock = v.ownBlock ∨ v'.ownBlock = some w.heap.size) : KeepA b w (w'.setCell ⟨b, 1, none⟩ v') := fun i hi => by
  have hne := hi.2.2 v hc
  refine ⟨⟨hi.1, ?_, fun u hu => ?_⟩, (heap_setCell_other v' hi.1).trans (hg.block i hi.2.1 (Ne.symm hne))⟩
  · have := hg.size; have := hi.2.1; simp [World.setCell]; omega
  · rw [cell_blk (heap_setCell_self v' hb)] at hu
    simp at hu
    subst hu
    rcases ho with h | h
    · rw [h]; exact hne
    · rw [h]; intro e; have := hi.2.1; simp at e; omega
theorem ApartB.new {B b : Nat} {bs : List Value} {w w' : World} (h : IsB B b bs w) (hb : Below w.heap.size w w') {k : Nat} (hk : w.heap.size ≤ k) (hk2 : k < w'.heap.size) : ApartB b w' k := by
  have hlt := h.lt
  refine ⟨by omega, hk2, fun v hv e => ?_⟩
  have hv2 : w.cell? ⟨b, 1, none⟩ = some v := by rw [← hv]; exact (hb.cell (p := ⟨b, 1, none⟩) hlt).symm
  have key : ∀ p, Lib.BuilderAt 54 5 B b p bs w → False := fun p ⟨_, v2, hbk, hown, _⟩ => by
    rw [cell_blk hbk] at hv2
    simp at hv2
    subst hv2
    have := (hown.lt k e).2
    omega
  exact h.elim (key _) (key _)
theorem check_apart (B b : Nat) (bs : List Value) (w : World) (h : IsB B b bs w) :
    Calls Tryd.prog 34 #[.pointer (some ⟨b, 0, none⟩)] w fun e w' => e = .returned (.tuple #[]) ∧ UsedB B b bs w' ∧ Below B w w' ∧ KeepA b w w' := by
  rcases h with h | h
  · exact (check_fresh b w h.cell0 h.shape h.frozen0).mono fun e w' ⟨he, hw⟩ => by
      subst hw
      exact ⟨he, h.used _, (Below.refl B w).setCell (p := ⟨b, 0, none⟩) h.1 _, KeepA.set0 _ _ _⟩
  · exact (check_used b w h.cell0).mono fun e w' ⟨he, hw⟩ => by
      subst hw
      exact ⟨he, h, Below.refl _ _, KeepA.refl _ _⟩
set_option maxRecDepth 100000 in
set_option maxHeartbeats 1000000 in
theorem writeStr_apart (B b : Nat) (bs : List Value) (s : ByteArray) (w : World) (h : IsB B b bs w) (hlen : bs.length + s.size ≤ 140737488355328) :
    Calls Tryd.prog 23 #[.pointer (some ⟨b, 0, none⟩), .string s] w fun e w' => e = .returned (.tuple #[.int .i64 s.size, .nilIface]) ∧ UsedB B b (bs ++ Lib.strCells s) w' ∧ Below B w w' ∧ KeepA b w w' := by
  obtain ⟨i0, hi, hz0, hz1, hz2⟩ := info_parts infoU8
  have HC : Hid (Calls Tryd.prog 34 #[.pointer (some ⟨b, 0, none⟩)] w fun e w' => e = .returned (.tuple #[]) ∧ UsedB B b bs w' ∧ Below B w w' ∧ KeepA b w w') := check_apart B b bs w h
  clear h
  go_enter Tryd.func23, Tryd.ntmps23
  go_wp2_with (go_at_call 34; refine HC.out.mono ?_)
  rintro e w1 ⟨rfl, h1, hb1, hk1⟩
  obtain ⟨hB, v, hbk, hown, hne⟩ := h1
  have hlt := lt_heap hbk
  have c1 : w1.cell? ⟨b, 1, none⟩ = some v := by rw [cell_blk hbk]; rfl
  go_wp2_with (at_builtin; refine wl_appS rfl _ _ 34 9 rfl B 5 i0 Tryd.underlying34 Tryd.underlying9 hi hz0 hz1 hz2 _ _ _ rfl hown s rfl ?c3 ?c4 ?c5 ?_)
  case c3 => unfold maxLen; omega
  case c4 => omega
  case c5 => omega
  intro v' w2 hown' hgrow hob
  have hb2 : w2.heap[b]? = some (.cells #[.pointer (some ⟨b, 0, none⟩), v] 54 (0, 0)) := by
    rw [hgrow.block b hlt (fun e => hne e.symm)]
    exact hbk
  have d1 : w2.cell? ⟨b, 1, none⟩ = some v := by rw [cell_blk hb2]; rfl
  have f1 : w2.frozen? ⟨b, 1, none⟩ = false := by simp [World.frozen?, hb2]
  obtain ⟨ao, n', cap, rfl⟩ : ∃ ao n' cap, v' = .slice ao n' cap := by
    rcases hown'.2 with ⟨hv, _⟩ | ⟨g, cap, cur, hv, _⟩
    · exact ⟨_, _, _, hv⟩
    · exact ⟨_, _, _, hv⟩
  go_wp2
  go_ret2
  refine ⟨rfl, ?_, ?_, ?_⟩
  · exact Lib.BuilderAt.put hB hb2 (bs' := bs ++ Lib.strCells s) (by simpa [Lib.strCells_length] using hown') (by decide)
  · exact (hb1.grown hgrow (by omega) (fun k hk => (hown.lt k hk).1)).setCell (p := ⟨b, 1, none⟩) hB _
  · exact hk1.trans (KeepA.app c1 hgrow hb2 hob)
end Go.Proofs.YtmbbhnbfgcmkgaaDoor
