/- Rows of writes and of events: made, grown, cloned; SortStableFunc. -/
import Derived.Test.YtnafcbmpjjlhnaaK9
namespace Go.Proofs.Ytnafcbmpjjlhnaa
open Go.RowKit Go.Sort

theorem OwnE.slAt {α : Type} {enc : α → List Value} {k : Nat} (hk : ∀ x, (enc x).length = k) {E : TypeId} {w : World} {base n cap : Nat} {q : Option Addr} {xs : List α} (h : OwnE enc E k w base (.slice q n cap) xs) : SlAt enc k w q xs := by
  obtain ⟨q', cap', hv, _, _, hq, _⟩ := h.at hk
  simp only [Value.slice.injEq] at hv
  rw [hv.1]; exact hq
theorem slat_nil {α : Type} {enc : α → List Value} {k : Nat} {w : World} {xs : List α} (h : SlAt enc k w none xs) : xs = [] := by
  cases xs with
  | nil => rfl
  | cons y ys => obtain ⟨b, o, h1, _⟩ := h 0 (by simp); cases h1
def wr0 : Wr := ⟨List.replicate 25 0, false, [.int .u8 0, .int .u8 0, .int .u8 0, .int .u8 0, .int .u8 0, .bool false, .int .u32 0, .int .u64 0, .string ⟨#[]⟩], rfl, rfl, rfl⟩
theorem infoW : (Try.prog.info? 58).map (fun i => (i.zero, i.size, i.bytes)) = some (some (.agg (wrC wr0).toArray), 35, 72) := by kernel_rfl
theorem wrC_one' (x : Wr) : ∀ u ∈ wrC x, u.oneCell' = true := fun u hu => List.all_eq_true.1 (wrC_one x) u hu
/-- An event: when, which key, whether dead, whether a marker. -/
structure Ev where
  at_ : Int
  key : List UInt8
  dead : Bool
  mark : Bool
  lkey : key.length = 25
instance : Inhabited Ev := ⟨⟨0, List.replicate 25 0, false, false, rfl⟩⟩
def evC (x : Ev) : List Value := .int .u64 x.at_ :: ((bC x.key).toList ++ [.bool x.dead, .bool x.mark])
theorem evC_len (x : Ev) : (evC x).length = 28 := by simp [evC, bC, x.lkey]
theorem evC_one (x : Ev) : (evC x).all (·.oneCell') = true := by
  have h1 := bC_one x.key
  rw [← Array.all_toList] at h1
  simp only [evC, List.all_append, List.all_cons, h1, Bool.true_and, Bool.and_true, List.all_nil]
  rfl
theorem evC_one' (x : Ev) : ∀ u ∈ evC x, u.oneCell' = true := fun u hu => List.all_eq_true.1 (evC_one x) u hu
theorem sizEv : (Try.prog.info? 52).map (·.size) = some 28 := by kernel_rfl
theorem infoEv : (Try.prog.info? 52).map (fun i => (i.zero, i.size, i.bytes)) = some (some (.agg (evC default).toArray), 28, 40) := by kernel_rfl
theorem wr0_sz : (Value.agg (wrC wr0).toArray).cells.size = 35 := by show (wrC wr0).toArray.size = 35; simp [wrC_len]
theorem ev0_sz : (Value.agg (evC default).toArray).cells.size = 28 := by show (evC default).toArray.size = 28; simp [evC_len]
section
variable {ops : Array Oper} {o : Oper} {rest : List Oper} {a : Act} {w : World} {Q : Exit → Act → World → Prop}
theorem wl_appO {α : Type} {enc : α → List Value} {k : Nat} (hgd : o.guard = none) (T E : TypeId) (bytes : Nat) (z : Value) (hT : Try.prog.underlying T = some (.slice E)) (hinf : (Try.prog.info? E).map (fun i => (i.zero, i.size, i.bytes)) = some (some z, k, bytes)) (hzk : z.cells.size = k) (hk0 : 0 < k) (hk : ∀ x, (enc x).length = k) (h1 : ∀ x, ∀ u ∈ enc x, u.oneCell' = true)
    (s x : Operand) (ho : o.op = .call { callee := .builtin .append, args := #[s, x], argTypes := #[T, T] })
    (base : Nat) (v : Value) (xs : List α) (hs : a.eval s = v) (hown : OwnE enc E k w base v xs) (q : Option Addr) (m c : Nat) (ys : List α) (hx : a.eval x = .slice q m c) (hm : ys.length = m) (hq : SlAt enc k w q ys) (hq0 : q = none → c = 0)
    (hlen : (xs.length + m) * bytes ≤ 140737488355328) (hml : xs.length + m ≤ maxLen) (hbase : base ≤ w.heap.size)
    (h : ∀ v' w', OwnE enc E k w' base v' (xs ++ ys) → w.grownBy w' v.ownBlock → (v'.ownBlock = v.ownBlock ∨ v'.ownBlock = some w.heap.size) → wpList Try.prog ops Q rest (a.put o.dst v') w') : wpList Try.prog ops Q (o :: rest) a w :=
  wpList_plain hgd fun _ hK => op_app T E bytes z hT hinf hzk hk0 hk h1 s x ho base v xs hs hown q m c ys hx hm hq hq0 hlen hml hbase fun v' w' g1 g2 g3 => hK _ _ (h v' w' g1 g2 g3)
end
set_option maxRecDepth 100000 in
set_option maxHeartbeats 4000000 in
theorem cloneW_any (q : Option Addr) (n c : Nat) (xs : List Wr) (w : World) (hn : xs.length = n) (hq : SlAt wrC 35 w q xs) (hq0 : q = none → n = 0 ∧ c = 0) (hsz : n ≤ 1000000) :
    Calls Try.prog 16 #[.slice q n c] w fun e w' => ∃ v', e = .returned v' ∧ OwnE wrC 58 35 w' w.heap.size v' xs ∧ Below w.heap.size w w' := by
  have hql : ∀ (w : World) (a : Option Addr) (n c n' c' : Nat), (binOp .eql 42 (.slice a n c) (.slice none n' c')).run Try.prog w = .ok (.bool a.isNone) w := fun w a n c n' c' => Lib.run_eql_slice_nil w _ _ a n c n' c' Try.underlying42
  cases q with
  | none =>
    obtain rfl := slat_nil hq
    obtain ⟨rfl, rfl⟩ := hq0 rfl
    go_enter Try.func16, Try.ntmps16
    go_wp2_with fail
    go_ret
    exact ⟨_, rfl, OwnE.nil _ _, Below.refl _ _⟩
  | some ad =>
    have HN := Lib.hid hn
    have HQ : Hid (SlAt wrC 35 w (some ad) xs) := hq
    have HZ := Lib.hid hsz
    clear hn hq hq0 hsz
    go_enter Try.func16, Try.ntmps16
    go_wp2_with (at_builtin; refine wl_appO rfl 42 58 72 (.agg (wrC wr0).toArray) Try.underlying42 infoW wr0_sz (by omega) wrC_len wrC_one' (.tmp 5) (.tmp 6) rfl w.heap.size (.slice (some ⟨w.heap.size, 0, none⟩) 0 0) [] rfl (World.ownsRow_made w #[] 0 (Nat.le_refl _) (by unfold maxLen; omega) (by simp)) (some ad) n c xs rfl HN.out (HQ.out.below (below_alloc1 _ _)) (fun e => by cases e) (by have := HZ.out; simp; omega) (by have := HZ.out; unfold maxLen; simp; omega) (by simp) (fun v' w' hv hg _ => ?_); have HV := Lib.hid hv; have HG := Lib.hid hg; clear hv hg)
    go_ret
    exact ⟨_, rfl, HV.out, (below_alloc1 w _).trans (grown_below HG.out (fun g hg => by cases hg; exact Nat.le_refl _) (by simp))⟩
set_option maxRecDepth 100000 in
set_option maxHeartbeats 4000000 in
theorem cloneE_any (q : Option Addr) (n c : Nat) (xs : List Ev) (w : World) (hn : xs.length = n) (hq : SlAt evC 28 w q xs) (hq0 : q = none → n = 0 ∧ c = 0) (hsz : n ≤ 1000000) :
    Calls Try.prog 22 #[.slice q n c] w fun e w' => ∃ v', e = .returned v' ∧ OwnE evC 52 28 w' w.heap.size v' xs ∧ Below w.heap.size w w' := by
  have hql : ∀ (w : World) (a : Option Addr) (n c n' c' : Nat), (binOp .eql 47 (.slice a n c) (.slice none n' c')).run Try.prog w = .ok (.bool a.isNone) w := fun w a n c n' c' => Lib.run_eql_slice_nil w _ _ a n c n' c' Try.underlying47
  cases q with
  | none =>
    obtain rfl := slat_nil hq
    obtain ⟨rfl, rfl⟩ := hq0 rfl
    go_enter Try.func22, Try.ntmps22
    go_wp2_with fail
    go_ret
    exact ⟨_, rfl, OwnE.nil _ _, Below.refl _ _⟩
  | some ad =>
    have HN := Lib.hid hn
    have HQ : Hid (SlAt evC 28 w (some ad) xs) := hq
    have HZ := Lib.hid hsz
    clear hn hq hq0 hsz
    go_enter Try.func22, Try.ntmps22
    go_wp2_with (at_builtin; refine wl_appO rfl 47 52 40 (.agg (evC default).toArray) Try.underlying47 infoEv ev0_sz (by omega) evC_len evC_one' (.tmp 5) (.tmp 6) rfl w.heap.size (.slice (some ⟨w.heap.size, 0, none⟩) 0 0) [] rfl (World.ownsRow_made w #[] 0 (Nat.le_refl _) (by unfold maxLen; omega) (by simp)) (some ad) n c xs rfl HN.out (HQ.out.below (below_alloc1 _ _)) (fun e => by cases e) (by have := HZ.out; simp; omega) (by have := HZ.out; unfold maxLen; simp; omega) (by simp) (fun v' w' hv hg _ => ?_); have HV := Lib.hid hv; have HG := Lib.hid hg; clear hv hg)
    go_ret
    exact ⟨_, rfl, HV.out, (below_alloc1 w _).trans (grown_below HG.out (fun g hg => by cases hg; exact Nat.le_refl _) (by simp))⟩
set_option maxRecDepth 100000 in
set_option maxHeartbeats 4000000 in
theorem sortW_any (g cap : Nat) (d : Array Wr) (tail : List Value) (T : TypeId) (w : World) (hd : WRow w g d tail T) (hsz : d.size ≤ 20) :
    Calls Try.prog 17 #[.slice (some ⟨g, 0, none⟩) d.size cap, .func (.func 18) #[] #[]] w fun e w' =>
      e = .returned (.tuple #[]) ∧ WRow w' g (srtA d) tail T ∧ Turn [g] w w' := by
  have KS := Lib.hid (stable_any g cap d tail T w hd hsz)
  clear hd hsz
  go_enter Try.func17, Try.ntmps17
  go_wp2_with (go_at_call 23; (refine KS.out.mono ?_); rintro e W2 ⟨rfl, hw2, ht2⟩; have HW2 := Lib.hid hw2; have HT2 := Lib.hid ht2; clear hw2 ht2)
  go_end0
  exact ⟨rfl, HW2.out, HT2.out⟩
end Go.Proofs.Ytnafcbmpjjlhnaa
