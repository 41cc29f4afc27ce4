/- PluralPicks: the walk. -/
import Derived.Test.YtnambaiafailaaaDoorP7
namespace Go.Proofs.YtnambaiafailaaaDoor
open Go.RowKit

theorem cont_snoc (l : List Int) (k : Nat) (hk : k < l.length) (x : Int) : (l.take (k + 1)).contains x = ((l.take k).contains x || (l[k] == x)) := by
  have e : (x == l[k]) = (l[k] == x) := by rw [Bool.eq_iff_iff, beq_iff_eq, beq_iff_eq]; exact eq_comm
  rw [List.take_succ_eq_append_getElem hk, ← e]
  simp only [List.contains_eq_any_beq, List.any_append, List.any_cons, List.any_nil, Bool.or_false]
set_option maxRecDepth 100000 in
set_option maxHeartbeats 8000000 in
theorem PluralPicks_walkJ (b : List UInt8) (m : Int) (q : Option Addr) (l : List Int) (n n' cap : Nat) (w : World) (hb : b.length = 10) (hmx : MX w) (h0 : 0 ≤ m) (h1 : m ≤ 18446744073709551615) (hn : l.length = n') (hmin : min (n : Int) 10 = (n' : Int)) (hc : n ≤ cap) (hS : SlAt eI 1 w q l) :
    Calls Tryd.prog 9 #[.agg (bC b), .int .u64 m, .slice q n cap] w fun e w' => e = .returned (.bool true) ∧ Below w.heap.size w w' := by
  have hn10 : n' ≤ 10 := by omega
  have hn'c : (n' : Int) ≤ cap := by omega
  have hn'0 : (0 : Int) ≤ n' := by omega
  have HG0 : Hid ((w.alloc (.cells (bC b) 29)).heap[w.heap.size]? = some (.cells (bC b) 29 (0, 0))) := heap_alloc_new _ _
  have HB0 : Hid (Below w.heap.size w (w.alloc (.cells (bC b) 29))) := below_alloc1 _ _
  have HGr : Hid (∀ W : World, Calls Tryd.prog 27 #[.agg (bC b)] W fun e w' => e = .returned (.int .i64 ((grpL (langB b) : Nat) : Int)) ∧ Below W.heap.size W w') := fun W => group_any b W hb
  have HKn : Hid (∀ W, Below w.heap.size w W → Calls Tryd.prog 28 #[] W fun e w' => e = .returned (.bool true) ∧ Below W.heap.size W w') := fun W hW => known7_any W (hmx.below hW)
  have HRo : Hid (∀ (W : World), Calls Tryd.prog 34 #[.int .i64 ((grpL (langB b) : Nat) : Int), .int .u64 m] W fun e w' => e = .returned (.int .i64 (catI (grpL (langB b)) m)) ∧ W = w') := fun W => refOf_any _ m W (grpL_le _) h0 h1
  have HPk : Hid (∀ W, Below w.heap.size w W → Calls Tryd.prog 36 #[.agg (bC b), .int .u64 m, .slice q n' cap] W fun e w' => e = .returned (.tuple #[.int .i64 (pickC (catI (grpL (langB b)) m) l), .bool (pickB (catI (grpL (langB b)) m) l)]) ∧ Below W.heap.size W w') := fun W hW => pick_any b m q l n' cap W hb (hmx.below hW) h0 hn (by unfold maxLen; omega) (hS.below hW)
  have HS := Lib.hid hS
  have HN := Lib.hid hn
  have H10 := Lib.hid hb
  clear hb hmx hS hn hc
  generalize ((grpL (langB b) : Nat) : Int) = g at *
  generalize catI (grpL (langB b)) m = c at *
  go_enter Tryd.func9, Tryd.ntmps9
  go_wp2_with (first
    | (with_reducible refine ld_T rfl _ rfl w.heap.size b H10.out rfl HG0.out ?_)
    | (go_at_call 27; (refine (HGr.out _).mono ?_); rintro e w1 ⟨rfl, hb1⟩; have HB1 := Lib.hid (HB0.out.trans (hb1.mono HB0.out.size)); have HG1 : Hid (w1.heap[w.heap.size]? = some (.cells (bC b) 29 (0, 0))) := (by (show _ = _; rw [hb1.block _ (lt_heap HG0.out)]; exact HG0.out)); clear hb1)
    | (go_at_call 34; (refine (HRo.out _).mono ?_); rintro e w2 ⟨rfl, rfl⟩))
  clear HGr HRo HG0 HB0 hmin
  go_loop [8, 9, 10] (fun s8 s9 i => ∃ (k : Nat) (t1 t2 : Bool), k ≤ n' ∧ i = .int .i64 k ∧ s8 = .bool t1 ∧ s9 = .bool t2 ∧ Hid (t1 = (l.take k).contains c ∧ t2 = (l.take k).contains 5)) (fun _ _ i => n' - (intOf i).toNat)
  case atStart => exact ⟨0, false, false, Nat.zero_le _, rfl, rfl, rfl, by simp, by simp⟩
  case round =>
    obtain ⟨k, t1, t2, hk, rfl, rfl, rfl, HT⟩ := hrel
    by_cases hlt : k < n'
    · have hkl : k < l.length := by rw [HN.out]; exact hlt
      have HSn1 := Lib.hid (cont_snoc l k hkl c)
      have HSn2 := Lib.hid (cont_snoc l k hkl 5)
      obtain ⟨bb, o, rfl, hbb, hr⟩ := HS.out k hkl
      have hcell : w1.cell? ⟨bb, o + k, none⟩ = some (.int .i64 l[k]) := by
        have := hr 0 _ rfl
        rw [Nat.mul_one, Nat.add_zero] at this
        rw [HB1.out.cell (p := ⟨bb, o + k, none⟩) hbb]; exact this
      clear hr hbb
      generalize l[k] = y at *
      have hlt' : (k : Int) < n' := by omega
      have hk0 : (0 : Int) ≤ (k : Int) := by omega
      cases he1 : (y == c) <;> cases he2 : (y == 5) <;> cases t1 <;> cases t2
      all_goals
        first
          | (go_wp2_with fail
             go_round
             case rel => exact ⟨k + 1, _, _, by omega, by go_num, rfl, rfl, by rw [HSn1.out, ← HT.out.1, he1]; rfl, by rw [HSn2.out, ← HT.out.2, he2]; rfl⟩
             case measure => simp [intOf]; omega)
    · obtain rfl : k = n' := by omega
      have HE1 : Hid (t1 = l.contains c) := by show _ = _; rw [HT.out.1, List.take_of_length_le (by rw [HN.out]; omega)]
      have HE2 : Hid (t2 = l.contains 5) := by show _ = _; rw [HT.out.2, List.take_of_length_le (by rw [HN.out]; omega)]
      have HPC : Hid (pickC c l = if t1 then c else if t2 then 5 else 0) := by show _ = _; rw [HE1.out, HE2.out]; rfl
      have HPB : Hid (pickB c l = (t1 || t2)) := by show _ = _; rw [HE1.out, HE2.out]; rfl
      rw [HPC.out, HPB.out] at HPk
      clear HT HE1 HE2 HPC HPB
      have heq : ∀ (x : Int) (W : World), (binOp .eql 3 (.int .i64 x) (.int .i64 x)).run Tryd.prog W = .ok (.bool true) W := fun x W => by
        have h : (x == x) = true := by simp
        go_simp
      cases t1 <;> cases t2
      all_goals
        simp only [Bool.false_eq_true, if_true, if_false, Bool.or_true, Bool.or_false] at HPk
        go_wp2_with (first
          | (with_reducible refine ld_T rfl _ rfl w.heap.size b H10.out rfl HG1.out ?_)
          | (go_at_call 36; (refine (HPk.out _ HB1.out).mono ?_); rintro e w3 ⟨rfl, hb3⟩; have HB3 := Lib.hid (HB1.out.trans (hb3.mono HB1.out.size)); clear hb3)
          | (go_at_call 28; (refine (HKn.out _ HB3.out).mono ?_); rintro e w4 ⟨rfl, hb4⟩; have HB4 := Lib.hid (HB3.out.trans (hb4.mono HB3.out.size)); clear hb4))
        go_ret
        exact ⟨rfl, HB4.out⟩
theorem PluralPicks_walkI (b : List UInt8) (m : Int) (q : Option Addr) (l : List Int) (cap : Nat) (w : World) (hb : b.length = 10) (hmx : MX w) (h0 : 0 ≤ m) (h1 : m ≤ 18446744073709551615) (hc : l.length ≤ cap) (hS : SlAt eI 1 w q l) :
    Calls Tryd.prog 9 #[.agg (bC b), .int .u64 m, .slice q l.length cap] w fun e w' => e = .returned (.bool true) ∧ Below w.heap.size w w' :=
  PluralPicks_walkJ b m q (l.take 10) l.length (min l.length 10) cap w hb hmx h0 h1 (by rw [List.length_take]; omega) (by omega) hc (hS.take 10)
end Go.Proofs.YtnambaiafailaaaDoor
