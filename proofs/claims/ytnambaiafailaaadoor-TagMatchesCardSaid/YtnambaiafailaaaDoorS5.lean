/- The document's tags: kind, turn, cut. -/
import Derived.Test.YtnambaiafailaaaDoorR5
import Derived.Deep.QuietTactic
import Derived.IntWalk
import Derived.WalkMore
namespace Go.Proofs.YtnambaiafailaaaDoor
open Go.RowKit

def kindL (l : List UInt8) : Int := if l.all ltB then 1 else if l.all dgB then 2 else 0
theorem ret_i64 {a b : Int} (h : a = b) : Ending.returned (.int .i64 a) = .returned (.int .i64 b) := by rw [h]
theorem countP_snoc {α : Type} (p : α → Bool) (l : List α) (k : Nat) (h : k < l.length) : (l.take (k + 1)).countP p = (l.take k).countP p + if p l[k] then 1 else 0 := by
  rw [List.take_succ_eq_append_getElem h, List.countP_append, List.countP_singleton]
theorem count_all {α : Type} (p : α → Bool) (l : List α) : (l.countP p = l.length) ↔ l.all p = true := by
  rw [List.countP_eq_length, List.all_eq_true]
theorem kind_eq (l : List UInt8) : kindL l = if l.countP ltB = l.length then 1 else if l.countP dgB = l.length then 2 else 0 := by
  unfold kindL
  by_cases h : l.all ltB = true
  · rw [if_pos h, if_pos ((count_all _ _).2 h)]
  · rw [if_neg h, if_neg (fun e => h ((count_all _ _).1 e))]
    by_cases h2 : l.all dgB = true
    · rw [if_pos h2, if_pos ((count_all _ _).2 h2)]
    · rw [if_neg h2, if_neg (fun e => h2 ((count_all _ _).1 e))]
set_option maxRecDepth 100000 in
set_option maxHeartbeats 4000000 in
theorem kind_any (s : ByteArray) (w : World) (hs : s.size ≤ 1000000) :
    Calls Tryd.prog 43 #[.string s] w fun e w' => e = .returned (.int .i64 (kindL s.data.toList)) ∧ w = w' := by
  have HK := Lib.hid (kind_eq s.data.toList)
  have HC1 : Hid (∀ k (h : k < s.size), (s.data.toList.take (k + 1)).countP ltB = (s.data.toList.take k).countP ltB + if ltB s[k] then 1 else 0) := fun k h => by
    have := countP_snoc ltB s.data.toList k (by simpa using h)
    rwa [at_list s k h] at this
  have HC2 : Hid (∀ k (h : k < s.size), (s.data.toList.take (k + 1)).countP dgB = (s.data.toList.take k).countP dgB + if dgB s[k] then 1 else 0) := fun k h => by
    have := countP_snoc dgB s.data.toList k (by simpa using h)
    rwa [at_list s k h] at this
  have HL1 : Hid (∀ k, (s.data.toList.take k).countP ltB ≤ s.size) := fun k => by
    have h1 := List.countP_le_length (p := ltB) (l := s.data.toList.take k)
    have h2 := List.length_take_le' k s.data.toList
    have h3 : s.data.toList.length = s.size := by simp
    omega
  have HL2 : Hid (∀ k, (s.data.toList.take k).countP dgB ≤ s.size) := fun k => by
    have h1 := List.countP_le_length (p := dgB) (l := s.data.toList.take k)
    have h2 := List.length_take_le' k s.data.toList
    have h3 : s.data.toList.length = s.size := by simp
    omega
  go_enter Tryd.func43, Tryd.ntmps43
  go_wp2_with fail
  go_loop [3, 4, 5] (fun a b i => ∃ k : Nat, k ≤ s.size ∧ i = .int .i64 k ∧ a = .int .i64 ((s.data.toList.take k).countP ltB : Nat) ∧ b = .int .i64 ((s.data.toList.take k).countP dgB : Nat)) (fun _ _ i => s.size - (intOf i).toNat)
  case atStart => exact ⟨0, Nat.zero_le _, rfl, rfl, rfl⟩
  case round =>
    obtain ⟨k, hk, rfl, rfl, rfl⟩ := hrel
    by_cases hlt : k < s.size
    · have N1 := Lib.hid (HC1.out k hlt)
      have N2 := Lib.hid (HC2.out k hlt)
      have b1 := HL1.out k
      have b2 := HL2.out k
      have M1 := Lib.hid (ltB_int s[k])
      have M2 := Lib.hid (dgB_int s[k])
      have h0 : (0 : Int) ≤ (s[k].toNat : Int) := by omega
      have h255 := byte_lt s[k]
      generalize (s.data.toList.take k).countP ltB = n1 at *
      generalize (s.data.toList.take k).countP dgB = n2 at *
      by_cases h1 : (64 : Int) < (s[k].toNat : Int) <;> by_cases h2 : (s[k].toNat : Int) < 91 <;> by_cases h3 : (96 : Int) < (s[k].toNat : Int) <;> by_cases h4 : (s[k].toNat : Int) < 123 <;> by_cases h5 : (47 : Int) < (s[k].toNat : Int) <;> by_cases h6 : (s[k].toNat : Int) < 58
      all_goals
        first
          | (exfalso; omega)
          | (go_wp2_with fail
             go_round
             case rel =>
               have m1 := M1.out
               have m2 := M2.out
               have e1 : ltB s[k] = (decide (64 < (s[k].toNat : Int) ∧ (s[k].toNat : Int) < 91) || decide (96 < (s[k].toNat : Int) ∧ (s[k].toNat : Int) < 123)) := by rw [m1, Bool.eq_iff_iff]; simp; omega
               have e2 : dgB s[k] = decide (47 < (s[k].toNat : Int) ∧ (s[k].toNat : Int) < 58) := by rw [m2, Bool.eq_iff_iff]; simp; omega
               clear m1 m2
               simp only [h1, h2, h3, h4, h5, h6, and_self, and_true, and_false, decide_true, decide_false, Bool.or_true, Bool.or_false] at e1 e2
               exact ⟨k + 1, by omega, by go_num, by rw [N1.out, e1]; simp, by rw [N2.out, e2]; simp⟩
             case measure => simp [intOf]; omega)
    · obtain rfl : k = s.size := by omega
      have ht : s.data.toList.take s.size = s.data.toList := List.take_of_length_le (by simp)
      have hll : s.data.toList.length = s.size := by simp
      rw [hll] at HK
      rw [ht]
      clear HC1 HC2 HL1 HL2 ht hll
      generalize s.data.toList.countP ltB = n1 at *
      generalize s.data.toList.countP dgB = n2 at *
      by_cases g1 : n1 = s.size
      · have e1 : ((n1 : Int) == (s.size : Int)) = true := by rw [g1]; simp
        rw [if_pos g1] at HK
        clear g1
        go_wp2_with fail
        go_ret
        exact ⟨ret_i64 HK.out.symm, rfl⟩
      · have e1 : ((n1 : Int) == (s.size : Int)) = false := by rw [beq_eq_false_iff_ne]; omega
        rw [if_neg g1] at HK
        clear g1
        by_cases g2 : n2 = s.size
        · have e2 : ((n2 : Int) == (s.size : Int)) = true := by rw [g2]; simp
          rw [if_pos g2] at HK
          clear g2
          go_wp2_with fail
          go_ret
          exact ⟨ret_i64 HK.out.symm, rfl⟩
        · have e2 : ((n2 : Int) == (s.size : Int)) = false := by rw [beq_eq_false_iff_ne]; omega
          rw [if_neg g2] at HK
          clear g2
          go_wp2_with fail
          go_ret
          exact ⟨ret_i64 HK.out.symm, rfl⟩
/-- The first part, the rest, and whether there is one. -/
theorem cut_hit {s : ByteArray} {k : Nat} (hk : k < s.size) (h : ∀ j (h : j < s.size), j < k → s[j] ≠ 45) (he : s[k] = 45) : spl 45 s.data.toList = (s.extract 0 k).data.toList :: spl 45 (s.extract (k + 1) s.size).data.toList := by
  have e1 : (s.extract 0 k).data.toList = s.data.toList.take k := by rw [Lib.extract_data, List.drop_zero, Nat.sub_zero]
  have e2 : (s.extract (k + 1) s.size).data.toList = s.data.toList.drop (k + 1) := by rw [Lib.extract_data, List.take_of_length_le (by simp)]
  have hkl : k < s.data.toList.length := by simpa using hk
  have e : s.data.toList = s.data.toList.take k ++ 45 :: s.data.toList.drop (k + 1) := by
    conv => lhs; rw [← List.take_append_drop k s.data.toList, List.drop_eq_getElem_cons hkl, at_list s k hk, he]
  rw [e1, e2]
  conv => lhs; rw [e]
  refine spl_app _ fun c hc => ?_
  obtain ⟨j, hj, rfl⟩ := List.mem_iff_getElem.1 hc
  rw [List.length_take] at hj
  rw [List.getElem_take, at_list s j (by omega)]
  exact h j (by omega) (by omega)
theorem cut_miss {s : ByteArray} (h : ∀ j (h : j < s.size), s[j] ≠ 45) : spl 45 s.data.toList = [s.data.toList] := by
  refine spl_one fun c hc => ?_
  obtain ⟨j, hj, rfl⟩ := List.mem_iff_getElem.1 hc
  have hj' : j < s.size := by simpa using hj
  rw [at_list s j hj']
  exact h j hj'
def CutPost (s : ByteArray) (w : World) (e : Ending) (w' : World) : Prop :=
  Below w.heap.size w w' ∧ ((∃ p r : ByteArray, e = .returned (.tuple #[.string p, .string r, .bool true]) ∧ spl 45 s.data.toList = p.data.toList :: spl 45 r.data.toList ∧ p.size ≤ s.size ∧ r.size < s.size) ∨ (e = .returned (.tuple #[.string s, .string ⟨#[]⟩, .bool false]) ∧ spl 45 s.data.toList = [s.data.toList]))
theorem u8_45 {c : UInt8} : (c = 45) ↔ ((c.toNat : Int) = 45) := by
  constructor
  · rintro rfl; rfl
  · intro h
    apply UInt8.toNat_inj.1
    show c.toNat = 45
    omega
set_option maxRecDepth 100000 in
set_option maxHeartbeats 1000000 in
theorem cut_any5 (s : ByteArray) (w : World) (hs : s.size ≤ 1000000) :
    Calls Tryd.prog 42 #[.string s] w fun e w' => CutPost s w e w' := by
  have hbd : Below w.heap.size w w.drew := (Below.refl _ _).drew
  have HBd := Lib.hid hbd
  clear hbd
  have HH : Hid (∀ k (hk : k < s.size), (∀ j (h : j < s.size), j < k → s[j] ≠ 45) → s[k] = 45 → spl 45 s.data.toList = (s.extract 0 k).data.toList :: spl 45 (s.extract (k + 1) s.size).data.toList) := fun k hk h he => cut_hit hk h he
  have HM : Hid ((∀ j (h : j < s.size), s[j] ≠ 45) → spl 45 s.data.toList = [s.data.toList]) := cut_miss
  have hs' : (s.size : Int) ≤ 1000000 := by omega
  go_enter Tryd.func42, Tryd.ntmps42
  go_wp2_with fail
  go_loop [5] (fun i => ∃ k : Nat, k ≤ s.size ∧ i = .int .i64 k ∧ Hid (∀ j (h : j < s.size), j < k → s[j] ≠ 45)) (fun i => s.size - (intOf i).toNat)
  case atStart => exact ⟨0, Nat.zero_le _, rfl, fun j h hj => by omega⟩
  case round =>
    obtain ⟨k, hk, rfl, HA⟩ := hrel
    by_cases hlt : k < s.size
    · have hlt' : (k : Int) < s.size := by omega
      have hk0 : (0 : Int) ≤ (k : Int) := by omega
      by_cases he : s[k] = 45
      · have HS := Lib.hid (HH.out k hlt HA.out he)
        have he' : ((s[k].toNat : Int) == 45) = true := by rw [beq_iff_eq]; exact u8_45.1 he
        have hz1 : (k : Int) ≤ s.size := by omega
        have hz2 : (0 : Int) ≤ (k : Int) + 1 := by omega
        have hz3 : (k : Int) + 1 ≤ s.size := by omega
        have hz4 : IntKind.i64.wrap ((k : Int) + 1) = (k : Int) + 1 := IntWalk.i64_in _ (by omega)
        have hz5 : ((k : Int) + 1).toNat = k + 1 := by omega
        clear he
        go_upto_region 5 with fail
        go_quiet (fail)
        go_wp2_with fail
        refine bodyPost_ret (results_tmp3 rfl _ _ _) rfl ?_
        exact ⟨⟨rfl, rfl, rfl, Nat.le_refl _, fun _ _ => rfl⟩, .inl ⟨s.extract 0 k, s.extract (k + 1) s.size, rfl, HS.out, by rw [ByteArray.size_extract]; omega, by rw [ByteArray.size_extract]; omega⟩⟩
      · have he' : ((s[k].toNat : Int) == 45) = false := by rw [beq_eq_false_iff_ne]; exact fun h => he (u8_45.2 h)
        have HA2 : Hid (∀ j (h : j < s.size), j < k + 1 → s[j] ≠ 45) := fun j h hj => by
          rcases Nat.lt_or_ge j k with h1 | h1
          · exact HA.out j h h1
          · obtain rfl : j = k := by omega
            exact he
        clear he
        go_wp2_with fail
        go_round
        case rel => exact ⟨k + 1, by omega, by go_num, HA2.out⟩
        case measure => simp [intOf]; omega
    · obtain rfl : k = s.size := by omega
      have HS := Lib.hid (HM.out fun j h => HA.out j h h)
      go_wp2_with fail
      refine bodyPost_ret (results_tmp3 rfl _ _ _) rfl ?_
      exact ⟨Below.refl _ _, .inr ⟨rfl, HS.out⟩⟩

/-! A row of bytes that a call makes. -/
def enc1 (b : UInt8) : List Value := [.int .u8 (b.toNat : Int)]
theorem enc1_len (b : UInt8) : (enc1 b).length = 1 := rfl
theorem enc1_one (b : UInt8) : ∀ u ∈ enc1 b, u.oneCell' = true := fun u hu => by
  simp only [enc1, List.mem_singleton] at hu; subst hu; rfl
theorem enc1_flat (l : List UInt8) : l.flatMap enc1 = (bC l).toList := by
  induction l with
  | nil => rfl
  | cons b l ih => rw [List.flatMap_cons, ih]; simp [enc1, bC]
theorem infoU8 : (Tryd.prog.info? 5).map (fun i => (i.zero, i.size, i.bytes)) = some (some (.int .u8 0), 1, 1) := by kernel_rfl
section
variable {ops : Array Oper} {o : Oper} {rest : List Oper} {a : Act} {w : World} {Q : Exit → Act → World → Prop}
theorem app_B (hgd : o.guard = none) (s x : Operand) (ho : o.op = .call { callee := .builtin .append, args := #[s, x], argTypes := #[85, 85] })
    (base : Nat) (v : Value) (xs : List UInt8) (hs : a.eval s = v) (hown : OwnE enc1 5 1 w base v xs) (b c : Nat) (y : UInt8) (hx : a.eval x = .slice (some ⟨b, 0, none⟩) 1 c)
    (hr : w.rangeAt b 0 (enc1 y)) (hlen : xs.length ≤ 1000000) (hbase : base ≤ w.heap.size)
    (h : ∀ v' w', OwnE enc1 5 1 w' base v' (xs ++ [y]) → w.grownBy w' v.ownBlock → wpList Tryd.prog ops Q rest (a.put o.dst v') w') : wpList Tryd.prog ops Q (o :: rest) a w :=
  wl_app1 85 5 1 (.int .u8 0) Tryd.underlying85 infoU8 rfl (by omega) enc1_len enc1_one hgd s x ho base v xs hs hown b c y hx hr (by omega) (by unfold maxLen; omega) hbase h
end
theorem nil_str (w : World) : (convert 85 9 (.slice none 0 0)).run Tryd.prog w = .ok (.string ⟨#[]⟩) w := by kernel_rfl
theorem own_str {w : World} {base : Nat} {v : Value} {l : List UInt8} (h : OwnE enc1 5 1 w base v l) : (convert 85 9 v).run Tryd.prog w = .ok (.string ⟨l.toArray⟩) w := by
  obtain ⟨h1, ⟨rfl, h2⟩ | ⟨g, cap, cur, rfl, hg, hh, hc, hm, hs, ht⟩⟩ := h
  · obtain rfl := List.length_eq_zero_iff.1 h2
    exact nil_str w
  · refine conv_any w g 0 _ cap l rfl (fun j u hu => ?_)
    rw [Nat.zero_add, cell_blk hh]
    rw [← enc1_flat] at hu
    have hj := (List.getElem?_eq_some_iff.1 hu).1
    rw [← ht, List.getElem?_take_of_lt (by rw [← ht, List.length_take] at hj; omega)] at hu
    simpa using hu
theorem up_step (c : UInt8) : (upB c = if (96 : Int) < c.toNat ∧ (c.toNat : Int) < 123 then c - 32 else c) ∧ (loB c = if (64 : Int) < c.toNat ∧ (c.toNat : Int) < 91 then c + 32 else c) := by
  exact u8_all (p := fun c => (upB c = if (96 : Int) < c.toNat ∧ (c.toNat : Int) < 123 then c - 32 else c) ∧ (loB c = if (64 : Int) < c.toNat ∧ (c.toNat : Int) < 91 then c + 32 else c)) (by decide +kernel) c
def turnL (g : Bool) (l : List UInt8) : List UInt8 := l.map (if g then upB else loB)
theorem turn_snoc (g : Bool) (l : List UInt8) (k : Nat) (h : k < l.length) : turnL g (l.take (k + 1)) = turnL g (l.take k) ++ [(if g then upB else loB) l[k]] := by
  unfold turnL
  rw [List.take_succ_eq_append_getElem h, List.map_append]; rfl
set_option maxRecDepth 100000 in
set_option maxHeartbeats 4000000 in
theorem turn_any (s : ByteArray) (g : Bool) (w : World) (hs : s.size ≤ 1000000) :
    Calls Tryd.prog 44 #[.string s, .bool g] w fun e w' => e = .returned (.string ⟨(turnL g s.data.toList).toArray⟩) ∧ Below w.heap.size w w' := by
  have HT : Hid (∀ k (h : k < s.size), turnL g (s.data.toList.take (k + 1)) = turnL g (s.data.toList.take k) ++ [(if g then upB else loB) s[k]]) := fun k h => by
    have := turn_snoc g s.data.toList k (by simpa using h)
    rwa [at_list s k h] at this
  have HL : Hid (∀ k, (turnL g (s.data.toList.take k)).length ≤ 1000000) := fun k => by
    have h2 := List.length_take_le' k s.data.toList
    have h3 : s.data.toList.length = s.size := by simp
    unfold turnL; rw [List.length_map]; omega
  have HE : Hid (turnL g (s.data.toList.take s.size) = turnL g s.data.toList) := by
    show _ = _
    rw [List.take_of_length_le (by simp)]
  go_enter Tryd.func44, Tryd.ntmps44
  go_wp2_with fail
  go_loopw [5, 6] (fun v i wr => ∃ k : Nat, k ≤ s.size ∧ i = .int .i64 k ∧ Hid (OwnE enc1 5 1 wr w.heap.size v (turnL g (s.data.toList.take k))) ∧ Hid (Below w.heap.size w wr)) (fun _ i _ => s.size - (intOf i).toNat)
  case atStart => exact ⟨0, Nat.zero_le _, rfl, by rw [List.take_zero]; exact OwnE.nil _ _, Below.refl _ _⟩
  case round =>
    obtain ⟨k, hk, rfl, HO, HW⟩ := hrel
    by_cases hlt : k < s.size
    · have N1 := Lib.hid (HT.out k hlt)
      have hl1 := HL.out k
      have h0 : (0 : Int) ≤ (s[k].toNat : Int) := by omega
      have h255 := byte_lt s[k]
      have HO1 : Hid (∀ y : UInt8, OwnE enc1 5 1 (wr.alloc (.cells (enc1 y).toArray 5)) w.heap.size u5 (turnL g (s.data.toList.take k))) := fun y => HO.out.below (below_alloc1 _ _)
      have HU := Lib.hid (up_step s[k])
      have HZ : Hid (∀ y : UInt8, w.heap.size ≤ (wr.alloc (.cells (enc1 y).toArray 5)).heap.size) := fun y => by have := HW.out.size; simp; omega
      have HB1 : Hid (∀ (y : UInt8) (w' : World), (wr.alloc (.cells (enc1 y).toArray 5)).grownBy w' (Value.ownBlock u5) → Below w.heap.size w w') := fun y w' hg => (HW.out.trans ((below_alloc1 wr _).mono HW.out.size)).trans (grown_below hg (fun g' hg' => (HO.out.lt g' hg').1) (HZ.out y))
      by_cases h1 : (64 : Int) < (s[k].toNat : Int) <;> by_cases h2 : (s[k].toNat : Int) < 91 <;> by_cases h3 : (96 : Int) < (s[k].toNat : Int) <;> by_cases h4 : (s[k].toNat : Int) < 123
      all_goals first
        | (exfalso; omega)
        | skip
      all_goals
        cases g
        case false =>
          simp only [Bool.false_eq_true, if_false] at N1
          first
          | (have hc : loB s[k] = s[k] := (by rw [HU.out.2, if_neg (by omega)])
             rw [hc] at N1
             clear hc
             go_wp2_with (at_builtin; (refine app_B rfl _ _ rfl w.heap.size u5 (turnL false (s.data.toList.take k)) rfl (HO1.out s[k]) wr.heap.size 1 s[k] rfl (range_whole (heap_alloc_new _ _)) hl1 (HZ.out s[k]) ?_); intro v' w3 ho3 hg3)
             have hb3 := HB1.out s[k] w3 hg3
             go_roundw
             case rel => exact ⟨k + 1, by omega, by go_num, by rw [N1.out]; exact ho3, hb3⟩
             case measure => simp [intOf]; omega)
          | (have hy : (s[k].toNat : Int) + 32 = ((loB s[k]).toNat : Int) := (by rw [loB_int, if_pos (by omega)])
             have hy1 : (96 : Int) < ((loB s[k]).toNat : Int) := (by omega)
             have hy2 : ((loB s[k]).toNat : Int) < 123 := (by omega)
             generalize loB s[k] = y at *
             go_wp2_with (at_builtin; (refine app_B rfl _ _ rfl w.heap.size u5 (turnL false (s.data.toList.take k)) rfl (HO1.out y) wr.heap.size 1 y rfl (range_whole (heap_alloc_new _ _)) hl1 (HZ.out y) ?_); intro v' w3 ho3 hg3)
             have hb3 := HB1.out y w3 hg3
             go_roundw
             case rel => exact ⟨k + 1, by omega, by go_num, by rw [N1.out]; exact ho3, hb3⟩
             case measure => simp [intOf]; omega)
        case true =>
          simp only [if_true] at N1
          first
          | (have hc : upB s[k] = s[k] := (by rw [HU.out.1, if_neg (by omega)])
             rw [hc] at N1
             clear hc
             go_wp2_with (at_builtin; (refine app_B rfl _ _ rfl w.heap.size u5 (turnL true (s.data.toList.take k)) rfl (HO1.out s[k]) wr.heap.size 1 s[k] rfl (range_whole (heap_alloc_new _ _)) hl1 (HZ.out s[k]) ?_); intro v' w3 ho3 hg3)
             have hb3 := HB1.out s[k] w3 hg3
             go_roundw
             case rel => exact ⟨k + 1, by omega, by go_num, by rw [N1.out]; exact ho3, hb3⟩
             case measure => simp [intOf]; omega)
          | (have hy : (s[k].toNat : Int) - 32 = ((upB s[k]).toNat : Int) := (by rw [upB_int, if_pos (by omega)])
             generalize upB s[k] = y at *
             go_wp2_with (at_builtin; (refine app_B rfl _ _ rfl w.heap.size u5 (turnL true (s.data.toList.take k)) rfl (HO1.out y) wr.heap.size 1 y rfl (range_whole (heap_alloc_new _ _)) hl1 (HZ.out y) ?_); intro v' w3 ho3 hg3)
             have hb3 := HB1.out y w3 hg3
             go_roundw
             case rel => exact ⟨k + 1, by omega, by go_num, by rw [N1.out]; exact ho3, hb3⟩
             case measure => simp [intOf]; omega)
    · obtain rfl : k = s.size := by omega
      have hcv := own_str HO.out
      rw [HE.out] at hcv
      go_wp2_with fail
      go_ret
      exact ⟨rfl, HW.out⟩
end Go.Proofs.YtnambaiafailaaaDoor
