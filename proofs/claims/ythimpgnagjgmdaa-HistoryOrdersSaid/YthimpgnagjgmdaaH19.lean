/- The merge in place of two runs of ints. -/
import Derived.Test.YthimpgnagjgmdaaH18
import Derived.Deep.DeepCutAuto
namespace Go.Proofs.Ythimpgnagjgmdaa
open Go.RowKit Go.Sort

theorem CloF.turn {bx g : Nat} {cF : Int → Int → Int} {V : Int → Prop} {w w' : World} (h : CloF bx g cF V w) (ht : Turn [g] w w') : CloF bx g cF V w' := fun W x y hW hx hy => h W x y (ht.trans hW) hx hy
theorem perm_V {V : Int → Prop} {a b n : Nat} {d d' : Array Int} (hp : PermIn a b d d') (hn : d.size = n) (hb : b ≤ n) (h : ∀ i, i < n → V d[i]!) : ∀ i, i < n → V d'[i]! := fun i hi => by
  by_cases c : a ≤ i ∧ i < b
  · exact permIn_all d d' a b V (by omega) hp (fun k h1 h2 => h k (by omega)) i c.1 c.2
  · rw [hp.2.1 i (by omega)]
    exact h i hi
theorem exec_subI {o : Oper} {a : Act} {w : World} (x y : Operand) (ho : o.op = .binOp .sub 3 x y 3) (m n : Nat) (hm : n ≤ m) (hm2 : m ≤ 1000000000) (hx : a.eval x = .int .i64 (m : Int)) (hy : a.eval y = .int .i64 (n : Int)) : (execOp a.eval o).run Try.prog w = .ok (.value (.int .i64 ((m - n : Nat) : Int))) w := by
  unfold execOp
  simp only [ho, hx, hy]
  simp [go_sem]
  rw [IntKind.wrap_i64] <;> omega
/-- What symMerge does, at ranges of up to f places. -/
def SymF (bx g cap n : Nat) (cF : Int → Int → Int) (V : Int → Prop) (tail : List Value) (T : TypeId) (f : Nat) : Prop :=
  ∀ (a m b : Nat) (d : Array Int) (w : World), b - a ≤ f → a < m → m < b → b ≤ n → d.size = n → (∀ i, i < n → V d[i]!) → CloF bx g cF V w → IRow w g d tail T →
    SortedIn (lt2 (ltF cF)) a m d → SortedIn (lt2 (ltF cF)) m b d → (∀ p q, a ≤ p → p < m → m ≤ q → q < b → d[p]! < d[q]!) →
    Calls Try.prog 37 #[.slice (some ⟨g, 0, none⟩) n cap, .int .i64 a, .int .i64 m, .int .i64 b, .func (.func 22) #[] #[.pointer (some ⟨bx, 0, none⟩)]] w fun e w' =>
      e = .returned (.tuple #[]) ∧ ∃ d', (PermIn a b d d' ∧ SortedIn (lt2 (ltF cF)) a b d') ∧ IRow w' g d' tail T ∧ Turn [g] w w'
set_option maxRecDepth 100000 in
set_option maxHeartbeats 8000000 in
theorem symM_any (bx g cap n a m b : Nat) (cF : Int → Int → Int) (V : Int → Prop) (d : Array Int) (tail : List Value) (T : TypeId) (w : World) (f : Nat) (hIH : SymF bx g cap n cF V tail T f) (hf : b - a ≤ f + 1) (hF : CloF bx g cF V w) (hV : ∀ i, i < n → V d[i]!) (hd : IRow w g d tail T) (hn : d.size = n) (ham : a + 1 < m) (hmb : m + 1 < b) (hb : b ≤ n) (hsz : n ≤ 1000000) (hS : SWO (ltF cF))
    (hlate : ∀ p q, a ≤ p → p < m → m ≤ q → q < b → d[p]! < d[q]!) (hs1 : SortedIn (lt2 (ltF cF)) a m d) (hs2 : SortedIn (lt2 (ltF cF)) m b d) :
    Calls Try.prog 37 #[.slice (some ⟨g, 0, none⟩) n cap, .int .i64 a, .int .i64 m, .int .i64 b, .func (.func 22) #[] #[.pointer (some ⟨bx, 0, none⟩)]] w fun e w' =>
      e = .returned (.tuple #[]) ∧ ∃ d', (PermIn a b d d' ∧ SortedIn (lt2 (ltF cF)) a b d') ∧ IRow w' g d' tail T ∧ Turn [g] w w' := by
  have HD := Lib.hid hd
  have HN := Lib.hid hn
  have HF := Lib.hid hF
  have HV := Lib.hid hV
  have HL := Lib.hid hlate
  have HS1 := Lib.hid hs1
  have HS2 := Lib.hid hs2
  have HS := Lib.hid hS
  have HI := Lib.hid hIH
  clear hd hn hF hV hlate hs1 hs2 hS hIH
  have hm1 : ((m : Int) - (a : Int) == 1) = false := by simp; omega
  have hm2 : ((b : Int) - (m : Int) == 1) = false := by simp; omega
  have KR : Hid (∀ (W : World) (s e : Nat), IRow W g d tail T → s < m → m < e → e ≤ n → Calls Try.prog 38 #[.slice (some ⟨g, 0, none⟩) n cap, .int .i64 s, .int .i64 m, .int .i64 e, .func (.func 22) #[] #[.pointer (some ⟨bx, 0, none⟩)]] W fun e2 w' =>
      e2 = .returned (.tuple #[]) ∧ ∃ d', (d'.size = n ∧ ∀ k, d'[k]! = rotF s m e d k) ∧ IRow w' g d' tail T ∧ Turn [g] W w') := fun W s e h1 h2 h3 h4 => rotI_any g cap n s m e _ d tail T W h1 HN.out h2 h3 h4 hsz
  go_enter Try.func37, Try.ntmps37
  go_upto_region 25 with fail
  obtain ⟨mid, hh⟩ : ∃ h : Nat, h = (a + b) / 2 := ⟨_, rfl⟩
  have he : ((a : Int) + (b : Int)) / 2 = (mid : Int) := by omega
  rw [he]
  have hmid1 : 2 * mid ≤ a + b := by omega
  have hmid2 : a + b ≤ 2 * mid + 1 := by omega
  clear he hh
  go_upto_region 26 with fail
  obtain ⟨N, hh⟩ : ∃ h : Nat, h = mid + m := ⟨_, rfl⟩
  have he : (mid : Int) + (m : Int) = (N : Int) := by omega
  rw [he]
  have hN1 : mid + m ≤ N := by omega
  have hN2 : N ≤ mid + m := by omega
  clear he hh
  go_upto_if 140 with fail
  go_cut [20, 21] (fun s20 s21 wx => ∃ s0 r0 : Nat, s20 = .int .i64 s0 ∧ s21 = .int .i64 r0 ∧ (Hid (IRow wx g d tail T) ∧ Hid (Turn [g] w wx)) ∧ a ≤ s0 ∧ s0 ≤ r0 ∧ r0 ≤ m ∧ r0 ≤ mid ∧ N ≤ b + s0 ∧ (s0 = a ∨ N = b + s0) ∧ (r0 = m ∨ r0 = mid))
  case first => as_aux_lemma =>
    by_cases hlt : mid < m
    · go_wp2_with fail
      go_meet
      case rel => exact ⟨N - b, mid, by go_num, rfl, ⟨HD, Turn.refl _ _⟩, by omega, by omega, by omega, by omega, by omega, Or.inr (by omega), Or.inr rfl⟩
    · go_wp2_with fail
      go_meet
      case rel => exact ⟨a, m, rfl, rfl, ⟨HD, Turn.refl _ _⟩, by omega, by omega, by omega, by omega, by omega, Or.inl rfl, Or.inl rfl⟩
  case rest =>
    obtain ⟨s0, r0, rfl, rfl, ⟨HW0, HT0⟩, has0, hsr0, hr0m, hr0d, hNb, hx0, hy0⟩ := hcut
    have HX0 := Lib.hid hx0
    have HY0 := Lib.hid hy0
    clear hx0 hy0
    go_upto_region 32 with fail
    obtain ⟨P, hh⟩ : ∃ h : Nat, N = h + 1 := ⟨N - 1, by omega⟩
    have he : (N : Int) - 1 = (P : Int) := by omega
    have hP1 : P + 1 ≤ N := by omega
    have hP2 : N ≤ P + 1 := by omega
    have HEe := Lib.hid he
    clear hh he
    go_wp2_with fail
    rw [HEe.out]
    go_loopw [20, 21, 23] (fun vi vj vh wr => ∃ (s r : Nat), vi = .int .i64 s ∧ vj = .int .i64 r ∧ s0 ≤ s ∧ s ≤ r ∧ r ≤ r0 ∧ Hid (s = s0 ∨ ltF cF d[N - s]! d[s - 1]! = false) ∧ Hid (r = r0 ∨ ltF cF d[P - r]! d[r]! = true) ∧ Hid (IRow wr g d tail T) ∧ Hid (Turn [g] w wr)) (fun vi vj _ _ => (intOf vj).toNat - (intOf vi).toNat)
    case atStart => exact ⟨s0, r0, rfl, rfl, by omega, by omega, by omega, Or.inl rfl, Or.inl rfl, HW0, HT0⟩
    case round =>
      clear HW0 HT0
      obtain ⟨s, r, rfl, rfl, hs0s, hsr, hrr0, HXs, HYr, HW, HT⟩ := hrel
      by_cases hlt : s < r
      · go_upto_region 35 with fail
        obtain ⟨h, hh⟩ : ∃ h : Nat, h = (s + r) / 2 := ⟨_, rfl⟩
        have he : ((s : Int) + (r : Int)) / 2 = (h : Int) := by omega
        rw [he]
        have hih : s ≤ h := by omega
        have hhj : h < r := by omega
        have hhn : h < n := by omega
        clear he hh
        have hPn : P - h < n := by omega
        have HX : Hid (wr.cell? ⟨g, 0 + (P - h) * 1, none⟩ = some (.int .i64 d[P - h]!)) := HW.out.cell (P - h) (by rw [HN.out]; exact hPn)
        have HY : Hid (wr.cell? ⟨g, 0 + h * 1, none⟩ = some (.int .i64 d[h]!)) := HW.out.cell h (by rw [HN.out]; exact hhn)
        have hVx := HV.out (P - h) hPn
        have hVy := HV.out h hhn
        obtain ⟨x, hx⟩ : ∃ x, x = d[P - h]! := ⟨_, rfl⟩
        obtain ⟨y, hy⟩ : ∃ y, y = d[h]! := ⟨_, rfl⟩
        rw [← hx] at HX hVx
        rw [← hy] at HY hVy
        have HXe := Lib.hid hx
        have HYe := Lib.hid hy
        clear hx hy
        obtain ⟨c, hc⟩ : ∃ c, c = cF x y := ⟨_, rfl⟩
        have HC := clo_at HF.out HT.out hVx hVy hc
        have HL0 : Hid (ltF cF x y = decide (c < 0)) := by rw [hc]; rfl
        clear hc
        cases hl : decide (c < 0)
        all_goals
          refine wp_region_quiet_below (by kernel_rfl) (by kernel_rfl) ?_
          repeat (first
            | (refine wq_val (.int .i64 ((P - h : Nat) : Int)) rfl (fun w => exec_subI (.tmp 160) (.tmp 161) rfl P h (by omega) (by omega) rfl rfl) ?_; simp only [Act.put, List.setIfInBounds_toArray, List.set_cons_zero, List.set_cons_succ])
            | (refine wq_ixI _ rfl (.tmp 159) (.tmp 162) rfl g n cap (P - h) rfl rfl hPn ?_; simp only [Act.put, List.setIfInBounds_toArray, List.set_cons_zero, List.set_cons_succ])
            | (refine wq_one rfl 3 (.tmp 163) rfl g (0 + (P - h) * 1) (.int .i64 x) ag3 rfl HX.out (lt_heap HW.out) ?_; simp only [Act.put, List.setIfInBounds_toArray, List.set_cons_zero, List.set_cons_succ])
            | (refine wq_one rfl 3 (.tmp 167) rfl g (0 + h * 1) (.int .i64 y) ag3 rfl HY.out (lt_heap HW.out) ?_; simp only [Act.put, List.setIfInBounds_toArray, List.set_cons_zero, List.set_cons_succ])
            | (refine wq_ixI _ rfl (.tmp 165) (.tmp 166) rfl g n cap h rfl rfl hhn ?_; simp only [Act.put, List.setIfInBounds_toArray, List.set_cons_zero, List.set_cons_succ])
            | go_big_quiet_step (first | (with_reducible exact rg_callB HC.out _ _)))
          refine wpQuiet_nil ?_
          rintro _ ⟨⟨dq, osq⟩, rfl⟩
          have hbel := below_regrown wr dq osq
          have HW2 := Lib.hid (HW.out.turn (hbel.block _ (lt_heap HW.out)))
          have HT2 := Lib.hid (HT.out.trans (Turn.of_below hbel))
          clear hbel HW HT HX HY HC hVx hVy
          generalize Sort.grow (redrawn wr dq) osq = W2 at *
          go_wp2_with fail
          go_roundw
        case rel => exact ⟨h + 1, r, by go_num, rfl, by omega, by omega, hrr0, Or.inr (by rw [show h + 1 - 1 = h from rfl, show N - (h + 1) = P - h by omega, ← HXe.out, ← HYe.out, HL0.out]; exact hl), HYr, HW2, HT2⟩
        case measure => simp [intOf]; omega
        case rel => exact ⟨s, h, rfl, rfl, hs0s, hih, by omega, HXs, Or.inr (by rw [← HXe.out, ← HYe.out, HL0.out]; exact hl), HW2, HT2⟩
        case measure => simp [intOf]; omega
      · obtain rfl : r = s := by omega
        go_upto_region 39 with fail
        obtain ⟨e, hh⟩ : ∃ h : Nat, h = N - r := ⟨_, rfl⟩
        have he : (N : Int) - (r : Int) = (e : Int) := by omega
        rw [he]
        have he1 : e + r ≤ N := by omega
        have he2 : N ≤ e + r := by omega
        have HX2 : Hid (r = s0 ∨ ltF cF d[e]! d[r - 1]! = false) := by rw [hh]; exact HXs
        have HY2 : Hid (r = r0 ∨ ltF cF d[e - 1]! d[r]! = true) := by rw [show e - 1 = P - r by omega]; exact HYr
        clear he hh HXs HYr
        have hrm : r ≤ m := by omega
        have hme : m ≤ e := by omega
        have heb : e ≤ b := by omega
        have hsm : r + (e - m) = mid := by omega
        have HSM := Lib.hid hsm
        clear hsm
        obtain ⟨z, hz⟩ : ∃ z, z = (decide (r < m) && decide (m < e)) := ⟨_, rfl⟩
        have HZ := Lib.hid hz
        clear hz
        have keep : ∀ (b1 : Bool), z = b1 → Hid (z = b1) := fun _ h => h
        go_cut [185] (fun s185 wx => s185 = .bool z ∧ Hid (IRow wx g d tail T) ∧ Hid (Turn [g] w wx))
        case first => as_aux_lemma =>
          by_cases c1 : r < m
          · by_cases c2 : m < e
            · have HZ1 := keep true (by rw [HZ.out]; simp [c1, c2])
              clear keep HZ
              go_wp2_with fail
              go_meet
              case rel => exact ⟨by rw [HZ1.out], HW, HT⟩
            · have HZ1 := keep false (by rw [HZ.out]; simp [c2])
              clear keep HZ
              go_wp2_with fail
              go_meet
              case rel => exact ⟨by rw [HZ1.out], HW, HT⟩
          · have HZ1 := keep false (by rw [HZ.out]; simp [c1])
            clear keep HZ
            go_wp2_with fail
            go_meet
            case rel => exact ⟨by rw [HZ1.out], HW, HT⟩
        case rest =>
          clear HW HT keep
          obtain ⟨rfl, HW, HT⟩ := hcut
          go_upto_if 185 with fail
          go_cut [] (fun wx => ∃ d2 : Array Int, Hid (d2.size = n ∧ ∀ k, d2[k]! = rotF r m e d k) ∧ Hid (IRow wx g d2 tail T) ∧ Hid (Turn [g] w wx))
          case first => as_aux_lemma =>
            cases z
            · go_wp2_with fail
              go_meet
              case rel =>
                refine ⟨d, ⟨HN.out, fun k => ?_⟩, HW, HT⟩
                have hz := HZ.out.symm
                simp only [Bool.and_eq_false_iff, decide_eq_false_iff_not] at hz
                rcases hz with hz | hz
                · have : r = m := by omega
                  rw [this]; exact rot_none m e d k
                · have : e = m := by omega
                  rw [this]; exact rot_nil r m d hrm k
            · have hz := HZ.out.symm
              simp only [Bool.and_eq_true, decide_eq_true_eq] at hz
              have hz1 := hz.1
              have hz2 := hz.2
              clear hz HZ
              go_wp2_with (go_at_call 38; (refine (KR.out _ r e HW.out hz1 hz2 (by omega)).mono ?_); rintro _ W2 ⟨rfl, d2, hd2, hw2, ht2⟩; have HD2 := Lib.hid hd2; have HW2 := Lib.hid hw2; have HT2 := Lib.hid ht2; clear hd2 hw2 ht2)
              go_meet
              case rel => exact ⟨d2, HD2, HW2, HT.out.trans HT2.out⟩
          case rest =>
            clear HW HT HZ
            obtain ⟨d2, HR, HW, HT⟩ := hcut
            have HP := Lib.hid (sym_parts (s := r) (e := e) (d2 := d2) (lt2_swo HS.out) HS1.out HS2.out (by omega) hrm hme heb (fun h1 h2 => by
                rcases HX2.out with h3 | h3
                · rcases HX0.out with h4 | h4 <;> omega
                · rw [lt2_late (HL.out (r - 1) e (by omega) (by omega) hme h2)]; exact h3) (fun h1 h2 => by
                rcases HY2.out with h3 | h3
                · have := HSM.out
                  rcases HY0.out with h4 | h4 <;> omega
                · rw [← lt2_late (lt := ltF cF) (HL.out r (e - 1) (by omega) h1 (by omega) (by omega))] at h3
                  cases h5 : lt2 (ltF cF) d[r]! d[e - 1]! with
                  | false => rfl
                  | true => have h6 := (lt2_swo HS.out).trans _ _ _ h5 h3; rw [(lt2_swo HS.out).irrefl] at h6; cases h6) HR.out.2)
            rw [HSM.out] at HP
            have HPm := Lib.hid (permIn_mono d d2 r e a b (by omega) heb (by rw [HN.out]; exact hb) (rot_perm (s := r) (m := m) (e := e) hrm hme (by rw [HN.out]; omega) (by rw [HR.out.1, HN.out]) HR.out.2))
            have HV2 := Lib.hid (perm_V HPm.out HN.out hb HV.out)
            have HL2 : Hid (∀ p q, a ≤ p → p < r → r ≤ q → q < mid → d2[p]! < d2[q]!) := fun p q h1 h2 h3 h4 => by
              have := HSM.out
              rw [HR.out.2 p, HR.out.2 q, rotF, if_neg (by omega), if_neg (by omega), rotF, if_pos (by omega)]
              exact HL.out _ _ h1 (by omega) (by omega) (by omega)
            have HL3 : Hid (∀ p q, mid ≤ p → p < e → e ≤ q → q < b → d2[p]! < d2[q]!) := fun p q h1 h2 h3 h4 => by
              have := HSM.out
              rw [HR.out.2 p, HR.out.2 q, rotF, if_neg (by omega), if_pos (by omega), rotF, if_neg (by omega), if_neg (by omega)]
              exact HL.out _ _ (by omega) (by omega) (by omega) h4
            go_upto_region 41 with fail
            obtain ⟨z2, hz⟩ : ∃ z, z = (decide (a < r) && decide (r < mid)) := ⟨_, rfl⟩
            have HZ := Lib.hid hz
            clear hz
            have keep : ∀ (b1 : Bool), z2 = b1 → Hid (z2 = b1) := fun _ h => h
            go_cut [199] (fun sx wx => sx = .bool z2 ∧ Hid (IRow wx g d2 tail T) ∧ Hid (Turn [g] w wx))
            case first => as_aux_lemma =>
              by_cases c1 : a < r
              · by_cases c2 : r < mid
                · have HZ1 := keep true (by rw [HZ.out]; simp [c1, c2])
                  clear keep HZ
                  go_wp2_with fail
                  go_meet
                  case rel => exact ⟨by rw [HZ1.out], HW, HT⟩
                · have HZ1 := keep false (by rw [HZ.out]; simp [c2])
                  clear keep HZ
                  go_wp2_with fail
                  go_meet
                  case rel => exact ⟨by rw [HZ1.out], HW, HT⟩
              · have HZ1 := keep false (by rw [HZ.out]; simp [c1])
                clear keep HZ
                go_wp2_with fail
                go_meet
                case rel => exact ⟨by rw [HZ1.out], HW, HT⟩
            case rest =>
              clear HW HT keep
              obtain ⟨rfl, HW, HT⟩ := hcut
              go_upto_if 199 with fail
              go_cut [] (fun wx => ∃ d3 : Array Int, Hid (PermIn a mid d2 d3 ∧ SortedIn (lt2 (ltF cF)) a mid d3) ∧ Hid (IRow wx g d3 tail T) ∧ Hid (Turn [g] w wx))
              case first => as_aux_lemma =>
                cases z2
                · go_wp2_with fail
                  go_meet
                  case rel =>
                    refine ⟨d2, ⟨permIn_refl d2 _ _, ?_⟩, HW, HT⟩
                    have hz := HZ.out.symm
                    simp only [Bool.and_eq_false_iff, decide_eq_false_iff_not] at hz
                    rcases hz with hz | hz
                    · have : a = r := by omega
                      have h9 := HP.out.2.1
                      rwa [← this] at h9
                    · have : r = mid := by omega
                      have h9 := HP.out.1
                      rwa [this] at h9
                · have hz := HZ.out.symm
                  simp only [Bool.and_eq_true, decide_eq_true_eq] at hz
                  have hz1 := hz.1
                  have hz2 := hz.2
                  clear hz HZ
                  go_wp2_with (go_at_call 37; (refine (HI.out a r mid d2 _ (by omega) hz1 hz2 (by omega) HR.out.1 HV2.out (HF.out.turn HT.out) HW.out HP.out.1 HP.out.2.1 HL2.out).mono ?_); rintro _ W2 ⟨rfl, d3, hd2, hw2, ht2⟩; have HD2 := Lib.hid hd2; have HW2 := Lib.hid hw2; have HT2 := Lib.hid ht2; clear hd2 hw2 ht2)
                  go_meet
                  case rel => exact ⟨d3, HD2, HW2, HT.out.trans HT2.out⟩
              case rest =>
                clear HW HT HZ
                obtain ⟨d3, HD3, HW, HT⟩ := hcut
                have HN3 : Hid (d3.size = n) := by show _ = _; rw [HD3.out.1.1]; exact HR.out.1
                have HV3 := Lib.hid (perm_V HD3.out.1 HR.out.1 (by omega) HV2.out)
                have he3 : ∀ p, mid ≤ p → d3[p]! = d2[p]! := fun p h => HD3.out.1.2.1 p (Or.inr h)
                have HE3 := Lib.hid he3
                clear he3
                go_upto_region 43 with fail
                obtain ⟨z3, hz⟩ : ∃ z, z = (decide (mid < e) && decide (e < b)) := ⟨_, rfl⟩
                have HZ := Lib.hid hz
                clear hz
                have keep : ∀ (b1 : Bool), z3 = b1 → Hid (z3 = b1) := fun _ h => h
                go_cut [213] (fun sx wx => sx = .bool z3 ∧ Hid (IRow wx g d3 tail T) ∧ Hid (Turn [g] w wx))
                case first => as_aux_lemma =>
                  by_cases c1 : mid < e
                  · by_cases c2 : e < b
                    · have HZ1 := keep true (by rw [HZ.out]; simp [c1, c2])
                      clear keep HZ
                      go_wp2_with fail
                      go_meet
                      case rel => exact ⟨by rw [HZ1.out], HW, HT⟩
                    · have HZ1 := keep false (by rw [HZ.out]; simp [c2])
                      clear keep HZ
                      go_wp2_with fail
                      go_meet
                      case rel => exact ⟨by rw [HZ1.out], HW, HT⟩
                  · have HZ1 := keep false (by rw [HZ.out]; simp [c1])
                    clear keep HZ
                    go_wp2_with fail
                    go_meet
                    case rel => exact ⟨by rw [HZ1.out], HW, HT⟩
                case rest =>
                  clear HW HT keep
                  obtain ⟨rfl, HW, HT⟩ := hcut
                  go_upto_if 213 with fail
                  have fin : ∀ d4, PermIn mid b d3 d4 → SortedIn (lt2 (ltF cF)) mid b d4 → PermIn a b d d4 ∧ SortedIn (lt2 (ltF cF)) a b d4 := fun d4 h1 h2 => by
                    have h3 := sym_done HP.out.2.2.2.2 (by omega) (by omega) (by rw [HR.out.1]; exact hb) HD3.out.1 HD3.out.2 h1 h2
                    exact ⟨permIn_trans _ _ _ _ _ HPm.out h3.1, h3.2⟩
                  have HFin := Lib.hid fin
                  clear fin
                  cases z3
                  · go_wp2_with fail
                    go_end0
                    refine ⟨rfl, d3, HFin.out d3 (permIn_refl d3 _ _) ?_, HW.out, HT.out⟩
                    intro p q h1 h2 h3
                    rw [HE3.out p h1, HE3.out q (by omega)]
                    have hz := HZ.out.symm
                    simp only [Bool.and_eq_false_iff, decide_eq_false_iff_not] at hz
                    have := HSM.out
                    rcases hz with hz | hz
                    · exact HP.out.2.2.2.1 p q (by omega) h2 h3
                    · exact HP.out.2.2.1 p q h1 h2 (by omega)
                  · have hz := HZ.out.symm
                    simp only [Bool.and_eq_true, decide_eq_true_eq] at hz
                    have hz1 := hz.1
                    have hz2 := hz.2
                    clear hz HZ
                    go_wp2_with (go_at_call 37; (refine (HI.out mid e b d3 _ (by omega) hz1 hz2 hb HN3.out HV3.out (HF.out.turn HT.out) HW.out (fun p q h1 h2 h3 => by rw [HE3.out p h1, HE3.out q (by omega)]; exact HP.out.2.2.1 p q h1 h2 h3) (fun p q h1 h2 h3 => by rw [HE3.out p (by omega), HE3.out q (by omega)]; exact HP.out.2.2.2.1 p q h1 h2 h3) (fun p q h1 h2 h3 h4 => by rw [HE3.out p h1, HE3.out q (by omega)]; exact HL3.out p q h1 h2 h3 h4)).mono ?_); rintro _ W2 ⟨rfl, d4, hd2, hw2, ht2⟩; have HD4 := Lib.hid hd2; have HW4 := Lib.hid hw2; have HT4 := Lib.hid ht2; clear hd2 hw2 ht2)
                    go_end0
                    exact ⟨rfl, d4, HFin.out d4 HD4.out.1 HD4.out.2, HW4.out, HT.out.trans HT4.out⟩
end Go.Proofs.Ythimpgnagjgmdaa
