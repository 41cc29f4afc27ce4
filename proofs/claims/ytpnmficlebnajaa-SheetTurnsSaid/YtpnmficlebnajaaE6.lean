/- behind. -/
import Derived.Test.YtpnmficlebnajaaE5
import Derived.Test.YtpnmficlebnajaaGX
namespace Go.Proofs.Ytpnmficlebnajaa
open Go.RowKit

theorem sizN : (Try.prog.info? 40).map (·.size) = some 12 := by kernel_rfl
theorem bCl (n : List UInt8) : (bC n).toList.length = n.length := by simp [bC]
theorem toArr (n : List UInt8) : ((bC n).toList).toArray = bC n := by simp [bC]
section
variable {ops : Array Oper} {o : Oper} {rest : List Oper} {a : Act}
theorem ld_N {w : World} {Q : Exit → Act → World → Prop} (hw : Region.wanted o (yielded ops a.tmps) = true) (x : Operand) (ho : o.op = .load 40 x) (b i : Nat) (n : List UInt8) (hn : n.length = 12) (hx : a.eval x = .pointer (some ⟨b, i, none⟩)) (hc : w.rangeAt b i (bC n).toList)
    (h : wpList Try.prog ops Q rest (a.put o.dst (.agg (bC n))) w) : wpList Try.prog ops Q (o :: rest) a w :=
  wl_ldr hw _ x ho b i (bC n).toList _ Try.underlying40 rfl (by rw [sizN, bCl, hn]) hx hc (by rw [toArr]; exact h)
theorem wq_N {W : World} {Q : Act → Prop} (hw : Region.wanted o (yielded ops a.tmps) = true) (x : Operand) (ho : o.op = .load 40 x) (b i : Nat) (n : List UInt8) (hn : n.length = 12) (hx : a.eval x = .pointer (some ⟨b, i, none⟩)) (hc : W.rangeAt b i (bC n).toList) (hb : b < W.heap.size)
    (h : wpQuiet Try.prog ops (fun w' => ∃ p : Regrown, w' = Sort.grow (redrawn W p.d) p.os) Q rest (a.put o.dst (.agg (bC n)))) : wpQuiet Try.prog ops (fun w' => ∃ p : Regrown, w' = Sort.grow (redrawn W p.d) p.os) Q (o :: rest) a :=
  wq_ldr hw _ x ho b i (bC n).toList _ Try.underlying40 rfl (by rw [sizN, bCl, hn]) hx hc hb (by rw [toArr]; exact h)
end
theorem ent_name {w : World} {b o : Nat} {x : Ent} (h : w.rangeAt b o (entC x)) : w.rangeAt b o (bC x.n).toList := range_app_left h
theorem ent_text {w : World} {b o : Nat} {x : Ent} (h : w.rangeAt b o (entC x)) : w.cell? ⟨b, o + 12, none⟩ = some (.string x.t) := h 12 _ (by simp [entC, bC, x.hn])

set_option maxRecDepth 100000 in
set_option maxHeartbeats 2000000 in
theorem behind_any (q : Option Addr) (l : List Ent) (x : Ent) (n cap : Nat) (w : World) (hn : l.length = n) (hc : n ≤ cap) (hm : cap ≤ maxLen) (hq : SlAt entC 13 w q l) (hs : x.t.size ≤ maxLen) :
    Calls Try.prog 26 #[.slice q n cap, .agg (entC x).toArray] w fun e w' => e = .returned (.int .i64 (behindE l x : Nat)) ∧ Below w.heap.size w w' := by
  unfold maxLen at hm hs
  have hs' : (x.t.size : Int) ≤ 9223372036854775807 := by omega
  have hR0 : (w.alloc (.cells (entC x).toArray 44)).rangeAt w.heap.size 0 (entC x) := range_whole (heap_alloc_new _ _)
  have HRN := Lib.hid (ent_name hR0)
  have hct : (w.alloc (.cells (entC x).toArray 44)).cell? ⟨w.heap.size, 12, none⟩ = some (.string x.t) := by have := ent_text hR0; simpa using this
  have HB0 : Hid (Below w.heap.size w (w.alloc (.cells (entC x).toArray 44))) := below_alloc1 _ _
  have HXN := Lib.hid x.hn
  have HQ := Lib.hid hq
  have HN := Lib.hid hn
  have HR : Hid (∀ W : World, Calls Try.prog 44 #[.agg (bC x.n)] W fun e w' => e = .returned (.bool (rightB x.n)) ∧ Below W.heap.size W w') := fun W => right_any x.n W x.hn
  have HE : Hid (behindE l x = if 16 ≤ n then 2 else if rightB x.n = false then 15 else if 60 < x.t.size then 2 else match l.getLast? with | some y => if lessL y.n x.n then 0 else 8 | none => 0) := by
    show behindE l x = _
    rw [behindE, hn]; rfl
  clear hn hq hR0
  by_cases h16 : 16 ≤ n
  · rw [if_pos h16] at HE
    rw [HE.out]
    have h16' : (16 : Int) ≤ n := by omega
    go_enter Try.func26, Try.ntmps26
    go_wp2_with fail
    go_ret
    exact ⟨rfl, HB0.out⟩
  · rw [if_neg h16] at HE
    have h16' : (n : Int) < 16 := by omega
    cases hr : rightB x.n
    · rw [if_pos hr] at HE
      rw [hr] at HR
      rw [HE.out]
      clear hr
      go_enter Try.func26, Try.ntmps26
      go_wp2_with (first
        | (with_reducible refine ld_N rfl _ rfl w.heap.size 0 x.n HXN.out rfl HRN.out ?_)
        | (go_at_call 44; (with_reducible refine (HR.out _).mono ?_); rintro e w1 ⟨rfl, hb1⟩))
      go_ret
      exact ⟨rfl, HB0.out.trans (hb1.mono HB0.out.size)⟩
    · rw [if_neg (by rw [hr]; simp)] at HE
      rw [hr] at HR
      clear hr
      have HK : Hid (∀ W, Below (w.heap.size + 1) (w.alloc (.cells (entC x).toArray 44)) W → W.cell? ⟨w.heap.size, 12, none⟩ = some (.string x.t)) := fun W hW => (cellB hW (by omega)).trans hct
      by_cases h60 : 60 < x.t.size
      · rw [if_pos h60] at HE
        rw [HE.out]
        have h60' : (60 : Int) < x.t.size := by omega
        go_enter Try.func26, Try.ntmps26
        go_wp2_with (first
          | (with_reducible refine ld_N rfl _ rfl w.heap.size 0 x.n HXN.out rfl HRN.out ?_)
          | (go_at_call 44; (with_reducible refine (HR.out _).mono ?_); rintro e w1 ⟨rfl, hb1⟩; have hct1 := HK.out w1 (hb1.mono (by simp))))
        go_ret
        exact ⟨rfl, HB0.out.trans (hb1.mono HB0.out.size)⟩
      · rw [if_neg h60] at HE
        have h60' : (x.t.size : Int) ≤ 60 := by omega
        rcases Nat.eq_zero_or_pos n with rfl | hpos
        · have hl : l = [] := List.length_eq_zero_iff.1 HN.out
          subst hl
          rw [HE.out]
          go_enter Try.func26, Try.ntmps26
          go_upto_region 7 with (first
            | (with_reducible refine ld_N rfl _ rfl w.heap.size 0 x.n HXN.out rfl HRN.out ?_)
            | (go_at_call 44; (with_reducible refine (HR.out _).mono ?_); rintro e w1 ⟨rfl, hb1⟩; have hct1 := HK.out w1 (hb1.mono (by simp))))
          refine wp_region_quiet_below (by kernel_rfl) (by kernel_rfl) ?_
          repeat go_big_quiet_step (fail)
          refine wpQuiet_nil ?_
          rintro _ ⟨⟨dq, osq⟩, rfl⟩
          go_wp2_with fail
          go_ret
          exact ⟨rfl, (HB0.out.trans (hb1.mono HB0.out.size)).trans ((below_regrown w1 dq osq).mono (by have := HB0.out.size; have := hb1.size; omega))⟩
        · obtain ⟨m, rfl⟩ : ∃ m, n = m + 1 := ⟨n - 1, by omega⟩
          have hml : m < l.length := by rw [HN.out]; omega
          obtain ⟨b, ob, rfl, hb, hry⟩ := HQ.out m hml
          have hlast : l.getLast? = some l[m] := by
            rw [List.getLast?_eq_getElem?, HN.out]; simp
          rw [hlast] at HE
          have HE2 : Hid (behindE l x = if lessL l[m].n x.n = true then 0 else 8) := HE.out
          clear HE
          have HYN : Hid (l[m].n.length = 12) := l[m].hn
          have HYR := Lib.hid (ent_name hry)
          have HL : Hid (∀ W : World, Calls Try.prog 45 #[.agg (bC l[m].n), .agg (bC x.n)] W fun e w' => e = .returned (.bool (lessL l[m].n x.n)) ∧ Below W.heap.size W w') := fun W => less_any _ _ W l[m].hn x.hn
          have hs1 : IntKind.i64.wrap ((m : Int) + 1 - 1) = m := by rw [IntWalk.i64_in _ (by omega)]; omega
          have hs2 : IntKind.i64.wrap (m : Int) = m := by rw [IntWalk.i64_in _ (by omega)]
          have hmp : (0 : Int) < (m : Int) + 1 := by omega
          have hmd : decide ((0 : Int) < (m : Int) + 1) = true := decide_eq_true hmp
          clear hlast hry
          generalize l[m].n = yn at *
          cases hll : lessL yn x.n
          all_goals
            rw [hll] at HL HE2
            rw [HE2.out]
            clear hll
            go_enter Try.func26, Try.ntmps26
            go_upto_region 7 with (first
              | (with_reducible refine ld_N rfl _ rfl w.heap.size 0 x.n HXN.out rfl HRN.out ?_)
              | (go_at_call 44; (with_reducible refine (HR.out _).mono ?_); rintro e w1 ⟨rfl, hb1⟩; have hct1 := HK.out w1 (hb1.mono (by simp))))
            have hW1 : Below w.heap.size w w1 := HB0.out.trans (hb1.mono HB0.out.size)
            have HY1 : Hid (w1.rangeAt b (ob + m * 13) (bC yn).toList) := range_of_block HYR.out (hW1.block b hb)
            have HX1 : Hid (w1.rangeAt w.heap.size 0 (bC x.n).toList) := range_of_block HRN.out (hb1.block _ (by simp))
            have HBl : Hid (b < w1.heap.size ∧ w.heap.size < w1.heap.size) := by
              have := hW1.size; have := hb1.size; simp at this
              exact ⟨by omega, by omega⟩
            refine wp_region_quiet_below (by kernel_rfl) (by kernel_rfl) ?_
            repeat (first
              | (with_reducible refine wq_N rfl _ rfl b (ob + m * 13) yn HYN.out rfl HY1.out HBl.out.1 ?_; simp only [Act.put, List.setIfInBounds_toArray, List.set_cons_zero, List.set_cons_succ])
              | (with_reducible refine wq_N rfl _ rfl w.heap.size 0 x.n HXN.out rfl HX1.out HBl.out.2 ?_; simp only [Act.put, List.setIfInBounds_toArray, List.set_cons_zero, List.set_cons_succ])
              | go_big_quiet_step (with_reducible exact rg_call HL.out _ _))
            refine wpQuiet_nil ?_
            rintro _ ⟨⟨dq, osq⟩, rfl⟩
            go_wp2_with fail
            go_ret
            exact ⟨rfl, hW1.trans ((below_regrown w1 dq osq).mono hW1.size)⟩
end Go.Proofs.Ytpnmficlebnajaa
