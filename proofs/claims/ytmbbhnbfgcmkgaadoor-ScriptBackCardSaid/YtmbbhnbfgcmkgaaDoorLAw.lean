/- The acts of any text. -/
import Derived.Test.YtmbbhnbfgcmkgaaDoorLWh
namespace Go.Proofs.YtmbbhnbfgcmkgaaDoor
open Go.RowKit
theorem parse_small : ∀ (ps : List (List UInt8)) (out : List D4), (∀ y ∈ out, y.b.length ≤ 1300) → ∀ y ∈ (parseP out ps).1, y.b.length ≤ 1300
  | [], out, h => h
  | [r], out, h => by
    unfold parseP
    split
    · exact h
    · intro y hy; cases hy
  | p :: q :: ps, out, h => by
    rw [parseP_cons out p (List.cons_ne_nil q ps)]
    split
    · intro y hy; cases hy
    · split
      · intro y hy; cases hy
      · rename_i he
        refine parse_small (q :: ps) _ (fun y hy => ?_)
        rcases List.mem_append.1 hy with hy | hy
        · exact h y hy
        · simp only [List.mem_singleton] at hy
          subst hy
          exact (err_ok (line_forth (Decidable.not_not.1 he)).1).2.2.2.2.2.2
theorem parseP_few : ∀ (ps : List (List UInt8)) (out : List D4), (parseP out ps).1.length ≤ out.length + ps.length
  | [], out => by simp [parseP]
  | [r], out => by
    unfold parseP
    split <;> simp
  | p :: q :: ps, out => by
    rw [parseP_cons out p (List.cons_ne_nil q ps)]
    split
    · simp
    · split
      · simp
      · have := parseP_few (q :: ps) (out ++ [(lineL p).1])
        simp at this ⊢; omega
theorem parse_few (t : List UInt8) (h : t.length ≤ 900000) : (parseL t).1.length ≤ 1000000 := by
  have h1 := parseP_few (spl 10 t) []
  have h2 := spl_len 10 t
  unfold parseL
  simp at h1
  omega
theorem PPost.out {w w' : World} {r : List D4 × Nat × Int} {e : Ending} (h : PPost w r e w') : ∃ (q : Option Addr) (xs : List A4) (cap : Nat), e = .returned (.tuple #[.slice q xs.length cap, .int .i64 (r.2.1 : Nat), .int .i64 r.2.2]) ∧ xs.map A4.d = r.1 ∧ Acts w' q xs ∧ Below w.heap.size w w' := by
  obtain ⟨v, xs, rfl, hx, hp⟩ := h
  obtain ⟨q, cap, rfl, -, -, hsl, -⟩ := hp.own.at a4C_len
  exact ⟨q, xs, cap, rfl, hx, ⟨hsl, hp.ok⟩, hp.bel⟩
theorem RPost.out {w w' : World} {r : List D4 × Nat × Int} {e : Ending} (h : RPost w r e w') : ∃ (q : Option Addr) (cap : Nat), e = .returned (.tuple #[.slice q r.1.length cap, .int .i64 (r.2.1 : Nat), .int .i64 r.2.2]) ∧ SlAt d4C 4 w' q r.1 ∧ Below w.heap.size w w' := by
  obtain ⟨v, rfl, ho, hb⟩ := h
  obtain ⟨q, cap, rfl, -, -, hsl, -⟩ := ho.at d4C_len
  exact ⟨q, cap, rfl, hsl, hb⟩
set_option maxRecDepth 100000 in
set_option maxHeartbeats 16000000 in
theorem ScriptParses_walkJ (s : ByteArray) (m : Nat) (w : World) (hs : s.size ≤ 9223372036854775807) (hmin : min (s.size : Int) 6000 = (m : Int)) (hmx : MX w) (ht : TB w) :
    Calls Tryd.prog 4 #[.string s] w fun e w' => e = .returned (.bool true) ∧ Below w.heap.size w w' := by
  have HMX := Lib.hid hmx
  have HTB := Lib.hid ht
  have hm1 : (m : Int) ≤ s.size := by omega
  have hm0 : (0 : Int) ≤ m := by omega
  have htl : (s.extract 0 m).data.toList.length ≤ 6000 := by rw [szl, ByteArray.size_extract]; omega
  have HST : Hid ((⟨(s.extract 0 m).data.toList.toArray⟩ : ByteArray) = s.extract 0 m) := ba_data _
  generalize hst : s.extract 0 m = st at *
  generalize htt : st.data.toList = t at *
  have HStt := Lib.hid hst
  clear hmx ht htt
  have KP : Hid (∀ W, MX W → Calls Tryd.prog 17 #[.string st] W fun e w' => ∃ (q : Option Addr) (xs : List A4) (cap : Nat), e = .returned (.tuple #[.slice q xs.length cap, .int .i64 ((parseL t).2.1 : Nat), .int .i64 (parseL t).2.2]) ∧ xs.map A4.d = (parseL t).1 ∧ Acts w' q xs ∧ Below W.heap.size W w') := fun W hW => by
    rw [← HST.out]
    exact (parse_any t W (by omega) hW).mono fun e w' h => h.out
  have KR : Hid (∀ W, Calls Tryd.prog 18 #[.string st] W fun e w' => ∃ (q : Option Addr) (cap : Nat), e = .returned (.tuple #[.slice q (parseL t).1.length cap, .int .i64 ((parseL t).2.1 : Nat), .int .i64 (parseL t).2.2]) ∧ SlAt d4C 4 w' q (parseL t).1 ∧ Below W.heap.size W w') := fun W => by
    rw [← HST.out]
    exact (refParse_any t W (by omega)).mono fun e w' h => h.out
  have HPP : Hid ((parseL t).2.2 = 0 → printF 0 [] (parseL t).1 = (t, 0)) := fun h => (parse_print (n := (parseL t).2.1) (by rw [← h])).2
  have HSm : Hid (∀ y ∈ (parseL t).1, y.b.length ≤ 1300) := parse_small (spl 10 t) [] (fun y hy => by cases hy)
  have hpn : (parseL t).1.length ≤ 1000000 := parse_few t (by omega)
  generalize parseL t = P at *
  obtain ⟨pl, pn, pe⟩ := P
  simp only at KP KR HPP HSm hpn
  go_enter Tryd.func4, Tryd.ntmps4
  go_upto_region 2 with fail
  clear hst hm1 hm0 hmin
  go_upto_region 3 with (go_at_call 17; (refine (KP.out _ HMX.out).mono ?_); rintro e w1 ⟨q, xs, cap, rfl, hx, hA, hb1⟩)
  have HX := Lib.hid hx
  have HA := Lib.hid hA
  have HB := Lib.hid hb1
  have hxl : xs.length = pl.length := by rw [← hx, List.length_map]
  clear hx hA hb1 KP
  generalize hxn : xs.length = n at *
  have HXn := Lib.hid hxn
  generalize hpln : pl.length = pn2 at *
  have HPn := Lib.hid hpln
  clear hxn hpln
  obtain rfl : pn2 = n := hxl.symm
  clear hxl
  go_upto_region 4 with (go_at_call 18; (refine (KR.out _).mono ?_); rintro e w2 ⟨q2, cap2, rfl, hsl, hb2⟩)
  have HA2 := ka HA hb2
  have HB2 := bt HB hb2
  have HSl := Lib.hid hsl
  clear HA HB hb2 hsl KR
  have KS : Hid (Calls Tryd.prog 19 #[.slice q pn2 cap, .slice q2 pn2 cap2] w2 fun e w' => e = .returned (.bool true) ∧ Below w2.heap.size w2 w') := by
    have := same_any q xs pn2 cap q2 pl pn2 cap2 w2 HXn.out HPn.out hpn HA2.out HSl.out
    rwa [decide_eq_true HX.out] at this
  have KK : Hid (∀ W, Below w.heap.size w W → Calls Tryd.prog 16 #[] W fun e w' => e = .returned (.bool true) ∧ Below W.heap.size W w') := fun W hW => known_any W (HMX.out.below hW) (HTB.out.below hW)
  by_cases hpe : pe = 0
  · subst hpe
    have KPr : Hid (∀ W, Below w.heap.size w W → Acts W q xs → Calls Tryd.prog 8 #[.slice q pn2 cap] W fun e w' => e = .returned (.tuple #[.string st, .int .i64 0]) ∧ Below W.heap.size W w') := fun W hW hA => by
      have := print_any q xs pn2 cap W HXn.out hpn hA (fun x hx => by
        have := HSm.out x.d (by rw [← HX.out]; exact List.mem_map_of_mem hx)
        have e : x.d.b = x.b := rfl
        rw [e] at this; omega) (HTB.out.below hW)
      rw [HX.out, HPP.out rfl, HST.out] at this
      exact this
    have hself : (st.toList == st.toList) = true := by rw [beq_self_eq_true]
    go_wp2_with (first
      | (go_at_call 19; (refine KS.out.mono ?_); rintro e w3 ⟨rfl, hb3⟩; have HA3 := ka HA2 hb3; have HB3 := bt HB2 hb3; clear hb3)
      | (go_at_call 8; (refine (KPr.out _ HB3.out HA3.out).mono ?_); rintro e w4 ⟨rfl, hb4⟩; have HB4 := bt HB3 hb4; clear hb4)
      | (go_at_call 16; (refine (KK.out _ HB4.out).mono ?_); rintro e w5 ⟨rfl, hb5⟩; have HB5 := bt HB4 hb5; clear hb5))
    go_ret
    exact ⟨rfl, HB5.out⟩
  · have e1 : (pe == 0) = false := by simpa using hpe
    have e2 : (pe != 0) = true := by simpa using hpe
    clear hpe
    go_wp2_with (first
      | (go_at_call 19; (refine KS.out.mono ?_); rintro e w3 ⟨rfl, hb3⟩; have HB3 := bt HB2 hb3; clear hb3)
      | (go_at_call 16; (refine (KK.out _ HB3.out).mono ?_); rintro e w5 ⟨rfl, hb5⟩; have HB5 := bt HB3 hb5; clear hb5))
    go_ret
    exact ⟨rfl, HB5.out⟩
theorem ScriptParses_walkI (s : ByteArray) (w : World) (hs : s.size ≤ maxLen) (hmx : MX w) (ht : TB w) :
    Calls Tryd.prog 4 #[.string s] w fun e w' => e = .returned (.bool true) ∧ Below w.heap.size w w' :=
  ScriptParses_walkJ s (min s.size 6000) w (by unfold maxLen at hs; omega) (by omega) hmx ht
end Go.Proofs.YtmbbhnbfgcmkgaaDoor
