/- Plain: the document prints what request.Print prints; what was printed is read as it was. -/
import Derived.Test.YtbfefdedjcppaaaGreatDoorQA7
import Derived.Test.YtbfefdedjcppaaaGreatDoorPB7
namespace Go.Proofs.YtbfefdedjcppaaaGreatDoor
theorem lowB_nat {n : Int} (h : 0 ≤ n ∧ n ≤ 255) : lowB n = UInt8.ofNat n.toNat := by
 have e : n = ((UInt8.ofNat n.toNat).toNat : Int) := by rw [UInt8.toNat_ofNat']; omega
 conv => lhs; rw [e]
 exact lowB_u8' _
theorem hd_both {x : RpD} {m : Nat} (he : 0 ≤ x.err ∧ x.err ≤ 255) (hs : 0 ≤ x.st ∧ x.st ≤ 255) (hm : m ≤ 16) : hdB x m = headL x m := by
 unfold hdB headL
 rw [lowB_nat he, lowB_nat hs, lowB_nat (n := (m : Int)) (by omega)]
 rfl
theorem plainL_12 {b : List UInt8} (hb : b.length = 10) : (textB b).length ≤ 12 := by
 unfold textB
 split
 · unfold plainL
   split
   · decide
   · obtain ⟨h1, h2, h3⟩ := fT_small hb
     have hd : ∀ l : List UInt8, (dash l).length ≤ l.length + 1 := fun l => by unfold dash; split <;> simp
     have h4 := hd (fT b).script
     have h5 := hd (fT b).region
     unfold textT
     rw [List.length_append, List.length_append]
     omega
 · simp
theorem rp_small {x : RpD} {es : List Ev} (ht : x.text.size ≤ 1200) (hn : 0 ≤ x.n ∧ x.n ≤ 4294967295) (hm : es.length ≤ 16) (hok : ∀ v ∈ es, OkEv v) : (hdB x es.length ++ es.flatMap evB).length ≤ 4096 := by
 rw [← fdsB_rp]
 unfold rpF
 have h0 := plainL_12 x.lt
 have h00 : (tgT x.tag).length = (textB x.tag).length := rfl
 rw [fdsB_app, fdsB_hd, List.length_append]
 have h1 := evsB_len hok
 have h2 := small_le2 (n := x.text.size) (by omega)
 have h3 := small_le2 (n := (tgT x.tag).length) (by omega)
 have h4 := small_len64 (n := x.n.toNat) (by omega)
 unfold hdB
 simp only [List.length_append, List.length_cons, List.length_nil, Array.length_toList]
 have h5 : x.text.data.size = x.text.size := rfl
 omega
theorem doc_print (x : RpD) (es : List Ev) (hok : ∀ v ∈ es, OkEv v) : dprE x es = prE x es ∧ dprB x es = prB x es ∧ (prE x es = 0 → (0 ≤ x.err ∧ x.err ≤ 255) ∧ x.text.size ≤ 1200 ∧ rightT x.tag = true ∧ (0 ≤ x.st ∧ x.st ≤ 255) ∧ (0 ≤ x.n ∧ x.n ≤ 4294967295) ∧ es.length ≤ 16 ∧ es.all evOk = true ∧ prB x es = headL x es.length ++ es.flatMap evL) := by
 unfold dprB prB
 have key : dprE x es = prE x es ∧ (prE x es = 0 → (0 ≤ x.err ∧ x.err ≤ 255) ∧ x.text.size ≤ 1200 ∧ rightT x.tag = true ∧ (0 ≤ x.st ∧ x.st ≤ 255) ∧ (0 ≤ x.n ∧ x.n ≤ 4294967295) ∧ es.length ≤ 16 ∧ es.all evOk = true ∧ (prS x es).1 = headL x es.length ++ es.flatMap evL) := by
   unfold dprE prE
   by_cases h1 : x.err < 0 ∨ 255 < x.err
   · rw [if_pos h1, if_pos h1]; exact ⟨rfl, fun h => by cases h⟩
   rw [if_neg h1, if_neg h1]
   by_cases h2 : 1200 < x.text.size
   · rw [if_pos h2, if_pos h2]; exact ⟨rfl, fun h => by cases h⟩
   rw [if_neg h2, if_neg h2]
   by_cases h3 : rightT x.tag = false
   · rw [if_pos h3, if_pos h3]; exact ⟨rfl, fun h => by cases h⟩
   rw [if_neg h3, if_neg h3]
   by_cases h4 : x.st < 0 ∨ 255 < x.st ∨ x.n < 0 ∨ 4294967295 < x.n
   · rw [if_pos h4, if_pos h4]; exact ⟨rfl, fun h => by cases h⟩
   rw [if_neg h4, if_neg h4]
   by_cases h5 : 16 < es.length
   · rw [if_pos h5, if_pos h5]; exact ⟨rfl, fun h => by cases h⟩
   rw [if_neg h5, if_neg h5]
   by_cases h6 : es.all evOk = false
   · rw [if_pos h6, if_pos h6]; exact ⟨rfl, fun h => by cases h⟩
   rw [if_neg h6, if_neg h6]
   have hs := rp_small (x := x) (es := es) (by omega) (by omega) (by omega) hok
   rw [hd_both (by omega) (by omega) (by omega)] at hs
   have hp := prS_fit x es hs
   rw [hp]
   refine ⟨rfl, fun _ => ⟨by omega, by omega, ?_, by omega, by omega, by omega, ?_, rfl⟩⟩
   · cases h : rightT x.tag with | true => rfl | false => exact absurd h h3
   · cases h : es.all evOk with | true => rfl | false => exact absurd h h6
 obtain ⟨k1, k2⟩ := key
 rw [k1]
 refine ⟨rfl, ?_, fun h0 => ?_⟩
 · by_cases h0 : prE x es = 0
   · rw [if_pos h0, if_pos h0]
     obtain ⟨a1, a2, a3, a4, a5, a6, a7, a8⟩ := k2 h0
     rw [a8, fdsB_rp, hd_both a1 a4 a6]; rfl
   · rw [if_neg h0, if_neg h0]
 · rw [if_pos h0]; exact k2 h0
theorem num_fwd {n m : Nat} (h : n ≤ m) (h2 : n < 2 ^ 64) (r : List UInt8) : numE m (small n ++ r) = 0 ∧ numV m (small n ++ r) = n ∧ (small n ++ r).drop (numK m (small n ++ r)) = r := by
 have hr := read_small h2 r
 have he : numE m (small n ++ r) = 0 := by
   unfold numE
   rw [hr]
   simp only
   rw [if_neg (by decide), if_neg (by omega)]
 refine ⟨he, ?_, ?_⟩
 · unfold numV; rw [if_pos he, hr]
 · unfold numK; rw [if_pos he, hr]; exact List.drop_left
theorem text_fwd {s : List UInt8} {m : Nat} (h : s.length ≤ m) (hm : m < 2 ^ 64) (r : List UInt8) : textE m ((small s.length ++ s) ++ r) = 0 ∧ textS m ((small s.length ++ s) ++ r) = s ∧ ((small s.length ++ s) ++ r).drop (textN m ((small s.length ++ s) ++ r)) = r := by
 have hr := read_small (n := s.length) (by omega) (s ++ r)
 rw [← List.append_assoc] at hr
 have he : textE m ((small s.length ++ s) ++ r) = 0 := by
   unfold textE
   rw [hr]
   simp only
   rw [if_neg (by decide), if_neg (by omega), if_neg]
   simp only [List.length_append]
   omega
 refine ⟨he, ?_, ?_⟩
 · unfold textS
   rw [if_pos he, hr]
   simp only
   rw [List.append_assoc, List.drop_left, List.take_left]
 · unfold textN
   rw [if_pos he, hr]
   simp only
   rw [← List.length_append]; exact List.drop_left
theorem tag_fwd {b : List UInt8} (h : rightT b = true) : tagOk (textB b) = true ∧ tagR (textB b) = b := by
 have h1 := right_spec b
 rw [h] at h1
 have h2 := Bool.and_eq_true_iff.1 h1.symm
 have h3 : tagR (plainL b) = b := by simpa using h2.2
 have ht : textB b = plainL b := by unfold textB; rw [if_pos h]
 have hp : (parseT (plainL b)).isSome = true := by
   unfold rightT at h
   cases hx : parseT (plainL b) with
   | none => rw [hx] at h; cases h
   | some t => rfl
 rw [ht]
 refine ⟨?_, h3⟩
 unfold tagOk
 simp only [Bool.and_eq_true, decide_eq_true_eq]
 exact ⟨hp, by rw [h3]; exact ht⟩
theorem ev_ext {v u : Ev} (h1 : v.at_ = u.at_) (h2 : v.key = u.key) (h3 : v.dead = u.dead) (h4 : v.mark = u.mark) : v = u := by
 obtain ⟨a, b, c, d, e⟩ := v
 obtain ⟨a', b', c', d', e'⟩ := u
 simp only at h1 h2 h3 h4
 subst h1 h2 h3 h4; rfl
theorem ev_fwd {v : Ev} (hok : evOk v = true) (ho : OkEv v) (r : List UInt8) : evR (evL v ++ r) = ⟨v, r, 0, 0⟩ := by
 obtain ⟨h1, h2⟩ := ho
 have h64 : v.at_.toNat < 2 ^ 64 := by omega
 by_cases hm : v.mark = true
 · have hl : evL v ++ r = 2 :: (small v.at_.toNat ++ r) := by unfold evL; rw [if_pos hm]; rfl
   rw [hl]
   obtain ⟨n1, n2, n3⟩ := num_fwd (m := 18446744073709551615) (by omega) h64 r
   unfold evR
   rw [if_pos (show byteV (2 :: (small v.at_.toNat ++ r)) = 2 from rfl)]
   show eAt ⟨eV0 (2 :: (small v.at_.toNat ++ r)), small v.at_.toNat ++ r, 0, 0⟩ = _
   unfold eAt
   rw [if_pos rfl]
   simp only [n1, n2, n3]
   unfold evOk at hok
   rw [if_pos hm] at hok
   simp only [Bool.and_eq_true, Bool.not_eq_true', beq_iff_eq] at hok
   congr 1
   exact ev_ext (by show ((v.at_.toNat : Nat) : Int) = _; omega) hok.2.symm hok.1.symm hm.symm
 · have hm' : v.mark = false := by cases h : v.mark with | true => exact absurd h hm | false => rfl
   obtain ⟨b, hb⟩ : ∃ b : UInt8, (if v.dead = true then (1 : UInt8) else 0) = b := ⟨_, rfl⟩
   have hl : evL v ++ r = b :: (small v.at_.toNat ++ (v.key ++ r)) := by
     unfold evL; rw [if_neg hm, hb, List.cons_append, List.append_assoc]
   rw [hl]
   obtain ⟨n1, n2, n3⟩ := num_fwd (m := 18446744073709551615) (by omega) h64 (v.key ++ r)
   have hbv : b.toNat ≤ 1 ∧ (b.toNat == 1) = v.dead := by
     rw [← hb]
     cases v.dead <;> decide
   have hrk : rightK v.key = true := by unfold evOk at hok; rwa [if_neg hm] at hok
   have hk : eK0 (b :: (small v.at_.toNat ++ (v.key ++ r))) = ⟨[.int .i64 (b.toNat : Nat)], small v.at_.toNat ++ (v.key ++ r), 0, 0⟩ := by
     unfold eK0 sNum
     rw [if_pos rfl]
     show FS.mk _ _ _ (if (0 : Nat) = 0 then (if b.toNat < 0 ∨ 2 < b.toNat then 3 else 0) else 0) = _
     rw [if_pos rfl, if_neg (by omega)]; rfl
   unfold evR
   rw [if_neg (by show ¬ b.toNat = 2; omega), hk]
   have hA : eAt ⟨eV0 (b :: (small v.at_.toNat ++ (v.key ++ r))), small v.at_.toNat ++ (v.key ++ r), 0, 0⟩ = ⟨{ eV0 (b :: (small v.at_.toNat ++ (v.key ++ r))) with at_ := ((v.at_.toNat : Nat) : Int) }, v.key ++ r, 0, 0⟩ := by
     unfold eAt
     rw [if_pos rfl]
     simp only [n1, n2, n3]
   have hg : gotB (v.key ++ r) 25 = v.key := by
     unfold gotB
     rw [List.take_left' v.lkey, List.length_append, v.lkey, show 25 - (25 + r.length) = 0 by omega]
     simp
   have hend : endE (v.key ++ r) 25 = 0 := by
     unfold endE
     rw [if_pos (by rw [List.length_append, v.lkey]; omega)]
   have hdr : (v.key ++ r).drop 25 = r := List.drop_left' v.lkey
   show eKey (eAt _) = _
   rw [hA]
   unfold eKey
   rw [if_pos rfl]
   have e1 : rdKe v.key = 0 := by unfold rdKe; rw [if_pos hrk]
   have e2 : rdK v.key = v.key := by unfold rdK; rw [if_pos hrk]
   simp only [hg, hend, hdr, e1, if_true, ite_true]
   congr 1
   exact ev_ext (by show ((v.at_.toNat : Nat) : Int) = _; omega) e2 (by show (b.toNat == 1) = _; exact hbv.2) (by show (b.toNat == 2) = _; rw [hm']; simp; omega)
theorem evsN_shift : ∀ (k : Nat) (s : LS), evsN (k + 1) s = evsN k (evStep s)
 | 0, _ => rfl
 | k + 1, s => by
   show evStep (evsN (k + 1) s) = _
   rw [evsN_shift k s]; rfl
theorem evs_fwd : ∀ (es pre : List Ev) (r : List UInt8), es.all evOk = true → (∀ v ∈ es, OkEv v) → evsN es.length ⟨pre, es.flatMap evL ++ r, 0, 0⟩ = ⟨pre ++ es, r, 0, 0⟩
 | [], pre, r, _, _ => by simp [evsN]
 | v :: es, pre, r, h, ho => by
   rw [List.all_cons, Bool.and_eq_true] at h
   rw [List.length_cons, evsN_shift, List.flatMap_cons, List.append_assoc]
   have hs : evStep ⟨pre, evL v ++ (es.flatMap evL ++ r), 0, 0⟩ = ⟨pre ++ [v], es.flatMap evL ++ r, 0, 0⟩ := by
     unfold evStep
     rw [if_pos rfl, ev_fwd h.1 (ho v (by simp))]
   rw [hs, evs_fwd es (pre ++ [v]) r h.2 (fun u hu => ho u (by simp [hu])), List.append_assoc]; rfl
theorem rp_ext {x y : RpD} (h1 : x.err = y.err) (h2 : x.text = y.text) (h3 : x.tag = y.tag) (h4 : x.st = y.st) (h5 : x.n = y.n) : x = y := by
 obtain ⟨a, b, c, d, e, f⟩ := x
 obtain ⟨a', b', c', d', e', f'⟩ := y
 simp only at h1 h2 h3 h4 h5
 subst h1 h2 h3 h4 h5; rfl
theorem head_fwd {x : RpD} (he : 0 ≤ x.err ∧ x.err ≤ 255) (ht : x.text.size ≤ 1200) (hr : rightT x.tag = true) (hs : 0 ≤ x.st ∧ x.st ≤ 255) (hn : 0 ≤ x.n ∧ x.n ≤ 4294967295) (m : Nat) (r : List UInt8) : pF (headL x m ++ r) = ⟨x, lowB m :: r, 0, 0⟩ := by
 have hsz : x.text.data.toList.length = x.text.size := by simp
 obtain ⟨t1, t2, t3⟩ := text_fwd (s := x.text.data.toList) (m := 1200) (by omega) (by decide) ((small (textB x.tag).length ++ textB x.tag) ++ ([lowB x.st] ++ (small x.n.toNat ++ (lowB m :: r))))
 rw [hsz] at t1 t2 t3
 obtain ⟨g1, g2, g3⟩ := text_fwd (s := textB x.tag) (m := 12) (plainL_12 x.lt) (by decide) ([lowB x.st] ++ (small x.n.toNat ++ (lowB m :: r)))
 obtain ⟨k1, k2⟩ := tag_fwd hr
 obtain ⟨n1, n2, n3⟩ := num_fwd (n := x.n.toNat) (m := 4294967295) (by omega) (by omega) (lowB m :: r)
 have hl : headL x m ++ r = lowB x.err :: ((small x.text.size ++ x.text.data.toList) ++ ((small (textB x.tag).length ++ textB x.tag) ++ ([lowB x.st] ++ (small x.n.toNat ++ (lowB m :: r))))) := by
   unfold headL
   simp only [List.append_assoc, List.cons_append, List.nil_append]
 rw [hl]
 have e1 : ((lowB x.err).toNat : Int) = x.err := by rw [lowB_nat he, UInt8.toNat_ofNat']; omega
 have e2 : ((lowB x.st).toNat : Int) = x.st := by rw [lowB_nat hs, UInt8.toNat_ofNat']; omega
 have hb1 := (lowB x.err).toNat_lt
 have hb2 := (lowB x.st).toNat_lt
 unfold pF
 have hc : ∀ r' : List UInt8, pC0 (lowB x.err :: r') = ⟨[.int .i64 ((lowB x.err).toNat : Nat)], r', 0, 0⟩ := fun r' => by
   unfold pC0 sNum
   rw [if_pos rfl]
   show FS.mk _ _ _ (if (0 : Nat) = 0 then (if (lowB x.err).toNat < 0 ∨ 255 < (lowB x.err).toNat then 5 else 0) else 0) = _
   rw [if_pos rfl, if_neg (by omega)]; rfl
 rw [hc]
 show pdN (pdSt (pdTag (pdText ⟨_, _, 0, 0⟩))) = _
 unfold pdText
 rw [if_pos rfl]
 simp only [t1, t2, t3]
 unfold pdTag
 rw [if_pos rfl]
 simp only [g1, g2, g3, k1, if_true, ite_true]
 unfold pdSt
 rw [if_pos rfl]
 show pdN ⟨_, small x.n.toNat ++ (lowB m :: r), 0, if (0 : Nat) = 0 then (if (lowB x.st).toNat < 0 ∨ 255 < (lowB x.st).toNat then 5 else 0) else 0⟩ = _
 rw [if_pos rfl, if_neg (by omega)]
 unfold pdN
 rw [if_pos rfl]
 simp only [n1, n2, n3]
 congr 1
 exact rp_ext e1 rfl k2 e2 (by show ((x.n.toNat : Nat) : Int) = _; omega)
theorem prints_parse {x : RpD} {es : List Ev} (hok : ∀ v ∈ es, OkEv v) (h : prE x es = 0) : prsE (prB x es) = 0 ∧ prsD (prB x es) = x ∧ prsV (prB x es) = es ∧ (prB x es).length ≤ 4096 := by
 obtain ⟨a1, a2, a3, a4, a5, a6, a7, a8⟩ := (doc_print x es hok).2.2 h
 have hs := rp_small (x := x) (es := es) a2 a5 a6 hok
 rw [hd_both a1 a4 a6] at hs
 have hF := head_fwd a1 a2 a3 a4 a5 es.length (es.flatMap evL)
 rw [a8]
 have hlb : (lowB (es.length : Int)).toNat = es.length := by rw [lowB_nat (by omega), UInt8.toNat_ofNat']; omega
 have hpN : pN (pF (headL x es.length ++ es.flatMap evL)) = es.length := by
   rw [hF]
   show (if (0 : Nat) = 0 then (lowB (es.length : Int)).toNat else 0) = _
   rw [if_pos rfl, hlb]
 have hpN0 : pN0 (pF (headL x es.length ++ es.flatMap evL)) = ⟨[.int .i64 ((lowB (es.length : Int)).toNat : Nat)], es.flatMap evL, 0, 0⟩ := by
   rw [hF]
   unfold pN0 sNum
   rw [if_pos rfl]
   show FS.mk _ _ _ (if (0 : Nat) = 0 then (if (lowB (es.length : Int)).toNat < 0 ∨ 16 < (lowB (es.length : Int)).toNat then 2 else 0) else 0) = _
   rw [if_pos rfl, if_neg (by omega)]; rfl
 have hL : pL (headL x es.length ++ es.flatMap evL) = ⟨es, [], 0, 0⟩ := by
   unfold pL
   rw [hpN, hpN0]
   have := evs_fwd es [] [] a7 hok
   rw [List.append_nil, List.nil_append] at this
   exact this
 have hE : prsE (headL x es.length ++ es.flatMap evL) = 0 := by
   unfold prsE
   rw [hL]; rfl
 refine ⟨hE, ?_, ?_, hs⟩
 · unfold prsD; rw [if_pos hE, hF]
 · unfold prsV; rw [if_pos hE, hL]
end Go.Proofs.YtbfefdedjcppaaaGreatDoor
