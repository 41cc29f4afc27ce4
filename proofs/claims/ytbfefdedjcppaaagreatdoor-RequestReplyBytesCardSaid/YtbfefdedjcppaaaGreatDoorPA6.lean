/- request.Parse: what it reads (plain), and its steps. -/
import Derived.Test.YtbfefdedjcppaaaGreatDoorEV6
namespace Go.Proofs.YtbfefdedjcppaaaGreatDoor
open Go.RowKit Go.Deep
structure PD where
 d : RpD
 l : List UInt8
 er : Nat
 ef : Nat
def PD.fs (x : PD) (u : Value) : FS := ⟨ryC x.d u, x.l, x.er, x.ef⟩
def pdText (x : PD) : PD := if x.ef = 0 then ⟨{ x.d with text := ⟨(textS 1200 x.l).toArray⟩ }, x.l.drop (textN 1200 x.l), textE 1200 x.l, textE 1200 x.l⟩ else x
def pdTag (x : PD) : PD := if x.ef = 0 then ⟨if tagOk (textS 12 x.l) = true then { x.d with tag := tagR (textS 12 x.l), lt := tagR_len _ } else x.d, x.l.drop (textN 12 x.l), textE 12 x.l, if textE 12 x.l = 0 then (if tagOk (textS 12 x.l) = true then 0 else 14) else textE 12 x.l⟩ else x
def pdSt (x : PD) : PD := if x.ef = 0 then ⟨{ x.d with st := (byteV x.l : Nat) }, x.l.drop (byteK x.l), byteE x.l, if byteE x.l = 0 then (if byteV x.l < 0 ∨ 255 < byteV x.l then 5 else 0) else byteE x.l⟩ else x
def pdN (x : PD) : PD := if x.ef = 0 then ⟨{ x.d with n := (numV 4294967295 x.l : Nat) }, x.l.drop (numK 4294967295 x.l), numE 4294967295 x.l, numE 4294967295 x.l⟩ else x
theorem ry_text (d : RpD) (u : Value) (s : ByteArray) : RowIn (ryC d u) 1 [.string s] = ryC { d with text := s } u := rfl
theorem ry_tag (d : RpD) (u : Value) (g : List UInt8) (hg : g.length = 10) : RowIn (ryC d u) 2 (bC g).toList = ryC { d with tag := g, lt := hg } u := by
 have h1 : (bC g).toList.length = 10 := by simp [bC, hg]
 have h2 : (bC d.tag).toList.length = 10 := by simp [bC, d.lt]
 unfold RowIn ryC rpC
 rw [h1]
 simp only [List.cons_append, List.nil_append, List.append_assoc, List.take_succ_cons, List.take_zero, show 2 + 10 = 10 + 1 + 1 from rfl, List.drop_succ_cons]
 rw [List.drop_left' h2]
theorem ry_late (d : RpD) (u : Value) (j : Nat) (v : Value) (hj : 12 ≤ j) : RowIn (ryC d u) j [v] = [.int .i64 d.err, .string d.text] ++ ((bC d.tag).toList ++ RowIn ([.int .i64 d.st, .int .i64 d.n] ++ [u]) (j - 12) [v]) := by
 have h2 : (bC d.tag).toList.length = 10 := by simp [bC, d.lt]
 have e : ryC d u = ([.int .i64 d.err, .string d.text] ++ (bC d.tag).toList) ++ ([.int .i64 d.st, .int .i64 d.n] ++ [u]) := by simp [ryC, rpC]
 have h12 : ([Value.int .i64 d.err, .string d.text] ++ (bC d.tag).toList).length = 12 := by rw [List.length_append, h2]; rfl
 unfold RowIn
 rw [e, List.take_append, List.take_of_length_le (by omega), h12, List.drop_append, List.drop_eq_nil_of_le (by rw [h12]; simp; omega), h12, List.nil_append]
 simp only [List.append_assoc, List.length_cons, List.length_nil]
 rw [show j + (0 + 1) - 12 = j - 12 + (0 + 1) by omega]
theorem ry_st (d : RpD) (u : Value) (n : Int) : RowIn (ryC d u) 12 [.int .i64 n] = ryC { d with st := n } u := by
 rw [ry_late d u 12 _ (by decide)]; simp [ryC, rpC, RowIn]
theorem ry_n (d : RpD) (u : Value) (n : Int) : RowIn (ryC d u) 13 [.int .i64 n] = ryC { d with n := n } u := by
 rw [ry_late d u 13 _ (by decide)]; simp [ryC, rpC, RowIn]
theorem pdTag_fs (x : PD) (u : Value) : sTag 2 (x.fs u) = (pdTag x).fs u := by
 unfold sTag pdTag
 by_cases h : x.ef = 0
 · rw [if_pos (show (x.fs u).ef = 0 from h), if_pos h]
   unfold PD.fs
   simp only
   by_cases ht : tagOk (textS 12 x.l) = true
   · simp only [if_pos ht]; rw [ry_tag _ _ _ (tagR_len _)]
   · simp only [if_neg ht]
 · rw [if_neg (show ¬ (x.fs u).ef = 0 from h), if_neg h]
theorem pdSt_fs (x : PD) (u : Value) : sNum 12 0 255 5 (x.fs u) = (pdSt x).fs u := by
 unfold sNum pdSt
 by_cases h : x.ef = 0
 · rw [if_pos (show (x.fs u).ef = 0 from h), if_pos h]; unfold PD.fs; rw [ry_st]
 · rw [if_neg (show ¬ (x.fs u).ef = 0 from h), if_neg h]
theorem ptext_any (br bf bt b4 : Nat) (x : PD) (u : Value) (w : World) (h : StF w br bf bt 59 (x.fs u)) (hb : BoxIs w b4 (.pointer (some ⟨bf, 0, none⟩)) 84) (hbt : br < bt ∧ bt ≠ bf) :
   Calls Tryz.prog 26 #[.pointer (some ⟨bf, 0, none⟩), .func (.func 47) #[] #[.pointer (some ⟨b4, 0, none⟩), .pointer (some ⟨bt, 0, none⟩)]] w (Stepped br bf bt 59 ((pdText x).fs u) w) := by
 unfold pdText
 by_cases he : x.ef = 0
 · rw [if_pos he]
   have hf : FAt w br bf x.l x.er x.ef := h.fa
   rw [he, show x.er = 0 from h.ok he] at hf
   refine (ftake_any 47 #[.pointer (some ⟨b4, 0, none⟩), .pointer (some ⟨bt, 0, none⟩)] (enters_of Tryz.func47 (by kernel_rfl) rfl) br bf x.l _ _ _ [br, bf, bt] _ w hf (by simp)
     (fun W v hW => by rw [heap_setCell_other _ hbt.2]; exact hW) (ptext1_any br bf bt b4 (ryC x.d u) _ x.l w hf hb h.at_ (by rw [ryC_len]; decide) hbt)).mono fun e w' ⟨h1, h2, h3, h4⟩ => ⟨h1, ⟨?_, ?_, fun h0 => h0⟩, h3⟩
   · rwa [show (if textE 1200 x.l = 0 then 0 else textE 1200 x.l) = textE 1200 x.l by split <;> omega] at h2
   · rw [ry_text] at h4; exact h4
 · rw [if_neg he]
   exact (ftake_bad _ br bf x.l x.er x.ef w h.fa he).mono fun e w' ⟨h1, h2⟩ => by subst h2; exact ⟨h1, h, Turn.refl _ _⟩
theorem pnum_any (br bf bt b4 : Nat) (x : PD) (u : Value) (w : World) (h : StF w br bf bt 59 (x.fs u)) (hb : BoxIs w b4 (.pointer (some ⟨bf, 0, none⟩)) 84) (hbt : br < bt ∧ bt ≠ bf) :
   Calls Tryz.prog 26 #[.pointer (some ⟨bf, 0, none⟩), .func (.func 50) #[] #[.pointer (some ⟨b4, 0, none⟩), .pointer (some ⟨bt, 0, none⟩)]] w (Stepped br bf bt 59 ((pdN x).fs u) w) := by
 unfold pdN
 by_cases he : x.ef = 0
 · rw [if_pos he]
   have hf : FAt w br bf x.l x.er x.ef := h.fa
   rw [he, show x.er = 0 from h.ok he] at hf
   refine (ftake_any 50 #[.pointer (some ⟨b4, 0, none⟩), .pointer (some ⟨bt, 0, none⟩)] (enters_of Tryz.func50 (by kernel_rfl) rfl) br bf x.l _ _ _ [br, bf, bt] _ w hf (by simp)
     (fun W v hW => by rw [heap_setCell_other _ hbt.2]; exact hW) (pnum2_any br bf bt b4 (ryC x.d u) _ x.l w hf hb h.at_ (by rw [ryC_len]; decide) hbt)).mono fun e w' ⟨h1, h2, h3, h4⟩ => ⟨h1, ⟨?_, ?_, fun h0 => h0⟩, h3⟩
   · rwa [show (if numE 4294967295 x.l = 0 then 0 else numE 4294967295 x.l) = numE 4294967295 x.l by split <;> omega] at h2
   · rw [ry_n] at h4; exact h4
 · rw [if_neg he]
   exact (ftake_bad _ br bf x.l x.er x.ef w h.fa he).mono fun e w' ⟨h1, h2⟩ => by subst h2; exact ⟨h1, h, Turn.refl _ _⟩
def pC0 (l : List UInt8) : FS := sNum 0 0 255 5 ⟨[.int .i64 0], l, 0, 0⟩
def pF (l : List UInt8) : PD := pdN (pdSt (pdTag (pdText ⟨{ zeroR with err := (byteV l : Nat) }, (pC0 l).l, (pC0 l).er, (pC0 l).ef⟩)))
def pN0 (x : PD) : FS := sNum 0 0 16 2 ⟨[.int .i64 0], x.l, x.er, x.ef⟩
def pN (x : PD) : Nat := if x.ef = 0 then byteV x.l else 0
structure LS where
 evs : List Ev
 l : List UInt8
 er : Nat
 ef : Nat
def evStep (s : LS) : LS := if s.ef = 0 then ⟨s.evs ++ [(evR s.l).v], (evR s.l).l, (evR s.l).er, (evR s.l).ef⟩ else s
def evsN : Nat → LS → LS
 | 0, s => s
 | k + 1, s => evStep (evsN k s)
def pL (l : List UInt8) : LS := evsN (pN (pF l)) ⟨[], (pN0 (pF l)).l, (pN0 (pF l)).er, (pN0 (pF l)).ef⟩
def prsE (l : List UInt8) : Nat := if (pL l).ef = 0 ∧ (pL l).l ≠ [] then 3 else (pL l).ef
def prsD (l : List UInt8) : RpD := if prsE l = 0 then (pF l).d else zeroR
def prsV (l : List UInt8) : List Ev := if prsE l = 0 then (pL l).evs else []
theorem evsN_len (s : LS) (hs : s.evs = []) : ∀ k, (evsN k s).evs.length ≤ k
 | 0 => by show s.evs.length ≤ 0; rw [hs]; exact Nat.le_refl _
 | k + 1 => by
   have := evsN_len s hs k
   show (evStep (evsN k s)).evs.length ≤ k + 1
   unfold evStep
   split
   · rw [List.length_append]; show _ + 1 ≤ _; omega
   · omega
end Go.Proofs.YtbfefdedjcppaaaGreatDoor
