/- The document's Set and Word. -/
import Derived.Test.YtnambaiafailaaaDoorO7
import Derived.Test.YtnambaiafailaaaDoorG4
namespace Go.Proofs.YtnambaiafailaaaDoor
open Go.RowKit

def boC (l : List Bool) : Array Value := (l.map Value.bool).toArray
theorem boC_size (l : List Bool) : (boC l).size = l.length := by simp [boC]
theorem boC_one (l : List Bool) : (boC l).all (·.oneCell') = true := by simp [boC, Value.oneCell']
def setP (g : Nat) (k c : Nat) : Bool := c == 5 || (List.range k).any fun j => catI g (j : Int) == (c : Int)
def setL (g : Nat) (k : Nat) : List Bool := [setP g k 0, setP g k 1, setP g k 2, setP g k 3, setP g k 4, setP g k 5]
theorem setP_next (g k c : Nat) : setP g (k + 1) c = (setP g k c || catI g (k : Int) == (c : Int)) := by
  simp only [setP, List.range_succ, List.any_append, List.any_cons, List.any_nil, Bool.or_false, Bool.or_assoc]
theorem setL_next (g k c : Nat) (hc : c < 6) (h : catI g (k : Int) = (c : Int)) : (setL g k).set c true = setL g (k + 1) := by
  have hn : ∀ d : Nat, setP g (k + 1) d = (setP g k d || decide (c = d)) := fun d => by
    rw [setP_next, h]
    congr 1
    rw [Bool.eq_iff_iff]; simp; omega
  unfold setL
  simp only [hn]
  rcases (show c = 0 ∨ c = 1 ∨ c = 2 ∨ c = 3 ∨ c = 4 ∨ c = 5 by omega) with rfl | rfl | rfl | rfl | rfl | rfl <;> simp
theorem boC_set (l : List Bool) (c : Nat) (b : Bool) : (boC l).setIfInBounds c (.bool b) = boC (l.set c b) := by
  simp [boC, List.map_set]
theorem boC_get (l : List Bool) (j : Nat) (h : j < l.length) : (boC l)[j]? = some (.bool l[j]) := by simp [boC, h]
theorem cat_lt (g : Nat) (n : Int) (h0 : 0 ≤ n) : ∃ c : Nat, c < 6 ∧ catI g n = (c : Int) := by
  have h : 0 ≤ catI g n ∧ catI g n ≤ 5 := by
    by_cases h1 : g = 1
    · subst h1; exact ⟨by show (0:Int) ≤ 5; omega, by show (5:Int) ≤ 5; omega⟩
    · by_cases h2 : g = 2
      · subst h2; rw [cat_2]; split <;> omega
      · by_cases h3 : g = 3
        · subst h3; rw [cat_3]; repeat' split
          all_goals omega
        · by_cases h4 : g = 4
          · subst h4; rw [cat_4]; repeat' split
            all_goals omega
          · by_cases h5 : g = 5
            · subst h5; rw [cat_5]; repeat' split
              all_goals omega
            · by_cases h6 : g = 6
              · subst h6; rw [cat_6]; repeat' split
                all_goals omega
              · by_cases h7 : g = 7
                · subst h7; rw [cat_7]; repeat' split
                  all_goals omega
                · unfold catI
                  split <;> first | contradiction | (split <;> omega)
  exact ⟨(catI g n).toNat, by omega, by omega⟩
def inL (g : Nat) : List Bool := [inB g 0, inB g 1, inB g 2, inB g 3, inB g 4, inB g 5]
theorem setL_full (g : Nat) (hg : g = 0 ∨ g = 1 ∨ g = 2 ∨ g = 3 ∨ g = 4 ∨ g = 5 ∨ g = 6 ∨ g = 7) : setL g 300 = inL g := by
  rcases hg with rfl | rfl | rfl | rfl | rfl | rfl | rfl | rfl <;> decide +kernel
theorem siz6 : (Tryd.prog.info? 68).map (·.size) = some 6 := by kernel_rfl
set_option maxRecDepth 100000 in
set_option maxHeartbeats 4000000 in
theorem refSet_any (g : Nat) (w : World) (hg : g = 0 ∨ g = 1 ∨ g = 2 ∨ g = 3 ∨ g = 4 ∨ g = 5 ∨ g = 6 ∨ g = 7) :
    Calls Tryd.prog 37 #[.int .i64 (g : Int)] w fun e w' => e = .returned (.agg (boC (inL g))) ∧ Below w.heap.size w w' := by
  have HF := Lib.hid (setL_full g hg)
  have HRo : Hid (∀ (m : Int) (W : World), 0 ≤ m → m ≤ 18446744073709551615 → Calls Tryd.prog 34 #[.int .i64 (g : Int), .int .u64 m] W fun e w' => e = .returned (.int .i64 (catI g m)) ∧ W = w') := fun m W hm hm1 => refOf_any _ m W (by omega) hm hm1
  have h0 : boC (setL g 0) = #[.bool false, .bool false, .bool false, .bool false, .bool false, .bool true] := rfl
  have H0 := Lib.hid h0
  clear hg h0
  go_enter Tryd.func37, Tryd.ntmps37
  go_wp2_with fail
  rw [← H0.out]
  go_loopw [4] (fun i wr => ∃ k : Nat, k ≤ 300 ∧ i = .int .u64 k ∧ wr = (w.alloc (.cells #[.bool false, .bool false, .bool false, .bool false, .bool false, .bool false] 68)).alloc (.cells (boC (setL g k)) 68)) (fun i _ => 300 - (intOf i).toNat)
  case atStart => exact ⟨0, by omega, rfl, rfl⟩
  case round =>
    obtain ⟨k, hk, rfl, rfl⟩ := hrel
    by_cases hlt : k < 300
    · obtain ⟨c, hc, hcat⟩ := cat_lt g (k : Int) (by omega)
      have HRk : Hid (∀ W : World, Calls Tryd.prog 34 #[.int .i64 (g : Int), .int .u64 (k : Int)] W fun e w' => e = .returned (.int .i64 (c : Int)) ∧ W = w') := fun W => by rw [← hcat]; exact HRo.out (k : Int) W (by omega) (by omega)
      have HJ := Lib.hid (setL_next g k c hc hcat)
      have hold := boC_get (setL g k) c hc
      have hc6 : (c : Int) < 6 := by omega
      have hc0 : (0 : Int) ≤ c := by omega
      clear hcat HRo
      go_wp2_with (go_at_call 34; (refine (HRk.out _).mono ?_); rintro e w3 ⟨rfl, rfl⟩)
      go_roundw
      case rel => exact ⟨k + 1, by omega, by go_num, by rw [boC_set, HJ.out]⟩
      case measure => simp [intOf]; omega
    · obtain rfl : k = 300 := by omega
      rw [HF.out]
      go_wp2_with (first
        | ((with_reducible refine gate_ld 68 _ rfl ?_); refine wl_ldr rfl _ _ rfl (w.heap.size + 1) 0 (boC (inL g)).toList _ Tryd.underlying68 rfl (by rw [siz6]; rfl) rfl (range_whole (by simpa using heap_alloc2_new w (.cells #[.bool false, .bool false, .bool false, .bool false, .bool false, .bool false] 68) (.cells (boC (inL g)) 68))) ?_)
        | ((with_reducible refine gate_st 68 _ _ rfl ?_); refine wl_str rfl 68 _ _ rfl w.heap.size (boC (inL g)) #[.bool false, .bool false, .bool false, .bool false, .bool false, .bool false] _ (by rw [siz6]; rfl) rfl (boC_one _) rfl rfl (heap_alloc2_old w (.cells #[.bool false, .bool false, .bool false, .bool false, .bool false, .bool false] 68) (.cells (boC (inL g)) 68)) ?_))
      refine bodyPost_ret (res_rowc (P := Tryd.prog) (T := 68) (T' := 68) rfl _ _ w.heap.size (boC (inL g)) (0, 0) rfl (setRow_at (heap_alloc2_old w (.cells #[.bool false, .bool false, .bool false, .bool false, .bool false, .bool false] 68) (.cells (boC (inL g)) 68))) Tryd.underlying68 rfl (by rw [siz6]; rfl)) rfl ⟨rfl, setRow_below (below_alloc2 w (.cells #[.bool false, .bool false, .bool false, .bool false, .bool false, .bool false] 68) (.cells (boC (inL g)) 68)) (Nat.le_refl _) _⟩
def wordsL : List ByteArray := [⟨#[122, 101, 114, 111]⟩, ⟨#[111, 110, 101]⟩, ⟨#[116, 119, 111]⟩, ⟨#[102, 101, 119]⟩, ⟨#[109, 97, 110, 121]⟩, ⟨#[111, 116, 104, 101, 114]⟩]
def wordI (c : Int) : ByteArray := if 0 ≤ c ∧ c ≤ 5 then wordsL.getD c.toNat ⟨#[]⟩ else ⟨#[]⟩
set_option maxRecDepth 100000 in
set_option maxHeartbeats 4000000 in
theorem refWord_any (c : Int) (w : World) :
    Calls Tryd.prog 40 #[.int .i64 c] w fun e w' => e = .returned (.string (wordI c)) ∧ Below w.heap.size w w' := by
  by_cases h0 : c < 0
  · have HW : Hid (wordI c = ⟨#[]⟩) := if_neg (by omega)
    go_enter Tryd.func40, Tryd.ntmps40
    go_wp2_with fail
    go_ret
    exact ⟨by rw [HW.out]; rfl, below_alloc1 _ _⟩
  · by_cases h5 : 5 < c
    · have HW : Hid (wordI c = ⟨#[]⟩) := if_neg (by omega)
      go_enter Tryd.func40, Tryd.ntmps40
      go_wp2_with fail
      go_ret
      exact ⟨by rw [HW.out]; rfl, below_alloc1 _ _⟩
    · rcases (show c = 0 ∨ c = 1 ∨ c = 2 ∨ c = 3 ∨ c = 4 ∨ c = 5 by omega) with rfl | rfl | rfl | rfl | rfl | rfl
      all_goals
        clear h0 h5
        go_enter Tryd.func40, Tryd.ntmps40
        go_wp2_with fail
        go_ret
        exact ⟨rfl, below_alloc1 _ _⟩
end Go.Proofs.YtnambaiafailaaaDoor
