/- uses, words; a range over a text; check. -/
import Derived.Test.YtmbbhnbfgcmkgaaDoorO3
import Derived.Laws.RangeString
namespace Go.Proofs.YtmbbhnbfgcmkgaaDoor
open Go.RowKit

def usesL (k : Int) : List UInt8 := if k = 1 then [119, 98] else if k = 2 ∨ k = 3 then [119] else if k = 4 ∨ k = 6 then [110] else []
theorem kinds (k : Int) : k < 1 ∨ 6 < k ∨ k = 1 ∨ k = 2 ∨ k = 3 ∨ k = 4 ∨ k = 5 ∨ k = 6 := by omega
def usesA : Array Value := #[.string ⟨#[]⟩, .string ⟨#[119, 98]⟩, .string ⟨#[119]⟩, .string ⟨#[119]⟩, .string ⟨#[110]⟩, .string ⟨#[]⟩, .string ⟨#[110]⟩]
theorem siz7 : (Tryd.prog.info? 60).map (·.size) = some 7 := by kernel_rfl
set_option maxRecDepth 100000 in
set_option maxHeartbeats 4000000 in
theorem uses_any (k : Int) (w : World) :
    Calls Tryd.prog 25 #[.int .i64 k] w fun e w' => e = .returned (.string ⟨(usesL k).toArray⟩) ∧ Below w.heap.size w w' := by
  have hbd := fun (W : World) => run_build (P := Tryd.prog) W 60 #[(0, .string ⟨#[]⟩), (1, .string ⟨#[119, 98]⟩), (2, .string ⟨#[119]⟩), (3, .string ⟨#[119]⟩), (4, .string ⟨#[110]⟩), (5, .string ⟨#[]⟩), (6, .string ⟨#[110]⟩)] usesA (by kernel_rfl)
  have HB := Lib.hid (below_alloc1 w (.cells usesA 60))
  have HU : Hid (usesL k = if k = 1 then [119, 98] else if k = 2 ∨ k = 3 then [119] else if k = 4 ∨ k = 6 then [110] else []) := rfl
  rcases kinds k with h | h | rfl | rfl | rfl | rfl | rfl | rfl
  case inl =>
    have e : Hid (usesL k = []) := by show _ = _; rw [HU.out, if_neg (by omega), if_neg (by omega), if_neg (by omega)]
    go_enter Tryd.func25, Tryd.ntmps25
    go_wp2_with ((with_reducible refine gate_st 60 _ _ rfl ?_); refine wl_strn rfl _ _ _ rfl usesA _ _ siz7 rfl (by simp [usesA, Value.oneCell']) rfl rfl ?_)
    go_ret
    exact ⟨by rw [e.out]; rfl, HB.out⟩
  case inr.inl =>
    have e : Hid (usesL k = []) := by show _ = _; rw [HU.out, if_neg (by omega), if_neg (by omega), if_neg (by omega)]
    have h1 : ¬ k < 1 := by omega
    go_enter Tryd.func25, Tryd.ntmps25
    go_wp2_with ((with_reducible refine gate_st 60 _ _ rfl ?_); refine wl_strn rfl _ _ _ rfl usesA _ _ siz7 rfl (by simp [usesA, Value.oneCell']) rfl rfl ?_)
    go_ret
    exact ⟨by rw [e.out]; rfl, HB.out⟩
  all_goals
    clear HU
    unfold usesA at HB hbd
    go_enter Tryd.func25, Tryd.ntmps25
    go_wp2_with ((with_reducible refine gate_st 60 _ _ rfl ?_); refine wl_strn rfl _ _ _ rfl #[.string ⟨#[]⟩, .string ⟨#[119, 98]⟩, .string ⟨#[119]⟩, .string ⟨#[119]⟩, .string ⟨#[110]⟩, .string ⟨#[]⟩, .string ⟨#[110]⟩] _ _ siz7 rfl (by simp [Value.oneCell']) rfl rfl ?_)
    go_ret
    exact ⟨rfl, HB.out⟩
def wordsA : Array Value := #[.string ⟨#[]⟩, .string ⟨#[114, 101, 113, 117, 101, 115, 116]⟩, .string ⟨#[112, 105, 99, 107]⟩, .string ⟨#[116, 97, 107, 101]⟩, .string ⟨#[115, 119, 101, 101, 112]⟩, .string ⟨#[114, 111, 117, 110, 100]⟩, .string ⟨#[114, 101, 115, 116]⟩]
set_option maxRecDepth 100000 in
theorem words_any (w : World) :
    Calls Tryd.prog 24 #[] w fun e w' => e = .returned (.agg wordsA) ∧ Below w.heap.size w w' := by
  have hbd := fun (W : World) => run_build (P := Tryd.prog) W 60 #[(0, .string ⟨#[]⟩), (1, .string ⟨#[114, 101, 113, 117, 101, 115, 116]⟩), (2, .string ⟨#[112, 105, 99, 107]⟩), (3, .string ⟨#[116, 97, 107, 101]⟩), (4, .string ⟨#[115, 119, 101, 101, 112]⟩), (5, .string ⟨#[114, 111, 117, 110, 100]⟩), (6, .string ⟨#[114, 101, 115, 116]⟩)] wordsA (by kernel_rfl)
  have HG : Hid ((w.alloc (.cells wordsA 60)).heap[w.heap.size]? = some (Obj.cells wordsA 60 (0, 0))) := heap_alloc_new _ _
  go_enter Tryd.func24, Tryd.ntmps24
  go_wp2_with ((with_reducible refine gate_st 60 _ _ rfl ?_); refine wl_strn rfl _ _ _ rfl wordsA _ _ siz7 rfl (by simp [wordsA, Value.oneCell']) rfl rfl ?_)
  refine bodyPost_ret (res_rowc rfl _ _ w.heap.size _ _ rfl HG.out Tryd.underlying60 rfl siz7) rfl ⟨rfl, below_alloc1 _ _⟩
end Go.Proofs.YtmbbhnbfgcmkgaaDoor
