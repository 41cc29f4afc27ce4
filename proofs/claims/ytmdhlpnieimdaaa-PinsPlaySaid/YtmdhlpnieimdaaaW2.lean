/- slices.Sort at two words, whole. -/
import Derived.Test.YtmdhlpnieimdaaaW1
namespace Go.Proofs.Ytmdhlpnieimdaaa
open Go.RowKit

def SortPost (g x y : Nat) (w : World) (e : Ending) (w' : World) : Prop := e = .returned (.tuple #[]) ∧ Turn [g] w w' ∧ Two w' g (min x y) (max x y)
set_option maxRecDepth 100000 in
set_option maxHeartbeats 1000000 in
theorem pdq2_any (g x y cap : Nat) (lim : Int) (w : World) (h : Two w g x y) :
    Calls Try.prog 26 #[.slice (some ⟨g, 0, none⟩) 2 cap, .int .i64 0, .int .i64 2, .int .i64 lim] w (SortPost g x y w) := by
  have H := Lib.hid h
  clear h
  go_enter Try.func26, Try.ntmps26
  go_wp2_with fail
  go_loop [1, 2] (fun a b => a = .int .i64 0 ∧ b = .int .i64 2) (fun _ _ => 0)
  case atStart => exact ⟨rfl, rfl⟩
  case round =>
    obtain ⟨rfl, rfl⟩ := hrel
    go_wp2_with (go_at_call 28; (refine (ins2_any g x y cap _ H.out).mono ?_); rintro e w1 ⟨rfl, ht, h2⟩)
    go_end0
    exact ⟨rfl, ht, h2⟩
set_option maxHeartbeats 1000000 in
theorem sort2_any (g x y cap : Nat) (w : World) (h : Two w g x y) :
    Calls Try.prog 24 #[.slice (some ⟨g, 0, none⟩) 2 cap] w (SortPost g x y w) := by
  have H := Lib.hid h
  clear h
  go_enter Try.func24, Try.ntmps24
  go_wp2_with (first
    | (go_at_call 27; (refine (Try.bits_Len 2 _ (by omega) (by omega)).mono ?_); rintro e w1 ⟨rfl, rfl⟩)
    | (go_at_call 26; (refine (pdq2_any g x y cap _ _ H.out).mono ?_); rintro e w1 ⟨rfl, ht, h2⟩))
  go_end0
  exact ⟨rfl, ht, h2⟩
end Go.Proofs.Ytmdhlpnieimdaaa
