/- The law's cut of a reply: at most 20 events, its text cut. -/
import Derived.Test.YtbfefdedjcppaaaGreatDoorSM6
namespace Go.Proofs.YtbfefdedjcppaaaGreatDoor
open Go.RowKit
theorem ryC_setE (x : RpD) (v u : Value) : (ryC x v).take 14 ++ [u] ++ (ryC x v).drop (14 + 1) = ryC x u := by
 unfold ryC
 rw [List.take_left' (rpC_len x), List.drop_eq_nil_of_le (by simp [rpC_len]), List.append_nil]
def zeroR : RpD := ⟨0, ⟨#[]⟩, zt10, 0, 0, rfl⟩
theorem sizEvs : (Tryz.prog.info? 57).map (·.size) = some 1 := by kernel_rfl
end Go.Proofs.YtbfefdedjcppaaaGreatDoor
