/- The example's request: plain. -/
import Derived.Test.YtbfefdedjcppaaaGreatDoorRE
namespace Go.Proofs.YtbfefdedjcppaaaGreatDoor
open Go.RowKit
def nmA : List UInt8 := [97, 0, 0, 0, 0, 0, 0, 0, 0, 0, 0, 0]
def tgD : List UInt8 := [100, 101, 0, 0, 0, 0, 0, 0, 0, 0]
def kop : OpD := ⟨11, 3, 0, 2, 0, 0, 1, nmA, tgD, ⟨#[]⟩, rfl, rfl⟩
def kreq : RqD := ⟨1, 0, 0, kop, z25, 0, rfl⟩
def breq : RqD := ⟨2, 0, 0, zeroO, z25, 0, rfl⟩
theorem kreq_bare : bareQ kreq = kreq := rfl
theorem kreq_nm : rightB nmA = true := by decide +kernel
theorem kreq_tg : rightT tgD = true := by decide +kernel
theorem kreq_ok : OkQ kreq := ⟨by decide, by decide, by decide, by decide, fun _ => ⟨⟨by decide, by decide, by decide, by decide, by decide, by decide, by decide⟩, fun _ => kreq_nm, fun _ => kreq_tg, by decide⟩⟩
theorem kreq_textL : textL nmA = [97] := by decide +kernel
theorem kreq_textB : textB tgD = [100, 101] := by decide +kernel
theorem kreq_w : wReq kreq = ([1, 11, 3, 0, 2, 1, 97, 2, 100, 101, 1], 0) := by
 have h1 : fieldO kop 97 = [1, 97] := by
   show small (textL nmA).length ++ textL nmA = _
   rw [kreq_textL, small_lt (by decide)]; rfl
 have h2 : fieldO kop 103 = [2, 100, 101] := by
   show small (textB tgD).length ++ textB tgD = _
   rw [kreq_textB, small_lt (by decide)]; rfl
 show wStep 4096 (wStep 4096 (wStep 4096 (wStep 4096 (wBytes 4096 (wBytes 4096 ([], 0) [1]) [11, 3, 0]) (fieldO kop 98)) (fieldO kop 97)) (fieldO kop 103)) (fieldO kop 109) = _
 rw [h1, h2]
 decide +kernel
theorem two_e : readE [2] = 0 := by decide +kernel
theorem two_c : readC [2] = rqC breq := by kernel_rfl
end Go.Proofs.YtbfefdedjcppaaaGreatDoor
