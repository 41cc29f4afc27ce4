/- Publish: what it computes; the sort of a nil slice; the event of a write. -/
import Derived.Test.YtnafcbmpjjlhnaaK18
namespace Go.Proofs.Ytnafcbmpjjlhnaa
open Go.RowKit Go.Sort

def evOf (t : Int) (r : Wr) : Ev := ⟨t, r.key, r.dead, false, r.lkey⟩
def srt (ws : List Wr) : List Wr := (srtA ws.toArray).toList
/-- What Publish makes of a watcher. -/
def pubW (x : Wt) (t : Int) (ws : List Wr) : Wt := (srt ws).foldl (fun x r => handW x (evOf t r)) x
theorem handW_len (x : Wt) (e : Ev) : (handW x e).queue.length ≤ x.queue.length + 1 := by
  unfold handW
  split
  · omega
  split
  · omega
  split
  · omega
  split <;> simp
theorem builtEv0 (a0 a1 a2 a3 a4 a5 a6 a7 a8 a9 a10 a11 a12 a13 a14 a15 a16 a17 a18 a19 a20 a21 a22 a23 a24 : UInt8) (t : Int) (b : Bool) : Try.prog.built 52 [(0, .int .u64 t), (1, .agg (bC [a0, a1, a2, a3, a4, a5, a6, a7, a8, a9, a10, a11, a12, a13, a14, a15, a16, a17, a18, a19, a20, a21, a22, a23, a24])), (2, .bool b)] = some (.int .u64 t :: ((bC [a0, a1, a2, a3, a4, a5, a6, a7, a8, a9, a10, a11, a12, a13, a14, a15, a16, a17, a18, a19, a20, a21, a22, a23, a24]).toList ++ [.bool b, .bool false])).toArray := by kernel_rfl
theorem builtEv (t : Int) (r : Wr) : Try.prog.built 52 [(0, .int .u64 t), (1, .agg (bC r.key)), (2, .bool r.dead)] = some (evC (evOf t r)).toArray := by
  obtain ⟨k, b, rest, hk, h1, h2⟩ := r
  obtain ⟨a0, a1, a2, a3, a4, a5, a6, a7, a8, a9, a10, a11, a12, a13, a14, a15, a16, a17, a18, a19, a20, a21, a22, a23, a24, rfl⟩ := list25 k hk
  exact builtEv0 ..
theorem size_srt (ws : List Wr) : (srt ws).length = ws.length := by
  unfold srt srtA
  split <;> simp [size_ins]
set_option maxRecDepth 100000 in
theorem insN_any (w : World) : Calls Try.prog 28 #[.slice none 0 0, .int .i64 0, .int .i64 0, .func (.func 18) #[] #[]] w fun e w' => e = .returned (.tuple #[]) ∧ w' = w := by
  go_enter Try.func28, Try.ntmps28
  go_wp2_with fail
  go_loopw [8] (fun vi wr => vi = .int .i64 1 ∧ wr = w) (fun _ _ => 0)
  case atStart => exact ⟨rfl, rfl⟩
  case round =>
    obtain ⟨rfl, rfl⟩ := hrel
    go_wp2_with fail
    go_end0
    exact ⟨rfl, rfl⟩
set_option maxRecDepth 100000 in
theorem stableN_any (w : World) : Calls Try.prog 23 #[.slice none 0 0, .int .i64 0, .func (.func 18) #[] #[]] w fun e w' => e = .returned (.tuple #[]) ∧ w' = w := by
  go_enter Try.func23, Try.ntmps23
  go_wp2_with fail
  go_loopw [7, 8] (fun va vb wr => va = .int .i64 0 ∧ vb = .int .i64 20 ∧ wr = w) (fun _ _ _ => 0)
  case atStart => exact ⟨rfl, rfl, rfl⟩
  case round =>
    obtain ⟨rfl, rfl, rfl⟩ := hrel
    go_wp2_with (go_at_call 28; (refine (insN_any _).mono ?_); rintro e W2 ⟨rfl, rfl⟩)
    go_loopw [6] (fun va wr => va = .int .i64 20 ∧ wr = W2) (fun _ _ => 0)
    case atStart => exact ⟨rfl, rfl⟩
    case round =>
      obtain ⟨rfl, rfl⟩ := hrel
      go_wp2_with fail
      go_end0
      exact ⟨rfl, rfl⟩
set_option maxRecDepth 100000 in
theorem sortN_any (w : World) : Calls Try.prog 17 #[.slice none 0 0, .func (.func 18) #[] #[]] w fun e w' => e = .returned (.tuple #[]) ∧ w' = w := by
  go_enter Try.func17, Try.ntmps17
  go_wp2_with (go_at_call 23; (refine (stableN_any _).mono ?_); rintro e W2 ⟨rfl, rfl⟩)
  go_end0
  exact ⟨rfl, rfl⟩
end Go.Proofs.Ytnafcbmpjjlhnaa
