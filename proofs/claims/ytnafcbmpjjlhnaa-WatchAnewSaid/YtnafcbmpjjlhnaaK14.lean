/- Of at a registry that is nil. -/
import Derived.Test.YtnafcbmpjjlhnaaK13
namespace Go.Proofs.Ytnafcbmpjjlhnaa
open Go.RowKit

theorem res_rowc_tmp2 {P : Program} {fn : Func} {p t u : Tmp} {T T' : TypeId} {d : TypeDesc} (h : fn.results = #[.cell p T, .tmp t, .tmp u]) (tmps : Array Value) (w : World) (g : Nat) (cs : Array Value) (fr : Nat × Nat)
    (hp : tmps.getD p undef = .pointer (some ⟨g, 0, none⟩)) (hg : w.heap[g]? = some (.cells cs T' fr)) (hu : P.underlying T = some d) (hd : (match d with | .struct _ | .array _ _ => true | _ => false) = true) (hi : (P.info? T).map (·.size) = some cs.size) :
    (results fn tmps).run P w = .ok (.tuple #[.agg cs, tmps.getD t undef, tmps.getD u undef]) w := by
  have hp' : tmps[p]?.getD undef = .pointer (some ⟨g, 0, none⟩) := by simpa using hp
  have hload : (loadVar T ⟨g, 0, none⟩).run P w = .ok (.agg cs) w := by
    refine run_loadVar_row _ g T' T cs fr d hg hu ?_ hi
    revert hd
    cases d <;> intro hd <;> first | rfl | exact hd
  simp [results, h, hp', asAddr, hload]
def z26 : Array Value := #[Value.int IntKind.u8 0, Value.int IntKind.u8 0, Value.int IntKind.u8 0, Value.int IntKind.u8 0, Value.int IntKind.u8 0, Value.int IntKind.u8 0, Value.int IntKind.u8 0, Value.int IntKind.u8 0, Value.int IntKind.u8 0, Value.int IntKind.u8 0, Value.int IntKind.u8 0, Value.int IntKind.u8 0, Value.int IntKind.u8 0, Value.int IntKind.u8 0, Value.int IntKind.u8 0, Value.int IntKind.u8 0, Value.int IntKind.u8 0, Value.int IntKind.u8 0, Value.int IntKind.u8 0, Value.int IntKind.u8 0, Value.int IntKind.u8 0, Value.int IntKind.u8 0, Value.int IntKind.u8 0, Value.int IntKind.u8 0, Value.int IntKind.u8 0, Value.int IntKind.i64 0]
theorem z26_one : z26.all (·.oneCell') = true := by decide +kernel
theorem built0 : Try.prog.built 32 [] = some z26 := by kernel_rfl
set_option maxRecDepth 100000 in
set_option maxHeartbeats 4000000 in
theorem ofN_any (i : Int) (w : World) : Calls Try.prog 12 #[.pointer none, .int .i64 i] w fun e w' => e = .returned (.tuple #[.agg z26, .int .u64 0, .bool false]) ∧ Below w.heap.size w w' := by
  have HB := Lib.hid (below_alloc1 w (.cells z26 32))
  have HG : Hid ((w.alloc (.cells z26 32)).heap[w.heap.size]? = some (.cells z26 32 (0, 0))) := heap_alloc_new _ _
  go_enter Try.func12, Try.ntmps12
  go_upto_region 1 with fail
  rw [show (Obj.cells #[Value.int IntKind.u8 0, Value.int IntKind.u8 0, Value.int IntKind.u8 0, Value.int IntKind.u8 0, Value.int IntKind.u8 0, Value.int IntKind.u8 0, Value.int IntKind.u8 0, Value.int IntKind.u8 0, Value.int IntKind.u8 0, Value.int IntKind.u8 0, Value.int IntKind.u8 0, Value.int IntKind.u8 0, Value.int IntKind.u8 0, Value.int IntKind.u8 0, Value.int IntKind.u8 0, Value.int IntKind.u8 0, Value.int IntKind.u8 0, Value.int IntKind.u8 0, Value.int IntKind.u8 0, Value.int IntKind.u8 0, Value.int IntKind.u8 0, Value.int IntKind.u8 0, Value.int IntKind.u8 0, Value.int IntKind.u8 0, Value.int IntKind.u8 0, Value.int IntKind.i64 0] 32) = Obj.cells z26 32 from rfl]
  generalize w.alloc (.cells z26 32) = W1 at *
  go_wp2_with (first
    | (go_at_call 21; (refine (atN_any _ _).mono ?_); rintro e W2 ⟨rfl, rfl⟩)
    | ((with_reducible refine gate_bd 32 _ rfl ?_); refine wl_bd rfl _ [] rfl [] rfl z26 built0 ?_)
    | ((with_reducible refine gate_st 32 (.tmp 4) _ rfl ?_); refine wl_str rfl 32 _ _ rfl w.heap.size z26 z26 32 (by rw [sizPre]; rfl) rfl z26_one rfl rfl HG.out ?_))
  refine bodyPost_ret (res_rowc_tmp2 rfl _ _ w.heap.size _ _ rfl (setRow_at HG.out) Try.underlying32 rfl (by rw [sizPre]; rfl)) rfl ⟨rfl, setRow_below HB.out (Nat.le_refl _) _⟩
end Go.Proofs.Ytnafcbmpjjlhnaa
