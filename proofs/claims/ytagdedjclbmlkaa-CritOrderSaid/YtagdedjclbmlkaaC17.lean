/- leaves as the kit's contract of an iterator; the law's closure. -/
import Derived.Test.YtagdedjclbmlkaaC16
import Derived.Test.YtagdedjclbmlkaaGX
namespace Go.Proofs.Ytagdedjclbmlkaa
open Go.RowKit

def encL {o : Option T} (x : LV o) : Array Value := #[.pointer (some ⟨x.val.1, 0, none⟩)]
theorem leaves_any (p : Option Addr) (fq : Option Addr) (fn fc : Nat) (w : World) :
    Calls Try.prog 45 #[.pointer p, .slice fq fn fc] w fun e w' => e = .returned (.func (.func 55) #[] #[.pointer (some ⟨w.heap.size, 0, none⟩), .pointer (some ⟨w.heap.size + 1, 0, none⟩)]) ∧
      w' = (w.alloc (.cells #[.pointer p] 31)).alloc (.cells #[.slice fq fn fc] 109) := by
  go_enter Try.func45, Try.ntmps45
  go_wp2_with fail
  go_ret
  exact ⟨rfl, rfl⟩
theorem lv_stops (n bx fb n₀ tb B : Nat) (m : Int) (o : Option T) (fq : Option Addr) (fn fc : Nat) (fr : List UInt8) (w0 : World) (Ts : List TypeId) (hN : NODE ∉ Ts) (hF : 109 ∉ Ts) (hYT : 120 ∉ Ts) (hU : 5 ∉ Ts) (hfn : fr.length = fn) (h25 : fn ≤ 25) (hn₀ : n₀ ≤ w0.heap.size)
    (hT : TreeN w0 B tb m o) (hbx : w0.heap[bx]? = some (.cells #[.pointer (some ⟨tb, 0, none⟩)] 31 (0, 0))) (hfb : w0.heap[fb]? = some (.cells #[.slice fq fn fc] 109 (0, 0))) (hfr : FrAt w0 fq fr) :
    SeqStopsK Fence.wide n Try.prog 55 #[.pointer (some ⟨bx, 0, none⟩), .pointer (some ⟨fb, 0, none⟩)] (encL (o := o)) (KpT n₀ Ts) (fun ys => ys = fil fr (allL fr o)) (fun p => p <+: fil fr (allL fr o)) (fil fr (allL fr o)).length w0 := fun l J Jx W hW hJ _ hY h0 =>
  leaves1_in n l bx fb n₀ tb B m o fq fn fc fr W Ts hN hF hYT hU hfn h25 (Nat.le_trans hn₀ hW.size) (hT.below hW) ((hW.block _ (lt_heap hbx)).trans hbx) ((hW.block _ (lt_heap hfb)).trans hfb) (hfr.below hW) J Jx
    (fun s A A' hb hs => hJ s A A' none hs (grown_of_below hb) (fun r e => by cases e)) hY h0
/-- A nil tree has no leaves. -/
theorem leaves1Nil_any (l bx : Nat) (fv : Value) (w : World) (hbx : w.heap[bx]? = some (.cells #[.pointer none] 31 (0, 0))) :
    Calls Try.prog 55 #[.func (.yield l) #[] #[], .pointer (some ⟨bx, 0, none⟩), fv] w fun e w' => e = .returned (.tuple #[]) ∧ Below w.heap.size w w' := by
  have HB := Lib.hid (below_alloc1 w (.cells #[.func (.yield l) #[] #[]] 120))
  have hc : (w.alloc (.cells #[.func (.yield l) #[] #[]] 120)).cell? ⟨bx, 0, none⟩ = some (.pointer none) := by rw [cell_blk ((heap_alloc_old _ _ (lt_heap hbx)).trans hbx)]; rfl
  clear hbx
  go_enter Try.func55, Try.ntmps55
  go_upto_region 1 with fail
  generalize w.alloc (.cells #[.func (.yield l) #[] #[]] 120) = W1 at *
  go_wp2_with fail
  refine bodyPost_ret (results_none rfl _ _ _) rfl ?_
  exact ⟨rfl, HB.out⟩
theorem lvNil_stops (n bx : Nat) (fv : Value) (Kp : World → World → Prop) (w0 : World) (hbx : w0.heap[bx]? = some (.cells #[.pointer none] 31 (0, 0))) :
    SeqStopsK Fence.wide n Try.prog 55 #[.pointer (some ⟨bx, 0, none⟩), fv] (encL (o := none)) Kp (fun ys => ys = []) (fun _ => False) 0 w0 := fun l J Jx W hW hJ _ _ h0 => by
  refine (callsIn_wide.2 (leaves1Nil_any l bx fv W ((hW.block _ (lt_heap hbx)).trans hbx))).mono fun e W' h => ?_
  exact ⟨⟨_, h.1⟩, .inl ⟨[], rfl, hJ _ _ _ none h0 (grown_of_below h.2) (fun r e => by cases e)⟩⟩
/-- A key and a thing. -/
structure KV where
  k : List UInt8
  v : Int
  hk : k.length = 25
def kvC (x : KV) : List Value := (bC x.k).toList ++ [.int .i64 x.v]
theorem kvC_len (x : KV) : (kvC x).length = 26 := by simp [kvC, bC, x.hk]
theorem kvC_one (x : KV) : ∀ u ∈ kvC x, u.oneCell' = true := fun u hu => by
  simp only [kvC, List.mem_append, List.mem_singleton] at hu
  rcases hu with hu | rfl
  · exact bC_one' _ u hu
  · rfl
def KV.p (x : KV) : List UInt8 × Int := (x.k, x.v)
def kvOf {o : Option T} (h : WFO o) (x : LV o) : KV := ⟨x.val.2.1, x.val.2.2, lvsO_len h x.val x.mem⟩
theorem sizItem : (Try.prog.info? 98).map (·.size) = some 26 := by kernel_rfl
theorem builtItem (k : List UInt8) (hk : k.length = 25) (v : Int) : Try.prog.built 98 [(0, .agg (bC k)), (1, .int .i64 v)] = some (kvC ⟨k, v, hk⟩).toArray := by
  obtain ⟨a0, a1, a2, a3, a4, a5, a6, a7, a8, a9, a10, a11, a12, a13, a14, a15, a16, a17, a18, a19, a20, a21, a22, a23, a24, rfl⟩ := list25 k hk
  kernel_rfl
def kv0 : KV := ⟨z25, 0, rfl⟩
theorem infoItem : (Try.prog.info? 98).map (fun i => (i.zero, i.size, i.bytes)) = some (some (.agg (kvC kv0).toArray), 26, 40) := by kernel_rfl
theorem kv0_sz : (Value.agg (kvC kv0).toArray).cells.size = 26 := by show (kvC kv0).toArray.size = 26; rw [List.size_toArray, kvC_len]
set_option maxRecDepth 100000 in
set_option maxHeartbeats 4000000 in
theorem item_any (x : KV) (w : World) : Calls Try.prog 41 #[.agg (bC x.k), .int .i64 x.v] w fun e w' => e = .returned (.agg (kvC x).toArray) ∧ Below w.heap.size w w' := by
  have HX1 : Hid (((w.alloc (.cells (bC x.k) 30)).alloc (.cells (kvC kv0).toArray 98)).heap[w.heap.size]? = some (.cells (bC x.k) 30 (0, 0))) := heap_alloc2_old _ _ _
  have HX2 : Hid (((w.alloc (.cells (bC x.k) 30)).alloc (.cells (kvC kv0).toArray 98)).heap[w.heap.size + 1]? = some (.cells (kvC kv0).toArray 98 (0, 0))) := heap_alloc2_new _ _ _
  have HB : Hid (Below w.heap.size w ((w.alloc (.cells (bC x.k) 30)).alloc (.cells (kvC kv0).toArray 98))) := below_alloc2 _ _ _
  have hbt := builtItem x.k x.hk x.v
  go_enter Try.func41, Try.ntmps41
  go_upto_region 1 with fail
  show Code.wp _ _ _ _ ((w.alloc (.cells (bC x.k) 30)).alloc (.cells (kvC kv0).toArray 98))
  generalize ((w.alloc (.cells (bC x.k) 30)).alloc (.cells (kvC kv0).toArray 98)) = W0 at *
  go_wp2_with (first
    | ((with_reducible refine gate_ld 30 (.tmp 2) rfl ?_); refine wl_ldr rfl 30 _ rfl w.heap.size 0 (bC x.k).toList _ Try.underlying30 rfl (by rw [sizKey]; simp [bC, x.hk]) rfl (range_whole (by simpa using HX1.out)) ?_)
    | ((with_reducible refine gate_bd 98 _ rfl ?_); refine wl_bd rfl 98 [(0, .tmp 5), (1, .tmp 6)] rfl [(0, .agg (bC x.k)), (1, .int .i64 x.v)] rfl (kvC x).toArray hbt ?_)
    | ((with_reducible refine gate_st 98 (.tmp 4) (.tmp 7) rfl ?_); refine wl_str rfl 98 (.tmp 4) (.tmp 7) rfl (w.heap.size + 1) (kvC x).toArray (kvC kv0).toArray 98 (by rw [sizItem, List.size_toArray, kvC_len]) (by rw [List.size_toArray, List.size_toArray, kvC_len, kvC_len]) (by simpa using kvC_one x) rfl rfl HX2.out ?_))
  refine bodyPost_ret (res_rowc rfl _ _ (w.heap.size + 1) (kvC x).toArray (0, 0) rfl (setRow_at HX2.out) Try.underlying98 rfl (by rw [sizItem, List.size_toArray, kvC_len])) rfl ?_
  exact ⟨rfl, setRow_below HB.out (Nat.le_succ _) _⟩
end Go.Proofs.Ytagdedjclbmlkaa
