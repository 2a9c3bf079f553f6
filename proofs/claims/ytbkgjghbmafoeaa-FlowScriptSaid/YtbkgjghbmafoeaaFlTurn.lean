/- The walks over Turned, the program's and the document's. No conditions. -/
import Derived.Test.YtbkgjghbmafoeaaRxFind
namespace Go.Proofs.Ytbkgjghbmafoeaa
open Go.RowKit

theorem res_key {fn : Func} {t : Tmp} {k : FKey} {b : Nat} (h : fn.results = #[.cell t 36]) (tmps : Array Value) (w : World) (ht : tmps.getD t undef = .pointer (some ⟨b, 0, none⟩)) (hr : w.rangeAt b 0 (keyL k)) :
    (results fn tmps).run Try.prog w = .ok (keyV k) w := by
  have ht' : tmps[t]?.getD undef = .pointer (some ⟨b, 0, none⟩) := by simpa using ht
  simp [results, h, ht', asAddr, load_keyVar hr]
theorem Try.results25' : Try.f25.results = #[.cell 2 36] := by kernel_rfl
theorem Try.results26' : Try.f26.results = #[.cell 2 36] := by kernel_rfl

def FTurn (k : FKey) (w : World) (e : Ending) (w' : World) : Prop := e = .returned (keyV (turned k)) ∧ Off (fun _ => False) w w'

theorem keyL_one (k : FKey) : (keyL k).toArray.all (·.oneCell') = true := by simp [keyL, Value.oneCell']

set_option maxRecDepth 100000 in
set_option maxHeartbeats 4000000 in
theorem rturn_any {w : World} (k : FKey) : Calls Try.prog 26 #[keyV k] w (FTurn k w) := by
  have hO1 : Off (fun _ => False) w ((w.alloc (.cells (keyL k).toArray 36)).alloc (.cells (keyL (0, 0, 0, 0, 0, 0, 0)).toArray 36)) := ((Off.refl _ _).alloc _).alloc _
  have hB := (Blk.new w 36 (keyL k).toArray).alloc (.cells (keyL (0, 0, 0, 0, 0, 0, 0)).toArray 36)
  have hR := Blk.new (w.alloc (.cells (keyL k).toArray 36)) 36 (keyL (0, 0, 0, 0, 0, 0, 0)).toArray
  have hsz : (w.alloc (.cells (keyL k).toArray 36)).heap.size = w.heap.size + 1 := by simp
  rw [hsz] at hR
  obtain ⟨k0, k1, k2, k3, k4, k5, k6⟩ := k
  have HO1 := Lib.hid hO1
  have HB := Lib.hid hB
  have HR := Lib.hid hR
  clear hO1 hB hR
  go_enter Try.func26, Try.ntmps26
  go_upto_region 1 with fail
  change Code.wp _ _ _ _ ((w.alloc (.cells (keyL (k0, k1, k2, k3, k4, k5, k6)).toArray 36)).alloc (.cells (keyL (0, 0, 0, 0, 0, 0, 0)).toArray 36))
  generalize (w.alloc (.cells (keyL (k0, k1, k2, k3, k4, k5, k6)).toArray 36)).alloc (.cells (keyL (0, 0, 0, 0, 0, 0, 0)).toArray 36) = w1 at *
  have c0 : w1.cell? ⟨w.heap.size, 0, none⟩ = some (.int .i64 k0) := HB.out.cell 0
  have c1 : w1.cell? ⟨w.heap.size, 1, none⟩ = some (.int .u64 k1) := HB.out.cell 1
  have c2 : w1.cell? ⟨w.heap.size, 2, none⟩ = some (.int .u64 k2) := HB.out.cell 2
  have c3 : w1.cell? ⟨w.heap.size, 3, none⟩ = some (.int .u64 k3) := HB.out.cell 3
  have c4 : w1.cell? ⟨w.heap.size, 4, none⟩ = some (.int .u64 k4) := HB.out.cell 4
  have c5 : w1.cell? ⟨w.heap.size, 5, none⟩ = some (.int .i64 k5) := HB.out.cell 5
  have c6 : w1.cell? ⟨w.heap.size, 6, none⟩ = some (.int .i64 k6) := HB.out.cell 6
  clear hsz
  go_wp2_with (first
    | (refine wpList_store_blk rfl 36 (.tmp 2) (.tmp 13) rfl (w.heap.size + 1) 36 (keyL (0, 0, 0, 0, 0, 0, 0)).toArray (keyL (k0, k3, k4, k1, k2, k6, k5)).toArray HR.out rfl rfl (by kernel_rfl) rfl (keyL_one _) ?_; intro w5 hO5 hb5))
  refine bodyPost_ret (res_key (k := (k0, k3, k4, k1, k2, k6, k5)) Try.results26' _ _ rfl (range_blk hb5 0 _ (fun j v hj => by simpa using hj))) rfl ?_
  exact ⟨rfl, HO1.out.step hO5 (fun i hi e => by omega)⟩

set_option maxRecDepth 100000 in
set_option maxHeartbeats 4000000 in
theorem fturn_any {w : World} (k : FKey) : Calls Try.prog 25 #[keyV k] w (FTurn k w) := by
  have hO1 : Off (fun _ => False) w ((w.alloc (.cells (keyL k).toArray 36)).alloc (.cells (keyL (0, 0, 0, 0, 0, 0, 0)).toArray 36)) := ((Off.refl _ _).alloc _).alloc _
  have hB := (Blk.new w 36 (keyL k).toArray).alloc (.cells (keyL (0, 0, 0, 0, 0, 0, 0)).toArray 36)
  have hR := Blk.new (w.alloc (.cells (keyL k).toArray 36)) 36 (keyL (0, 0, 0, 0, 0, 0, 0)).toArray
  have hsz : (w.alloc (.cells (keyL k).toArray 36)).heap.size = w.heap.size + 1 := by simp
  rw [hsz] at hR
  obtain ⟨k0, k1, k2, k3, k4, k5, k6⟩ := k
  have HO1 := Lib.hid hO1
  have HB := Lib.hid hB
  have HR := Lib.hid hR
  clear hO1 hB hR
  go_enter Try.func25, Try.ntmps25
  go_upto_region 1 with fail
  change Code.wp _ _ _ _ ((w.alloc (.cells (keyL (k0, k1, k2, k3, k4, k5, k6)).toArray 36)).alloc (.cells (keyL (0, 0, 0, 0, 0, 0, 0)).toArray 36))
  generalize (w.alloc (.cells (keyL (k0, k1, k2, k3, k4, k5, k6)).toArray 36)).alloc (.cells (keyL (0, 0, 0, 0, 0, 0, 0)).toArray 36) = w1 at *
  have c0 : w1.cell? ⟨w.heap.size, 0, none⟩ = some (.int .i64 k0) := HB.out.cell 0
  have c1 : w1.cell? ⟨w.heap.size, 1, none⟩ = some (.int .u64 k1) := HB.out.cell 1
  have c2 : w1.cell? ⟨w.heap.size, 2, none⟩ = some (.int .u64 k2) := HB.out.cell 2
  have c3 : w1.cell? ⟨w.heap.size, 3, none⟩ = some (.int .u64 k3) := HB.out.cell 3
  have c4 : w1.cell? ⟨w.heap.size, 4, none⟩ = some (.int .u64 k4) := HB.out.cell 4
  have c5 : w1.cell? ⟨w.heap.size, 5, none⟩ = some (.int .i64 k5) := HB.out.cell 5
  have c6 : w1.cell? ⟨w.heap.size, 6, none⟩ = some (.int .i64 k6) := HB.out.cell 6
  have f1 : w1.frozen? ⟨w.heap.size, 1, none⟩ = false := HB.out.free 1
  have f2 : w1.frozen? ⟨w.heap.size, 2, none⟩ = false := HB.out.free 2
  have f3 : w1.frozen? ⟨w.heap.size, 3, none⟩ = false := HB.out.free 3
  have f4 : w1.frozen? ⟨w.heap.size, 4, none⟩ = false := HB.out.free 4
  have f5 : w1.frozen? ⟨w.heap.size, 5, none⟩ = false := HB.out.free 5
  have f6 : w1.frozen? ⟨w.heap.size, 6, none⟩ = false := HB.out.free 6
  clear hsz
  go_upto_region 2 with fail
  have hO6 : Off (· = w.heap.size) w1 ((((((w1.setCell ⟨w.heap.size, 1, none⟩ (.int .u64 k3)).setCell ⟨w.heap.size, 2, none⟩ (.int .u64 k4)).setCell ⟨w.heap.size, 3, none⟩ (.int .u64 k1)).setCell ⟨w.heap.size, 4, none⟩ (.int .u64 k2)).setCell ⟨w.heap.size, 5, none⟩ (.int .i64 k6)).setCell ⟨w.heap.size, 6, none⟩ (.int .i64 k5)) :=
    ((((((Off.refl _ _).setAt 1 _).setAt 2 _).setAt 3 _).setAt 4 _).setAt 5 _).setAt 6 _
  have hB6 := ((((((HB.out.setCell 1 (.int .u64 k3)).setCell 2 (.int .u64 k4)).setCell 3 (.int .u64 k1)).setCell 4 (.int .u64 k2)).setCell 5 (.int .i64 k6)).setCell 6 (.int .i64 k5))
  have hR6 := Lib.hid (hO6.blk HR.out (by omega))
  have HO6 := Lib.hid hO6
  simp only [List.setIfInBounds_toArray] at hB6
  have HB6 := Lib.hid (show Blk _ w.heap.size 36 (keyL (k0, k3, k4, k1, k2, k6, k5)).toArray from hB6)
  clear c0 c1 c2 c3 c4 c5 c6 f1 f2 f3 f4 f5 f6 hB6 hO6
  generalize ((((((w1.setCell ⟨w.heap.size, 1, none⟩ (.int .u64 k3)).setCell ⟨w.heap.size, 2, none⟩ (.int .u64 k4)).setCell ⟨w.heap.size, 3, none⟩ (.int .u64 k1)).setCell ⟨w.heap.size, 4, none⟩ (.int .u64 k2)).setCell ⟨w.heap.size, 5, none⟩ (.int .i64 k6)).setCell ⟨w.heap.size, 6, none⟩ (.int .i64 k5)) = w6 at *
  go_wp2_with (first
    | (refine wpList_ldk (by rfl) (.tmp 1) rfl w.heap.size 0 rfl (k0, k3, k4, k1, k2, k6, k5) (range_blk HB6.out 0 _ (fun j v hj => by simpa using hj)) ?_)
    | (refine wpList_store_blk rfl 36 (.tmp 2) (.tmp 15) rfl (w.heap.size + 1) 36 (keyL (0, 0, 0, 0, 0, 0, 0)).toArray (keyL (k0, k3, k4, k1, k2, k6, k5)).toArray hR6.out rfl rfl (by kernel_rfl) rfl (keyL_one _) ?_; intro w7 hO7 hb7))
  refine bodyPost_ret (res_key (k := (k0, k3, k4, k1, k2, k6, k5)) Try.results25' _ _ rfl (range_blk hb7 0 _ (fun j v hj => by simpa using hj))) rfl ?_
  exact ⟨rfl, (HO1.out.step HO6.out (fun i hi e => by omega)).step hO7 (fun i hi e => by omega)⟩
end Go.Proofs.Ytbkgjghbmafoeaa
