/- The walk over flow.New. No conditions. -/
import Derived.Test.YtbkgjghbmafoeaaFlList
namespace Go.Proofs.Ytbkgjghbmafoeaa
open Go.RowKit

def FNew (w : World) (e : Ending) (w' : World) : Prop :=
  ∃ tb U, e = .returned (.pointer (some ⟨tb, 0, none⟩)) ∧ Tbl w' tb U [] ∧ (∀ i, U i → w.heap.size ≤ i) ∧ Off (fun _ => False) w w'

theorem built76 (wb r : Nat) : Try.prog.built 76 [(0, .pointer (some ⟨wb, 0, none⟩)), (2, .map (some r))] = some (tblL wb (fun _ => none) r 0).toArray := by kernel_rfl

set_option maxRecDepth 100000 in
set_option maxHeartbeats 2000000 in
theorem fnew_any (w : World) : Calls Try.prog 11 #[] w (FNew w) := by
  have hmm := @run_makeMap Try.prog
  go_enter Try.func11, Try.ntmps11
  go_wp2_with fail
  refine (wnew_any w).mono ?_
  rintro e w1 ⟨wb, S, rfl, hW, hS, _, hO⟩
  have hO1 : Off (fun _ => False) w1 ((w1.alloc (.map #[] 0)).alloc (.cells (tblL wb (fun _ => none) w1.heap.size 0).toArray 76)) := ((Off.refl _ _).alloc _).alloc _
  have hT := Blk.new (w1.alloc (.map #[] 0)) 76 (tblL wb (fun _ => none) w1.heap.size 0).toArray
  rw [show (w1.alloc (.map #[] 0)).heap.size = w1.heap.size + 1 by simp] at hT
  have hM : MapAt keyV ((w1.alloc (.map #[] 0)).alloc (.cells (tblL wb (fun _ => none) w1.heap.size 0).toArray 76)) w1.heap.size [] 0 := MapAt.alloc (show MapAt keyV (w1.alloc (.map #[] 0)) w1.heap.size [] 0 from heap_alloc_new _ _) _
  have hfin : FNew w (.returned (.pointer (some ⟨w1.heap.size + 1, 0, none⟩))) ((w1.alloc (.map #[] 0)).alloc (.cells (tblL wb (fun _ => none) w1.heap.size 0).toArray 76)) := by
    refine ⟨w1.heap.size + 1, _, rfl, ⟨wb, w1.heap.size, S, fun _ => none, [], 0, [], ⟨hT, (fun f hf => (by cases hf)), (fun _ _ _ => rfl), hM, by simp, (fun e he => (by cases he)), (fun k => rfl), FOk.nil⟩, hW.off hO1 (fun _ _ k => k), List.Perm.refl _, (fun h => by have := hW.lt h; omega), fun _ => Iff.rfl⟩, ?_, hO.step hO1 (fun _ _ k => k)⟩
    have := hO.size
    rintro i ((rfl | rfl | ⟨j, o, _, h, _⟩) | h)
    · omega
    · omega
    · cases h
    · exact hS i h
  have HF := Lib.hid hfin
  clear hfin hT hM hO1
  go_wp2_with (first | (refine wpList_buildTo rfl 76 _ rfl (some 3) rfl _ (built76 wb w1.heap.size) ?_))
  go_ret
  exact HF.out
end Go.Proofs.Ytbkgjghbmafoeaa
