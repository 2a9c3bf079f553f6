/- The walk over a table's Add. Conditions: the table lies whole in memory. -/
import Derived.Test.YtbkgjghbmafoeaaFlDue
import Derived.Test.YtbkgjghbmafoeaaFlVic
import Derived.Test.YtbkgjghbmafoeaaKMap2
import Derived.Test.YtbkgjghbmafoeaaKeyOps
namespace Go.Proofs.Ytbkgjghbmafoeaa
open Go.RowKit
open Go.ChangeMaps (setBlock)

/-- What Add answers. -/
def addV (x : Int × Int × Int × List Fl) : Value := .tuple #[.int .i64 x.1, .int .i64 x.2.1, .int .i64 x.2.2.1]

def FAdd (tb : Nat) (U : Nat → Prop) (L : List Fl) (f : Fl) (w : World) (e : Ending) (w' : World) : Prop :=
  ∃ U', e = .returned (addV (addF L f)) ∧ Tbl w' tb U' (addF L f).2.2.2 ∧ Off U w w' ∧ ∀ i, U' i → U i ∨ w.heap.size ≤ i

theorem fadd_fail {w w2 : World} {tb : Nat} {U : Nat → Prop} {L : List Fl} {f : Fl} (H : Tbl w tb U L) (hf : tkn L f.opn = true ∨ tkn L f.bck = true ∨ f.opn = f.bck) (hO : Off (fun _ => False) w w2) :
    FAdd tb U L f w (.returned (.tuple #[.int .i64 0, .int .i64 0, .int .i64 63])) w2 := by
  have ha : addF L f = (0, 0, 63, L) := by unfold addF; rw [if_pos hf]
  refine ⟨U, by rw [ha]; rfl, ?_, hO.mono fun _ _ k => k.elim, fun _ k => .inl k⟩
  rw [ha]; exact H.off hO (fun _ _ k => k)

/-- The box of the flow: its keys. -/
theorem box_opn {w : World} {N : Nat} {f : Fl} (h : Blk w N 38 (flL f).toArray) : w.rangeAt N 1 (keyL f.opn) := range_opn (o := 0) (range_blk h 0 (flL f) (fun j v hj => by simpa using hj))
theorem box_bck {w : World} {N : Nat} {f : Fl} (h : Blk w N 38 (flL f).toArray) : w.rangeAt N 8 (keyL f.bck) := range_bck (o := 0) (range_blk h 0 (flL f) (fun j v hj => by simpa using hj))

set_option maxRecDepth 100000 in
set_option maxHeartbeats 4000000 in
theorem fadd_t1 {w : World} {tb : Nat} {U : Nat → Prop} {L : List Fl} (f : Fl) (H : Tbl w tb U L) (t1 : tkn L f.opn = true) :
    Calls Try.prog 12 #[.pointer (some ⟨tb, 0, none⟩), flV f] w (FAdd tb U L f w) := by
  have HH := H
  obtain ⟨wb, r, S, p, kes, clock, T, HB, W, hT, hr, hU⟩ := H
  have hO1 : Off (fun _ => False) w (w.alloc (.cells (flL f).toArray 38)) := (Off.refl _ _).alloc _
  have hB1 := Lib.hid (Blk.new w 38 (flL f).toArray)
  have H1 := HB.off hO1 (fun _ _ k => k)
  go_enter Try.func12, Try.ntmps12
  go_wp2_with (first | (refine wpList_ldk (by rfl) (.tmp 9) rfl w.heap.size 1 rfl f.opn (box_opn hB1.out) ?_))
  refine (taken_any H1 f.opn).mono ?_
  rintro e w2 ⟨rfl, hO2⟩
  rw [t1]
  have hfin := fadd_fail HH (.inl t1) (hO1.step hO2 fun _ _ k => k)
  have HF := Lib.hid hfin
  clear hfin t1 
  go_wp2_with fail
  go_ret3
  exact HF.out

set_option maxRecDepth 100000 in
set_option maxHeartbeats 4000000 in
theorem fadd_t2 {w : World} {tb : Nat} {U : Nat → Prop} {L : List Fl} (f : Fl) (H : Tbl w tb U L) (t1 : tkn L f.opn = false) (t2 : tkn L f.bck = true) :
    Calls Try.prog 12 #[.pointer (some ⟨tb, 0, none⟩), flV f] w (FAdd tb U L f w) := by
  have HH := H
  obtain ⟨wb, r, S, p, kes, clock, T, HB, W, hT, hr, hU⟩ := H
  have hO1 : Off (fun _ => False) w (w.alloc (.cells (flL f).toArray 38)) := (Off.refl _ _).alloc _
  have hB1 := Lib.hid (Blk.new w 38 (flL f).toArray)
  have H1 := HB.off hO1 (fun _ _ k => k)
  go_enter Try.func12, Try.ntmps12
  go_wp2_with (first | (refine wpList_ldk (by rfl) (.tmp 9) rfl w.heap.size 1 rfl f.opn (box_opn hB1.out) ?_))
  refine (taken_any H1 f.opn).mono ?_
  rintro e w2 ⟨rfl, hO2⟩
  rw [t1]
  have hB2 := Lib.hid (hO2.blk hB1.out (fun k => k))
  have H2 := H1.off hO2 (fun _ _ k => k)
  go_wp2_with (first | (refine wpList_ldk (by rfl) (.tmp 14) rfl w.heap.size 8 rfl f.bck (box_bck hB2.out) ?_))
  refine (taken_any H2 f.bck).mono ?_
  rintro e w3 ⟨rfl, hO3⟩
  rw [t2]
  have hfin := fadd_fail HH (.inr (.inl t2)) ((hO1.step hO2 fun _ _ k => k).step hO3 fun _ _ k => k)
  have HF := Lib.hid hfin
  clear hfin t1 t2
  go_wp2_with fail
  go_ret3
  exact HF.out

set_option maxRecDepth 100000 in
set_option maxHeartbeats 4000000 in
theorem fadd_t3 {w : World} {tb : Nat} {U : Nat → Prop} {L : List Fl} (f : Fl) (H : Tbl w tb U L) (t1 : tkn L f.opn = false) (t2 : tkn L f.bck = false) (t3 : f.opn = f.bck) :
    Calls Try.prog 12 #[.pointer (some ⟨tb, 0, none⟩), flV f] w (FAdd tb U L f w) := by
  have T3 := Lib.hid t3
  clear t3
  have HH := H
  obtain ⟨wb, r, S, p, kes, clock, T, HB, W, hT, hr, hU⟩ := H
  have hO1 : Off (fun _ => False) w (w.alloc (.cells (flL f).toArray 38)) := (Off.refl _ _).alloc _
  have hB1 := Lib.hid (Blk.new w 38 (flL f).toArray)
  have H1 := HB.off hO1 (fun _ _ k => k)
  go_enter Try.func12, Try.ntmps12
  go_wp2_with (first | (refine wpList_ldk (by rfl) (.tmp 9) rfl w.heap.size 1 rfl f.opn (box_opn hB1.out) ?_))
  refine (taken_any H1 f.opn).mono ?_
  rintro e w2 ⟨rfl, hO2⟩
  rw [t1]
  have hB2 := Lib.hid (hO2.blk hB1.out (fun k => k))
  have H2 := H1.off hO2 (fun _ _ k => k)
  go_wp2_with (first | (refine wpList_ldk (by rfl) (.tmp 14) rfl w.heap.size 8 rfl f.bck (box_bck hB2.out) ?_))
  refine (taken_any H2 f.bck).mono ?_
  rintro e w3 ⟨rfl, hO3⟩
  rw [t2]
  have hfin := fadd_fail HH (.inr (.inr T3.out)) ((hO1.step hO2 fun _ _ k => k).step hO3 fun _ _ k => k)
  have hB3 := Lib.hid (hO3.blk hB2.out (fun k => k))
  have HF := Lib.hid hfin
  clear hfin t1 t2
  go_wp2_with (first | (refine wpList_ldk (by rfl) (.tmp 19) rfl w.heap.size 1 rfl f.opn (box_opn hB3.out) ?_) | (refine wpList_ldk (by rfl) (.tmp 21) rfl w.heap.size 8 rfl f.bck (box_bck hB3.out) ?_) | (refine wpList_key_eql (by rfl) (.tmp 20) (.tmp 22) f.opn f.bck rfl rfl rfl true (decide_eq_true T3.out) ?_))
  go_ret3
  exact HF.out

end Go.Proofs.Ytbkgjghbmafoeaa
