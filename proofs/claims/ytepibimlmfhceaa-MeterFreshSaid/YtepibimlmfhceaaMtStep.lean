/- Has of a source that is there, or is not; a step of the meters' scripts. No conditions. -/
import Derived.Test.YtepibimlmfhceaaMtTake
import Derived.Deep.RegionHeld3
import Derived.Test.YtepibimlmfhceaaIn
import Derived.Test.YtepibimlmfhceaaFlat
namespace Go.Proofs.Ytepibimlmfhceaa
open Go.RowKit

theorem mhas_some {w : World} {mb r : Nat} {rate burst turns : Int} {es : List Ent} {clock : Nat} (hi lo : Int) (h : MAt w mb r rate burst turns es clock) {x : Ent} (hx : x ∈ es) (ha : x.a = (hi, lo)) :
    Calls Try.prog 22 #[.pointer (some ⟨mb, 0, none⟩), .agg #[.int .u64 hi, .int .u64 lo]] w fun e w' => e = .returned (.bool true) ∧ Off (fun _ => False) w w' := by
  have := MAt.look_some h.keys hx
  rw [ha] at this
  refine (mhas_any hi lo h).mono ?_
  rintro e w' ⟨rfl, hO⟩
  exact ⟨by rw [this]; rfl, hO⟩

theorem mhas_none {w : World} {mb r : Nat} {rate burst turns : Int} {es : List Ent} {clock : Nat} (hi lo : Int) (h : MAt w mb r rate burst turns es clock) (hx : ∀ e ∈ es, e.a ≠ (hi, lo)) :
    Calls Try.prog 22 #[.pointer (some ⟨mb, 0, none⟩), .agg #[.int .u64 hi, .int .u64 lo]] w fun e w' => e = .returned (.bool false) ∧ Off (fun _ => False) w w' := by
  refine (mhas_any hi lo h).mono ?_
  rintro e w' ⟨rfl, hO⟩
  exact ⟨by rw [MAt.look_none hx]; rfl, hO⟩

/-- A step of the meters' scripts, in memory: its source, its time. -/
structure StepAt (w : World) (bx o : Nat) (hi lo t : Int) : Prop where
  h1 : w.cell? ⟨bx, o + 1, none⟩ = some (.int .u64 hi)
  h2 : w.cell? ⟨bx, o + 2, none⟩ = some (.int .u64 lo)
  h3 : w.cell? ⟨bx, o + 3, none⟩ = some (.int .i64 t)

theorem StepAt.drew {w : World} {bx o : Nat} {hi lo t : Int} (h : StepAt w bx o hi lo t) : StepAt w.drew bx o hi lo t := ⟨h.h1, h.h2, h.h3⟩

theorem StepAt.off {S : Nat → Prop} {w w' : World} {bx o : Nat} {hi lo t : Int} (h : StepAt w bx o hi lo t) (k : Off S w w') (hlt : bx < w.heap.size) (hn : ¬ S bx) : StepAt w' bx o hi lo t :=
  ⟨(k.cell (p := ⟨bx, o + 1, none⟩) hlt hn).trans h.h1, (k.cell (p := ⟨bx, o + 2, none⟩) hlt hn).trans h.h2, (k.cell (p := ⟨bx, o + 3, none⟩) hlt hn).trans h.h3⟩

/-- The step k of a script, at a later world. -/
theorem Elems.step {w w' : World} {a : Option Addr} {len : Nat} {F : Nat → List Int} (h : Elems [.i64, .u64, .u64, .i64] w a len F) (hb : Below w.heap.size w w') {k : Nat} (hk : k < len) :
    ∃ bx off hi lo t, a = some ⟨bx, off, none⟩ ∧ bx < w.heap.size ∧ StepAt w' bx (off + k * 4) hi lo t ∧ 0 ≤ hi ∧ hi ≤ 18446744073709551615 ∧ 0 ≤ lo ∧ lo ≤ 18446744073709551615 ∧ I64 t := by
  obtain ⟨bx, off, ha, hlt, hc⟩ := h k hk
  have c1 := (hc 1 .u64 rfl).1; have c2 := (hc 2 .u64 rfl).1; have c3 := (hc 3 .i64 rfl).1
  refine ⟨bx, off, _, _, _, ha, hlt, ⟨?_, ?_, ?_⟩, (bounds_u64 (hc 1 .u64 rfl).2).1, (bounds_u64 (hc 1 .u64 rfl).2).2, (bounds_u64 (hc 2 .u64 rfl).2).1, (bounds_u64 (hc 2 .u64 rfl).2).2, bounds_i64 (hc 3 .i64 rfl).2⟩
  · exact (hb.cell (p := ⟨bx, off + k * 4 + 1, none⟩) hlt).trans c1
  · exact (hb.cell (p := ⟨bx, off + k * 4 + 2, none⟩) hlt).trans c2
  · exact (hb.cell (p := ⟨bx, off + k * 4 + 3, none⟩) hlt).trans c3

theorem RoomR.few {es es3 : List Ent} {now : Int} (h : RoomR es now es3 false) : es.length = 32 := by
  rcases h with ⟨_, h, _⟩ | ⟨_, h, _⟩ | ⟨h, _⟩
  · cases h
  · cases h
  · exact h

end Go.Proofs.Ytepibimlmfhceaa
