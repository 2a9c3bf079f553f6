/- The walks over a table's Taken and get. Conditions: the table lies whole in memory. -/
import Derived.Test.YtbkgjghbmafoeaaFlAt
import Derived.Deep.RegionHeld3
namespace Go.Proofs.Ytbkgjghbmafoeaa
open Go.RowKit
open Go.ChangeMaps (setBlock)

theorem tb_lookup {w w' : World} {tb wb r : Nat} {p : Nat → Option Nat} {kes : List (KEnt FKey)} {clock : Nat} {L : List Fl} (H : TB w tb wb r p kes clock L) (k : FKey) (hO : Off (fun _ => False) w w') :
    (Instr.lookup 72 (.map (some r)) (keyV k) true).run Try.prog w' = .ok (.tuple #[((fnd L k).map fun x => sideV x.1.id x.2).getD (sideV 0 false), .bool (tkn L k)]) w' := by
  have := run_lookup key_key Try.underlying72 zero78 (H.map.off hO (fun k => k)) k
  rw [H.look k] at this
  rw [this]
  simp [tkn]

def FTaken (b : Bool) (w : World) (e : Ending) (w' : World) : Prop := e = .returned (.bool b) ∧ Off (fun _ => False) w w'

set_option maxRecDepth 100000 in
set_option maxHeartbeats 2000000 in
theorem taken_any {w : World} {tb wb r : Nat} {p : Nat → Option Nat} {kes : List (KEnt FKey)} {clock : Nat} {L : List Fl} (H : TB w tb wb r p kes clock L) (k : FKey) :
    Calls Try.prog 23 #[.pointer (some ⟨tb, 0, none⟩), keyV k] w (FTaken (tkn L k) w) := by
  have hO1 : Off (fun _ => False) w (w.alloc (.cells (keyL k).toArray 36)) := (Off.refl _ _).alloc _
  have hB1 := Blk.new w 36 (keyL k).toArray
  have hc0 : ∀ w', Off (fun _ => False) (w.alloc (.cells (keyL k).toArray 36)) w' → w'.cell? ⟨tb, 50, none⟩ = some (.map (some r)) := fun w' h => ((hO1.step h fun _ _ k => k).blk H.top id).cell 50
  have hk := fun w' (h : Off (fun _ => False) (w.alloc (.cells (keyL k).toArray 36)) w') => keyc (range_blk (h.blk hB1 id) 0 (keyL k) (fun j v hj => by simpa using hj))
  have k0 := fun w' h => (hk w' h).1
  have k1 := fun w' h => (hk w' h).2.1
  have k2 := fun w' h => (hk w' h).2.2.1
  have k3 := fun w' h => (hk w' h).2.2.2.1
  have k4 := fun w' h => (hk w' h).2.2.2.2.1
  have k5 := fun w' h => (hk w' h).2.2.2.2.2.1
  have k6 := fun w' h => (hk w' h).2.2.2.2.2.2
  clear hk
  have hlk := fun w' (h : Off (fun _ => False) (w.alloc (.cells (keyL k).toArray 36)) w') => tb_lookup H k (hO1.step h fun _ _ k => k)
  generalize tkn L k = b at *
  obtain ⟨n, c, hsv⟩ : ∃ n c, ((fnd L k).map fun x => sideV x.1.id x.2).getD (sideV 0 false) = .agg #[.int .i64 n, .bool c] := by
    cases fnd L k with
    | none => exact ⟨_, _, rfl⟩
    | some x => exact ⟨_, _, rfl⟩
  rw [hsv] at hlk
  simp only [← keyW_eq] at hlk
  clear hsv H hB1
  have HO := Lib.hid hO1
  go_enter Try.func23, Try.ntmps23
  go_wp2_with fail
  clear hO1
  generalize w.alloc (.cells (keyL k).toArray 36) = w1 at *
  go_region_held3 (fun w' => Off (fun _ => False) w1 w') (first | (repeat (first | exact Off.refl _ _ | assumption | apply Off.drew | apply Off.alloc | (refine Off.setCell ?_ _ (fun h => absurd h (Nat.lt_irrefl _)))))) (first | fail)
  all_goals
    go_wp2_with fail
    go_ret
    exact ⟨rfl, HO.out.step (by assumption) (fun _ _ k => k)⟩

/-- get: the flow's pointer; nil, if there is none. -/
def FGet (o : Option Nat) (w : World) (e : Ending) (w' : World) : Prop := e = .returned (ptrV o) ∧ w = w'

theorem get_out {w : World} (tb : Nat) (id : Int) (h : id < 1 ∨ 49 ≤ id) : Calls Try.prog 39 #[.pointer (some ⟨tb, 0, none⟩), .int .i64 id] w (FGet none w) := by
  by_cases h1 : id < 1
  · go_enter Try.func39, Try.ntmps39
    go_wp2
    go_ret
    exact ⟨rfl, rfl⟩
  · have h2 : 49 ≤ id := by omega
    clear h
    go_enter Try.func39, Try.ntmps39
    go_wp2
    go_ret
    exact ⟨rfl, rfl⟩

theorem get_at {w : World} {tb wb r : Nat} {p : Nat → Option Nat} {kes : List (KEnt FKey)} {clock : Nat} {L : List Fl} (H : TB w tb wb r p kes clock L) {i : Nat} (h1 : 1 ≤ i) (h2 : i < 49) :
    Calls Try.prog 39 #[.pointer (some ⟨tb, 0, none⟩), .int .i64 i] w (FGet (p i) w) := by
  have c := H.top.cell (1 + i)
  have hc : (tblL wb p r L.length).toArray[1 + i]? = some (ptrV (p i)) := by
    rw [List.getElem?_toArray]; exact tblL_flow wb p r L.length h2
  rw [hc] at c
  clear hc
  have q1 : ¬ (i : Int) < 1 := by omega
  have q2 : ¬ (49 : Int) ≤ (i : Int) := by omega
  have q3 : (0 : Int) ≤ (i : Int) := by omega
  have q4 : (i : Int) < 49 := by omega
  generalize p i = o at *
  go_enter Try.func39, Try.ntmps39
  go_wp2
  go_ret
  exact ⟨rfl, rfl⟩
end Go.Proofs.Ytbkgjghbmafoeaa
