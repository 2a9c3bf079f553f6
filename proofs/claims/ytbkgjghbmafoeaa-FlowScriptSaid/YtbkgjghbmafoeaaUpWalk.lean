/- The walk over heap.up. Conditions: the row lies whole in memory; it is a heap but for the edge above j. -/
import Derived.Test.YtbkgjghbmafoeaaSwapWalk
import Derived.Lib.MinMax
namespace Go.Proofs.Ytbkgjghbmafoeaa
open Go.RowKit

def UpRel (W : World) (wb r g cap N m : Nat) (h0 : Hp) (jv : Value) (wr : World) : Prop :=
  ∃ (j : Nat) (h : Hp), jv = .int .i64 j ∧ j < m ∧ HAt wr wb r g cap N h ∧ Rea N m h0 h ∧ HUp h m j ∧ Off (HOwn g N h0) W wr

def UpR (wb r g cap N m : Nat) (h0 : Hp) (w : World) (e : Ending) (w' : World) : Prop :=
  e = .returned (.tuple #[]) ∧ ∃ h, HAt w' wb r g cap N h ∧ Rea N m h0 h ∧ Heap h m ∧ Off (HOwn g N h0) w w'

set_option maxRecDepth 100000 in
set_option maxHeartbeats 2000000 in
theorem up_any {w : World} {wb r g cap N m : Nat} {h0 h : Hp} (j : Nat) (H : HAt w wb r g cap N h) (R : Rea N m h0 h) (U : HUp h m j) (hj : j < m) (hm : m ≤ N) (hN : N ≤ 1000000) :
    Calls Try.prog 49 #[.iface 95 (.pointer (some ⟨wb, 0, none⟩)), .int .i64 j] w (UpR wb r g cap N m h0 w) := by
  go_enter Try.func49, Try.ntmps49
  go_wp2_with fail
  go_loopw [1] (UpRel w wb r g cap N m h0) (fun j _ => (intOf j).toNat)
  case atStart => exact ⟨j, h, rfl, hj, H, R, U, Off.refl _ _⟩
  case round =>
    clear H R U hj
    obtain ⟨j, h, rfl, hj, H, R, U, hO⟩ := hrel
    have c0 : wr.cell? ⟨wb, 0, none⟩ = some (.slice (some ⟨g, 0, none⟩) N cap) := H.top.cell 0
    have hm1 := meth_less wr ⟨wb, 0, none⟩ _ c0
    have a0 : (0 : Int) ≤ (j : Int) := by omega
    have a1 : (j : Int) ≤ 1000000 := by omega
    by_cases hj0 : j = 0
    · subst hj0
      have hS := U.stop (.inl rfl)
      go_wp2_with fail
      go_end0
      exact ⟨rfl, h, H, R, hS, hO⟩
    · obtain ⟨p, hp⟩ : ∃ p, (j - 1) / 2 = p := ⟨_, rfl⟩
      have hpj : p < j := by omega
      have hq : ((j : Int) - 1).tdiv 2 = (p : Int) := by
        rw [Int.tdiv_eq_ediv_of_nonneg (by omega)]; omega
      have hne : ¬ (p : Int) = (j : Int) := by omega
      cases hl : DE.lt (h j) (h p) with
      | false =>
        have hS := U.stop (.inr (by rw [hp]; exact hl))
        have hl' := Lib.hid hl
        clear hl
        go_wp2_with fail
        refine (less_any H (by omega) (by omega)).mono ?_
        rintro e w2 ⟨rfl, hO2⟩
        rw [hl'.out]
        go_wp2_with fail
        go_end0
        exact ⟨rfl, h, H.still hO2, R, hS, hO.step hO2 (fun _ _ k => k.elim)⟩
      | true =>
        have hU := U.step (by omega) hj (by rw [hp]; exact hl)
        rw [hp] at hU
        have hl' := Lib.hid hl
        clear hl
        go_wp2_with fail
        refine (less_any H (by omega) (by omega)).mono ?_
        rintro e w2 ⟨rfl, hO2⟩
        rw [hl'.out]
        have H2 := H.still hO2
        have c2 : w2.cell? ⟨wb, 0, none⟩ = some (.slice (some ⟨g, 0, none⟩) N cap) := H2.top.cell 0
        have hm2 := meth_swap w2 ⟨wb, 0, none⟩ _ c2
        clear c0 hm1
        go_wp2_with fail
        refine (swap_any H2 (by omega) (by omega) R.o).mono ?_
        rintro e w3 ⟨rfl, H3, hO3⟩
        go_wp2
        exact ⟨⟨p, _, rfl, by omega, H3, R.sw (by omega) (by omega) hm, hU, (hO.step hO2 (fun _ _ k => k.elim)).step hO3 (fun i _ k => (HOwn.rea R i).1 k)⟩, by simp [intOf]; omega⟩
end Go.Proofs.Ytbkgjghbmafoeaa
