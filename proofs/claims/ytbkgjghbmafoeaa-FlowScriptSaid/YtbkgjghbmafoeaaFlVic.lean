/- The walk over a table's victim. Conditions: the table lies whole in memory, its wheel aside. -/
import Derived.Test.YtbkgjghbmafoeaaFlTaken
import Derived.Test.YtbkgjghbmafoeaaMPure
namespace Go.Proofs.Ytbkgjghbmafoeaa
open Go.RowKit

def FVic (L : List Fl) (w : World) (e : Ending) (w' : World) : Prop := e = .returned (.int .i64 (idOf (vic L))) ∧ Off (fun _ => False) w w'

def VicRel (W : World) (L : List Fl) (iv kv : Value) (wr : World) : Prop :=
  ∃ k : Nat, k ≤ 48 ∧ kv = .int .i64 k ∧ iv = .int .i64 (idOf (best k L)) ∧ Off (fun _ => False) W wr

theorem weak_bool (f : Fl) : (f.weak ↔ ((f.state == 0) = true ∨ (f.state == 2) = true)) := by simp [Fl.weak]

set_option maxRecDepth 100000 in
set_option maxHeartbeats 4000000 in
theorem vic_any {w : World} {tb wb r : Nat} {p : Nat → Option Nat} {kes : List (KEnt FKey)} {clock : Nat} {L : List Fl} (H : TB w tb wb r p kes clock L) :
    Calls Try.prog 37 #[.pointer (some ⟨tb, 0, none⟩)] w (FVic L w) := by
  go_enter Try.func37, Try.ntmps37
  go_wp2_with fail
  go_loopw [3, 11] (VicRel w L) (fun _ k _ => 48 - (intOf k).toNat)
  case atStart => exact ⟨0, Nat.zero_le _, rfl, by rw [show best ((0 : Nat) : Int) L = none from (by unfold best; rw [show ((0 : Nat) : Int) = 0 from rfl, upto_zero H.ok]; rfl)]; rfl, Off.refl _ _⟩
  case round =>
    obtain ⟨k, hk, rfl, rfl, hO⟩ := hrel
    have H1 := H.off hO (fun _ _ k => k)
    by_cases hlt : k < 48
    · have q1 : (k : Int) < 48 := by omega
      have q0 : (0 : Int) ≤ (k : Int) := by omega
      have c := H1.top.cell (1 + (k + 1))
      rw [List.getElem?_toArray, tblL_flow wb p r L.length (by omega : k + 1 < 49)] at c
      rw [show 1 + (k + 1) = 2 + k by omega] at c
      cases hp : p (k + 1) with
      | none =>
        rw [hp] at c
        have hb : best ((k + 1 : Nat) : Int) L = best k L := by
          rw [show ((k + 1 : Nat) : Int) = (k : Int) + 1 by omega]
          refine best_none fun f hf e => ?_
          obtain ⟨o, ho, _⟩ := H.one f hf
          rw [show f.id.toNat = k + 1 by omega, hp] at ho
          cases ho
        have HB := Lib.hid hb
        clear hb hp H1
        generalize hgn : idOf (best (k : Int) L) = id at *
        have HG := Lib.hid hgn
        clear hgn
        change wr.cell? _ = some (.pointer none) at c
        go_wp2_with fail
        go_quiet (fail)
        go_wp2_with fail
        exact ⟨⟨k + 1, by omega, by go_num, by rw [HB.out, HG.out], hO.drewN _⟩, by simp [intOf]; omega⟩
      | some o =>
        rw [hp] at c
        change wr.cell? _ = some (.pointer (some ⟨o, 0, none⟩)) at c
        obtain ⟨f, hf, he, hfb⟩ := H1.at_ (by omega : k + 1 < 49) hp
        have hbs : best ((k + 1 : Nat) : Int) L = vic1 (best k L) f := by
          rw [show ((k + 1 : Nat) : Int) = (k : Int) + 1 by omega]
          exact best_snoc H.ok hf (by omega)
        have d0 : wr.cell? ⟨o, 0, none⟩ = some (.int .i64 f.id) := hfb.cell 0
        have d6 : wr.cell? ⟨o, 18, none⟩ = some (.int .i64 f.state) := hfb.cell 18
        have d7 : wr.cell? ⟨o, 19, none⟩ = some (.int .i64 f.ends) := hfb.cell 19
        have HB := Lib.hid hbs
        have HE := Lib.hid he
        clear hbs hp he
        by_cases hw : f.weak
        · -- it may go
          have hst : f.state = 0 ∨ f.state = 2 := hw
          cases hbst : best (k : Int) L with
          | none =>
            rw [hbst] at HB
            rw [show idOf none = 0 from rfl]
            have hn : vic1 none f = some f := by simp [vic1, hw, beats]
            have HN := Lib.hid hn
            clear hn hw
            rcases hst with hs | hs <;> rw [hs] at d6 <;> clear hs
            · go_wp2_with fail
              go_quiet (fail)
              go_wp2_with fail
              exact ⟨⟨k + 1, by omega, by go_num, by rw [HB.out, HN.out]; rfl, hO.drewN _⟩, by simp [intOf]; omega⟩
            · go_wp2_with fail
              go_quiet (fail)
              go_wp2_with fail
              exact ⟨⟨k + 1, by omega, by go_num, by rw [HB.out, HN.out]; rfl, hO.drewN _⟩, by simp [intOf]; omega⟩
          | some g =>
            rw [hbst] at HB
            have hgm := best_mem hbst
            have hgr := H.ok.rng g hgm
            obtain ⟨og, hog, hgb⟩ := H1.one g hgm
            obtain ⟨m, hm⟩ : ∃ m : Nat, g.id = m := ⟨g.id.toNat, by omega⟩
            have hm1 : 1 ≤ m := by omega
            have hm2 : m < 49 := by omega
            have cg : wr.cell? ⟨tb, 1 + m, none⟩ = some (.pointer (some ⟨og, 0, none⟩)) := by
              rw [H1.top.cell, List.getElem?_toArray, tblL_flow wb p r L.length hm2, ← show g.id.toNat = m by omega, hog]; rfl
            have g7 : wr.cell? ⟨og, 19, none⟩ = some (.int .i64 g.ends) := hgb.cell 19
            have hid : idOf (some g) = m := hm
            have q2 : (0 : Int) ≤ (m : Int) := by omega
            have q3 : (m : Int) < 49 := by omega
            have q4 : ((m : Int) == 0) = false := by simp; omega
            rw [hid]
            have HM := Lib.hid hid
            clear hm hgr hog hid hbst
            by_cases hlt2 : f.ends < g.ends
            · have hn : vic1 (some g) f = some f := by simp [vic1, hw, beats, hlt2]
              have HN := Lib.hid hn
              clear hn hw
              rcases hst with hs | hs <;> rw [hs] at d6 <;> clear hs
              · go_wp2_with fail
                go_quiet (fail)
                go_wp2_with fail
                exact ⟨⟨k + 1, by omega, by go_num, by rw [HB.out, HN.out]; rfl, hO.drewN _⟩, by simp [intOf]; omega⟩
              · go_wp2_with fail
                go_quiet (fail)
                go_wp2_with fail
                exact ⟨⟨k + 1, by omega, by go_num, by rw [HB.out, HN.out]; rfl, hO.drewN _⟩, by simp [intOf]; omega⟩
            · have hn : vic1 (some g) f = some g := by simp [vic1, beats, hlt2]
              have HN := Lib.hid hn
              have hlt3 : decide (f.ends < g.ends) = false := by simpa using hlt2
              clear hn hw
              rcases hst with hs | hs <;> rw [hs] at d6 <;> clear hs
              · go_wp2_with fail
                go_quiet (fail)
                go_wp2_with fail
                exact ⟨⟨k + 1, by omega, by go_num, by rw [HB.out, HN.out]; exact congrArg (Value.int .i64) HM.out.symm, hO.drewN _⟩, by simp [intOf]; omega⟩
              · go_wp2_with fail
                go_quiet (fail)
                go_wp2_with fail
                exact ⟨⟨k + 1, by omega, by go_num, by rw [HB.out, HN.out]; exact congrArg (Value.int .i64) HM.out.symm, hO.drewN _⟩, by simp [intOf]; omega⟩
        · have hn : vic1 (best (k : Int) L) f = best k L := by simp [vic1, hw]
          have HN := Lib.hid hn
          have hs0 : (f.state == 0) = false := by
            have : ¬ f.state = 0 := fun h => hw (.inl h)
            simpa using this
          have hs2 : (f.state == 2) = false := by
            have : ¬ f.state = 2 := fun h => hw (.inr h)
            simpa using this
          go_wp2_with fail
          go_quiet (fail)
          go_wp2_with fail
          exact ⟨⟨k + 1, by omega, by go_num, by rw [HB.out, HN.out], hO.drewN _⟩, by simp [intOf]; omega⟩
    · have hkl := Lib.hid (show k = 48 by omega)
      have q1 : ¬ (k : Int) < 48 := by omega
      have hfin : FVic L w (.returned (.int .i64 (idOf (best k L)))) wr := ⟨by rw [hkl.out]; unfold best; rw [upto_all H.ok (by omega)], hO⟩
      go_wp2_with fail
      go_ret
      exact hfin
end Go.Proofs.Ytbkgjghbmafoeaa
