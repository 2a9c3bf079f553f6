/- The walk over a table's gone. Conditions: the table lies whole in memory, its wheel aside. -/
import Derived.Test.YtbkgjghbmafoeaaFlFind
namespace Go.Proofs.Ytbkgjghbmafoeaa
open Go.RowKit
open Go.ChangeMaps (setBlock)

/-- The map behind a delete of both keys. -/
theorem look_gone {kes : List (KEnt FKey)} {L : List Fl} (nd : (kes.map (·.key)).Nodup) (look : ∀ k, klook k kes = (fnd L k).map fun x => sideV x.1.id x.2) (ok : FOk L) {f : Fl} (hf : f ∈ L) (k : FKey) :
    klook k (kdel f.bck (kdel f.opn kes)) = (fnd (dropF f.id L) k).map fun x => sideV x.1.id x.2 := by
  rw [klook_kdel _ _ (nd.sublist ((kdel_sub _ _).map _)), klook_kdel _ _ nd, fnd_dropF ok hf, look]
  by_cases h1 : k = f.opn <;> by_cases h2 : k = f.bck <;> simp [h1, h2]

def FGone (tb wb r : Nat) (p : Nat → Option Nat) (kes : List (KEnt FKey)) (clock : Nat) (L : List Fl) (f : Fl) (w : World) (e : Ending) (w' : World) : Prop :=
  e = .returned (.tuple #[]) ∧ TB w' tb wb r (upd p f.id.toNat none) (kdel f.bck (kdel f.opn kes)) clock (dropF f.id L) ∧ Off (fun i => i = tb ∨ i = r) w w'

set_option maxRecDepth 100000 in
set_option maxHeartbeats 4000000 in
theorem gone_any {w : World} {tb wb r o : Nat} {p : Nat → Option Nat} {kes : List (KEnt FKey)} {clock : Nat} {L : List Fl} (H : TB w tb wb r p kes clock L) {f : Fl} (hf : f ∈ L) (ho : p f.id.toNat = some o) :
    Calls Try.prog 38 #[.pointer (some ⟨tb, 0, none⟩), .pointer (some ⟨o, 0, none⟩)] w (FGone tb wb r p kes clock L f w) := by
  obtain ⟨o', ho', hB⟩ := H.one f hf
  rw [ho] at ho'
  simp only [Option.some.injEq] at ho'
  subst ho'
  have hrng := H.ok.rng f hf
  obtain ⟨i, hi⟩ : ∃ i : Nat, f.id = i := ⟨f.id.toNat, by omega⟩
  have hi1 : 1 ≤ i := by omega
  have hi2 : i < 49 := by omega
  have hor : o ≠ r := H.map.not_blk hB
  have htr : tb ≠ r := H.map.not_blk H.top
  have hto : tb ≠ o := blk_ne H.top hB (by decide)
  -- the first delete
  have c50 : ∀ w', Off (· = r) w w' → w'.cell? ⟨tb, 50, none⟩ = some (.map (some r)) := fun w' h => (h.blk H.top htr).cell 50
  have hk := fun w' (h : Off (· = r) w w') => keyc (range_opn (range_blk (h.blk hB hor) 0 (flL f) (fun j v hj => by simpa using hj)))
  have k0 := fun w' h => (hk w' h).1
  have k1 := fun w' h => (hk w' h).2.1
  have k2 := fun w' h => (hk w' h).2.2.1
  have k3 := fun w' h => (hk w' h).2.2.2.1
  have k4 := fun w' h => (hk w' h).2.2.2.2.1
  have k5 := fun w' h => (hk w' h).2.2.2.2.2.1
  have k6 := fun w' h => (hk w' h).2.2.2.2.2.2
  clear hk
  have hdl := fun t2 ty => run_delete (P := Try.prog) key_key Try.underlying72 H.map.drew f.opn t2 ty
  simp only [← keyW_eq] at hdl
  have hset := H.map.drew.set (es' := kdel f.opn kes) (clock' := clock)
  generalize hOb : (Obj.map ((kdel f.opn kes).map (KEnt.raw keyV)).toArray clock) = O at hdl hset
  clear hOb
  have HI := Lib.hid hi
  have HO' := Lib.hid ho
  clear hi ho hrng
  go_enter Try.func38, Try.ntmps38
  go_wp2_with fail
  go_region_held3 (fun w' => Off (· = r) w w') (first | exact (Off.refl _ _).drew | exact (Off.refl _ _).drew.setBlock _ (fun _ => rfl)) (first | fail)
  have hO1 : Off (· = r) w (setBlock w.drew r O) := (Off.refl _ _).drew.setBlock _ (fun _ => rfl)
  clear c50 k0 k1 k2 k3 k4 k5 k6 hdl
  generalize setBlock w.drew r O = w1 at *
  -- the second delete
  have hB1 := hO1.blk hB hor
  have hT1 := hO1.blk H.top htr
  have c50 : ∀ w', Off (· = r) w1 w' → w'.cell? ⟨tb, 50, none⟩ = some (.map (some r)) := fun w' h => (h.blk hT1 htr).cell 50
  have hk := fun w' (h : Off (· = r) w1 w') => keyc (range_bck (range_blk (h.blk hB1 hor) 0 (flL f) (fun j v hj => by simpa using hj)))
  have k0 := fun w' h => (hk w' h).1
  have k1 := fun w' h => (hk w' h).2.1
  have k2 := fun w' h => (hk w' h).2.2.1
  have k3 := fun w' h => (hk w' h).2.2.2.1
  have k4 := fun w' h => (hk w' h).2.2.2.2.1
  have k5 := fun w' h => (hk w' h).2.2.2.2.2.1
  have k6 := fun w' h => (hk w' h).2.2.2.2.2.2
  clear hk
  have hdl := fun t2 ty => run_delete (P := Try.prog) key_key Try.underlying72 hset.drew f.bck t2 ty
  simp only [← keyW_eq] at hdl
  have hset2 := hset.drew.set (es' := kdel f.bck (kdel f.opn kes)) (clock' := clock)
  generalize hOb : (Obj.map ((kdel f.bck (kdel f.opn kes)).map (KEnt.raw keyV)).toArray clock) = O2 at hdl hset2
  clear hOb
  go_wp2_with fail
  go_region_held3 (fun w' => Off (· = r) w1 w') (first | exact (Off.refl _ _).drew | exact (Off.refl _ _).drew.setBlock _ (fun _ => rfl)) (first | fail)
  have hO2 : Off (· = r) w1 (setBlock w1.drew r O2) := (Off.refl _ _).drew.setBlock _ (fun _ => rfl)
  clear c50 k0 k1 k2 k3 k4 k5 k6 hdl
  generalize setBlock w1.drew r O2 = w2 at *
  -- the pointer
  have hB2 := hO2.blk hB1 hor
  have hT2 := hO2.blk hT1 htr
  have q1 : (0 : Int) ≤ (i : Int) := by omega
  have q2 : (i : Int) < 49 := by omega
  have c0 : ∀ w', Off (· = tb) w2 w' → w'.cell? ⟨o, 0, none⟩ = some (.int .i64 i) := fun w' h => by
    rw [(h.blk hB2 (fun e => hto e.symm)).cell 0, ← HI.out]; rfl
  have c1 : w2.cell? ⟨tb, 1 + i, none⟩ = some (.pointer (some ⟨o, 0, none⟩)) := by
    rw [hT2.cell, List.getElem?_toArray, tblL_flow wb p r L.length hi2, ← show f.id.toNat = i by have := HI.out; omega, HO'.out]; rfl
  have f1 := hT2.free (1 + i)
  go_wp2_with fail
  go_region_held3 (fun w' => Off (· = tb) w2 w') (first | exact (Off.refl _ _).drew | exact (Off.refl _ _).drew.setCell _ (fun _ => rfl)) (first | fail)
  have hO3 : Off (· = tb) w2 ((w2.setCell ⟨tb, 1 + i, none⟩ (.pointer none)).drew) := (Off.setCell (S := (· = tb)) (p := ⟨tb, 1 + i, none⟩) (Off.refl _ w2) (.pointer none) (fun _ => rfl)).drew
  have hT3 := (hT2.setCell (1 + i) (.pointer none)).drew
  have hl := dropF_length H.ok.ids hf
  have hset3 : MapAt keyV ((w2.setCell ⟨tb, 1 + i, none⟩ (.pointer none)).drew) r _ clock := hset2.off hO3 (fun e => htr e.symm)
  clear c0 c1 f1
  generalize (w2.setCell ⟨tb, 1 + i, none⟩ (.pointer none)).drew = w3 at *
  have hT3' : Blk w3 tb 76 (tblL wb (upd p i none) r L.length).toArray := by
    have := tblL_set wb p r L.length hi2 none
    rw [List.setIfInBounds_toArray] at hT3
    rw [← this]; exact hT3
  clear hT3
  have c51 : w3.cell? ⟨tb, 51, none⟩ = some (.int .i64 L.length) := hT3'.cell 51
  have f51 := hT3'.free 51
  have hL48 := H.ok.few
  have hT4 := hT3'.setCell 51 (.int .i64 ((L.length : Int) - 1))
  have hO4 : Off (· = tb) w3 (w3.setCell ⟨tb, 51, none⟩ (.int .i64 ((L.length : Int) - 1))) := (Off.refl _ _).setCell _ (fun _ => rfl)
  have HL := Lib.hid hl
  clear hl
  go_wp2_with fail
  go_end0
  have hT4' : Blk (w3.setCell ⟨tb, 51, none⟩ (.int .i64 ((L.length : Int) - 1))) tb 76 (tblL wb (upd p i none) r (dropF f.id L).length).toArray := by
    have := tblL_setMany wb (upd p i none) r L.length (dropF f.id L).length
    rw [List.setIfInBounds_toArray, show ((L.length : Int) - 1) = ((dropF f.id L).length : Int) by have := HL.out; omega] at hT4
    rw [← this, show ((L.length : Int) - 1) = ((dropF f.id L).length : Int) by have := HL.out; omega]; exact hT4
  have hO34 : Off (· = tb) w2 (w3.setCell ⟨tb, 51, none⟩ (.int .i64 ((L.length : Int) - 1))) := hO3.trans hO4
  have hall : Off (fun i => i = tb ∨ i = r) w (w3.setCell ⟨tb, 51, none⟩ (.int .i64 ((L.length : Int) - 1))) :=
    (((hO1.mono (S' := fun i => i = tb ∨ i = r) (fun _ _ e => .inr e)).step hO2 (fun _ _ e => .inr e)).step hO34 (fun _ _ e => .inl e))
  refine ⟨rfl, ⟨?_, fun g hg => ?_, fun j hj hno => ?_, hset3.off hO4 (fun e => htr e.symm), ?_, fun e he => ?_, fun k => look_gone H.nd H.look H.ok hf k, H.ok.drop f.id⟩, hall⟩
  · rw [show f.id.toNat = i by have := HI.out; omega]; exact hT4'
  · obtain ⟨hg, hne⟩ := mem_dropF.1 hg
    obtain ⟨og, hog, hgb⟩ := H.one g hg
    refine ⟨og, ?_, hall.blk hgb ?_⟩
    · have := H.ok.rng g hg
      unfold upd
      rw [if_neg (by have := HI.out; omega)]; exact hog
    · rintro (e | e)
      · exact blk_ne hgb H.top (by decide) e
      · exact H.map.not_blk hgb e
  · unfold upd
    by_cases hj' : j = f.id.toNat
    · rw [if_pos hj']
    · rw [if_neg hj']
      refine H.off_ j hj fun g hg e => ?_
      by_cases hge : g.id = f.id
      · exact hj' (by have := HI.out; omega)
      · exact hno g (mem_dropF.2 ⟨hg, hge⟩) e
  · exact H.nd.sublist (((kdel_sub _ _).trans (kdel_sub _ _)).map _)
  · exact H.born e (((kdel_sub _ _).trans (kdel_sub _ _)).subset he)
end Go.Proofs.Ytbkgjghbmafoeaa
