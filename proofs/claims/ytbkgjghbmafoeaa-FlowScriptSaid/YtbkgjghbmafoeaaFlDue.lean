/- The walk over a table's Due. Conditions: the table lies whole in memory. -/
import Derived.Test.YtbkgjghbmafoeaaFlDsg
import Derived.Test.YtbkgjghbmafoeaaFlDuePure
namespace Go.Proofs.Ytbkgjghbmafoeaa
open Go.RowKit

def FDue (tb : Nat) (U : Nat → Prop) (L : List Fl) (now : Int) (w : World) (e : Ending) (w' : World) : Prop :=
  ∃ U' v, e = .returned v ∧ w'.ownsRow w.heap.size 3 1 v (dueF now L).length ((dueF now L).map ik) ∧ Tbl w' tb U' (liveF now L) ∧ Off U w w' ∧ ∀ i, U' i → U i

def FDueRel (W : World) (tb wb r : Nat) (ids : List Int) (L : List Fl) (p0 : Nat → Option Nat) (clock : Nat) (kv : Value) (wr : World) : Prop :=
  ∃ (k : Nat) (p : Nat → Option Nat) (kes : List (KEnt FKey)), k ≤ ids.length ∧ kv = .int .i64 k ∧ TB wr tb wb r p kes clock (dropAll (ids.take k) L) ∧ (∀ j o, p j = some o → p0 j = some o) ∧ Off (fun i => i = tb ∨ i = r) W wr

set_option maxRecDepth 100000 in
set_option maxHeartbeats 2000000 in
theorem fdue_any {w : World} {tb : Nat} {U : Nat → Prop} {L : List Fl} (now : Int) (H : Tbl w tb U L) :
    Calls Try.prog 15 #[.pointer (some ⟨tb, 0, none⟩), .int .i64 now] w (FDue tb U L now w) := by
  obtain ⟨wb, r, S, p, kes, clock, T, H, W, hT, hr, hU⟩ := H
  have c0 : w.cell? ⟨tb, 0, none⟩ = some (.pointer (some ⟨wb, 0, none⟩)) := H.top.cell 0
  have hsT := W.few.2
  have hTL := wt_eq hsT hT H.ok
  have hap := H.apart W hr
  have hHW := Lib.hid hTL
  clear hTL
  go_enter Try.func15, Try.ntmps15
  go_wp2_with fail
  refine (wdue_any now W).mono ?_
  rintro e w1 ⟨S', v, rfl, hrow, W1, hO1, hS1⟩
  have H1 := H.off hO1 hap
  have hDl : (dueIds now T).length ≤ 256 := by rw [dueIds, List.length_map]; exact Nat.le_trans (List.takeWhile_prefix _).length_le W.few.1
  obtain ⟨a, cap, hv, hcap, hcm, hcells⟩ := ownsRow_form hrow
  subst hv
  have hnd := dueIds_nodup (now := now) hsT
  have hmem : ∀ id, id ∈ dueIds now T → ∃ f ∈ L, f.id = id := fun id hid => by
    obtain ⟨y, hy, rfl, _⟩ := (mem_dueIds hsT).1 hid
    obtain ⟨f, hf, rfl⟩ := List.mem_map.1 (hT.mem_iff.1 hy)
    exact ⟨f, hf, rfl⟩
  have hids : ∃ D, dueIds now T = D := ⟨_, rfl⟩
  obtain ⟨D, hD⟩ := hids
  rw [hD] at hrow hDl hcap hcells hnd hmem ⊢
  have HD := Lib.hid hD
  have HM := Lib.hid hmem
  have HN := Lib.hid hnd
  have HC := Lib.hid hcells
  clear hD hmem hnd hcells c0
  have hvo : ∀ g, (Value.slice a D.length cap).ownBlock = some g → w.heap.size ≤ g ∧ g < w1.heap.size := fun g hg => hrow.lt g hg
  have HVO := Lib.hid hvo
  clear hvo
  have hDl2 : (D.length : Int) ≤ 256 := by omega
  go_wp2_with fail
  go_loopw [16] (FDueRel w1 tb wb r D L p clock) (fun k _ => D.length - (intOf k).toNat)
  case atStart => exact ⟨0, p, kes, Nat.zero_le _, rfl, by rw [List.take_zero, dropAll_nil]; exact H1, (fun _ _ h => h), Off.refl _ _⟩
  case round =>
    obtain ⟨k, p', kes', hk, rfl, Hk, hpp, hO⟩ := hrel
    have q0 : (0 : Int) ≤ (k : Int) := by omega
    by_cases hlt : k < D.length
    · have q1 : (k : Int) < (D.length : Int) := by omega
      have hDk := List.getElem?_eq_getElem hlt
      obtain ⟨g, hag, hvg, hcell⟩ := HC.out k hlt
      subst hag
      have hg1 := HVO.out g hvg
      have htl := H.top.lt
      have hrl := H.map.lt
      have d0 : wr.cell? ⟨g, k, none⟩ = some (.int .i64 D[k]) := by
        rw [hO.cell (p := ⟨g, k, none⟩) hg1.2 (fun e => by rcases e with e | e <;> (simp only at e; omega)), hcell, List.getElem?_map, hDk]; rfl
      obtain ⟨f, hf, hfe⟩ := HM.out D[k] (List.getElem_mem hlt)
      have hnin : f.id ∉ D.take k := fun h => by
        obtain ⟨j, hj, he⟩ := List.getElem_of_mem h
        rw [List.getElem_take] at he
        have hj' : j < k := by rw [List.length_take] at hj; omega
        have := (List.getElem_inj HN.out).1 (he.trans hfe)
        omega
      have hfk : f ∈ dropAll (D.take k) L := mem_dropAll.2 ⟨hf, hnin⟩
      obtain ⟨o, ho, hB⟩ := Hk.one f hfk
      have hrng := H.ok.rng f hf
      obtain ⟨i, hi⟩ : ∃ i : Nat, f.id = i := ⟨f.id.toNat, by omega⟩
      have hi1 : 1 ≤ i := by omega
      have hi2 : i < 49 := by omega
      have hoi : p' i = some o := by rw [← show f.id.toNat = i by omega]; exact ho
      have d1 : wr.cell? ⟨tb, 1 + i, none⟩ = some (.pointer (some ⟨o, 0, none⟩)) := by
        rw [Hk.top.cell, List.getElem?_toArray, tblL_flow wb p' r _ hi2, hoi]; rfl
      rw [← hfe, hi] at d0
      have q2 : (0 : Int) ≤ (i : Int) := by omega
      have q3 : (i : Int) < 49 := by omega
      have hstep : dropF f.id (dropAll (D.take k) L) = dropAll (D.take (k + 1)) L := by
        rw [dropAll_snoc, hfe, List.take_succ_eq_append_getElem hlt]
      have HS := Lib.hid hstep
      have HO' := Lib.hid ho
      clear hstep ho hi hrng hfe hoi hDk hcell hvg hnin
      go_wp2_with fail
      refine (gone_any Hk hfk HO'.out).mono ?_
      rintro e w2 ⟨rfl, H2, hO2⟩
      go_wp2_with fail
      refine ⟨⟨k + 1, _, _, by omega, by go_num, by rw [← HS.out]; exact H2, fun j o' h => ?_, hO.trans hO2⟩, by simp [intOf]; omega⟩
      unfold upd at h
      split at h
      · cases h
      · exact hpp j o' h
    · have hkl : k = D.length := by omega
      have q1 : ¬ (k : Int) < (D.length : Int) := by omega
      have hap1 : ∀ i, S' i → ¬ (i = tb ∨ i = r) := fun i hi e => by
        rcases e with e | e
        · exact hap i (.inl e) (hS1 i hi)
        · exact hr (by rw [← e]; exact hS1 i hi)
      rw [hkl, List.take_length, ← HD.out, dropAll_due hsT hT H.ok] at Hk
      have hfin : FDue tb U L now w (.returned (.slice a D.length cap)) wr := by
        refine ⟨_, _, rfl, ?_, ⟨wb, r, S', p', kes', clock, _, Hk, W1.off hO hap1, perm_live hsT hT, fun h => hr (hS1 _ h), fun _ => Iff.rfl⟩, ?_, ?_⟩
        · unfold dueF
          rw [← hHW.out, HD.out]
          refine ownsRow_off hrow hO (fun g hg e => ?_)
          have := HVO.out g hg
          rcases e with e | e
          · have := H.top.lt; omega
          · have := H.map.lt; omega
        · refine (hO1.mono (S' := U) fun i _ h => (hU i).2 (.inr h)).step hO fun i hi e => (hU i).2 (.inl ?_)
          rcases e with e | e
          · exact .inl e
          · exact .inr (.inl e)
        · rintro i ((e | e | ⟨j, o', hj, ho', e⟩) | h)
          · exact (hU i).2 (.inl (.inl e))
          · exact (hU i).2 (.inl (.inr (.inl e)))
          · exact (hU i).2 (.inl (.inr (.inr ⟨j, o', hj, hpp j o' ho', e⟩)))
          · exact (hU i).2 (.inr (hS1 i h))
      have HF := Lib.hid hfin
      clear hfin Hk hkl
      go_wp2_with fail
      go_ret
      exact HF.out
end Go.Proofs.Ytbkgjghbmafoeaa
