/- The walk over a table's Drop. Conditions: the table lies whole in memory. -/
import Derived.Test.YtbkgjghbmafoeaaFlNew
import Derived.Test.YtbkgjghbmafoeaaFlGone
namespace Go.Proofs.Ytbkgjghbmafoeaa
open Go.RowKit

def FGetP (o : Option Addr) (w : World) (e : Ending) (w' : World) : Prop := e = .returned (.pointer o) ∧ w = w'

theorem get_no {w : World} {tb wb r : Nat} {p : Nat → Option Nat} {kes : List (KEnt FKey)} {clock : Nat} {L : List Fl} (H : TB w tb wb r p kes clock L) (id : Int) (hno : ∀ f ∈ L, f.id ≠ id) :
    Calls Try.prog 39 #[.pointer (some ⟨tb, 0, none⟩), .int .i64 id] w (FGetP none w) := by
  by_cases h : id < 1 ∨ 49 ≤ id
  · exact get_out tb id h
  · obtain ⟨i, rfl⟩ : ∃ i : Nat, id = i := ⟨id.toNat, by omega⟩
    have := get_at H (i := i) (by omega) (by omega)
    rw [H.off_ i (by omega) hno] at this
    exact this

theorem get_yes {w : World} {tb wb r o : Nat} {p : Nat → Option Nat} {kes : List (KEnt FKey)} {clock : Nat} {L : List Fl} (H : TB w tb wb r p kes clock L) {f : Fl} (hf : f ∈ L) (ho : p f.id.toNat = some o) :
    Calls Try.prog 39 #[.pointer (some ⟨tb, 0, none⟩), .int .i64 f.id] w (FGetP (some ⟨o, 0, none⟩) w) := by
  have hrng := H.ok.rng f hf
  obtain ⟨i, hi⟩ : ∃ i : Nat, f.id = i := ⟨f.id.toNat, by omega⟩
  have hget := get_at H (i := i) (by omega) (by omega)
  rw [show f.id.toNat = i by omega] at ho
  rw [ho, ← hi] at hget
  exact hget

def FDrop (tb : Nat) (U : Nat → Prop) (L : List Fl) (id : Int) (w : World) (e : Ending) (w' : World) : Prop :=
  ∃ U' b, e = .returned (.bool b) ∧ (b = true ∧ (∃ f ∈ L, f.id = id) ∨ b = false ∧ ∀ f ∈ L, f.id ≠ id) ∧ Tbl w' tb U' (dropF id L) ∧ Off U w w' ∧ ∀ i, U' i → U i

theorem perm_dropF {T : List Tm} {L : List Fl} (h : T.Perm (L.map ft)) (id : Int) : (del id T).Perm ((dropF id L).map ft) := by
  rw [ft_dropF]; exact h.filter _

set_option maxRecDepth 100000 in
set_option maxHeartbeats 2000000 in
theorem fdrop_none {w : World} {tb : Nat} {U : Nat → Prop} {L : List Fl} (id : Int) (H : Tbl w tb U L) (hno : ∀ f ∈ L, f.id ≠ id) :
    Calls Try.prog 20 #[.pointer (some ⟨tb, 0, none⟩), .int .i64 id] w (FDrop tb U L id w) := by
  have hfin : FDrop tb U L id w (.returned (.bool false)) w := ⟨U, false, rfl, .inr ⟨rfl, hno⟩, by rw [dropF_none hno]; exact H, Off.refl _ _, fun _ k => k⟩
  have hget : Calls Try.prog 39 #[.pointer (some ⟨tb, 0, none⟩), .int .i64 id] w (FGetP none w) := by
    obtain ⟨wb, r, S, p, kes, clock, T, H, W, hT, hr, hU⟩ := H
    exact get_no H id hno
  have HF := Lib.hid hfin
  clear hfin hno H
  go_enter Try.func20, Try.ntmps20
  go_wp2_with fail
  refine hget.mono ?_
  rintro e w1 ⟨rfl, rfl⟩
  clear hget
  go_wp2_with fail
  go_ret
  exact HF.out

set_option maxRecDepth 100000 in
set_option maxHeartbeats 2000000 in
theorem fdrop_some {w : World} {tb : Nat} {U : Nat → Prop} {L : List Fl} (f : Fl) (hf : f ∈ L) (H : Tbl w tb U L) :
    Calls Try.prog 20 #[.pointer (some ⟨tb, 0, none⟩), .int .i64 f.id] w (FDrop tb U L f.id w) := by
  obtain ⟨wb, r, S, p, kes, clock, T, H, W, hT, hr, hU⟩ := H
  obtain ⟨o, ho, hB⟩ := H.one f hf
  have hget := get_yes H hf ho
  have c0 : w.cell? ⟨tb, 0, none⟩ = some (.pointer (some ⟨wb, 0, none⟩)) := H.top.cell 0
  have HP := Lib.hid ho
  clear ho
  go_enter Try.func20, Try.ntmps20
  go_wp2_with fail
  refine hget.mono ?_
  rintro e w1 ⟨rfl, rfl⟩
  clear hget
  go_wp2_with fail
  refine (wdrop_any f.id W).mono ?_
  rintro e w2 ⟨S', T', b, rfl, ⟨rfl, _⟩, hW2, hO2, hS2⟩
  have hap := H.apart W hr
  have H2 := H.off hO2 hap
  clear c0
  go_wp2_with fail
  refine (gone_any H2 hf HP.out).mono ?_
  rintro e w3 ⟨rfl, H3, hO3⟩
  go_wp2_with fail
  go_ret
  have hap2 : ∀ i, S' i → ¬ (i = tb ∨ i = r) := fun i hi e => by
    rcases e with e | e
    · exact hap i (.inl e) (hS2 i hi)
    · exact hr (by rw [← e]; exact hS2 i hi)
  refine ⟨_, true, rfl, .inl ⟨rfl, f, hf, rfl⟩, ⟨wb, r, S', _, _, clock, _, H3, hW2.off hO3 hap2, perm_dropF hT _, fun h => hr (hS2 _ h), fun _ => Iff.rfl⟩, ?_, ?_⟩
  · refine (hO2.mono (S' := U) fun i _ h => (hU i).2 (.inr h)).step hO3 fun i hi e => (hU i).2 (.inl ?_)
    rcases e with e | e
    · exact .inl e
    · exact .inr (.inl e)
  · rintro i ((e | e | ⟨j, o', hj, ho', e⟩) | h)
    · exact (hU i).2 (.inl (.inl e))
    · exact (hU i).2 (.inl (.inr (.inl e)))
    · refine (hU i).2 (.inl (.inr (.inr ⟨j, o', hj, ?_, e⟩)))
      unfold upd at ho'
      split at ho'
      · cases ho'
      · exact ho'
    · exact (hU i).2 (.inr (hS2 i h))

theorem fdrop_any {w : World} {tb : Nat} {U : Nat → Prop} {L : List Fl} (id : Int) (H : Tbl w tb U L) :
    Calls Try.prog 20 #[.pointer (some ⟨tb, 0, none⟩), .int .i64 id] w (FDrop tb U L id w) := by
  by_cases h : ∃ f ∈ L, f.id = id
  · obtain ⟨f, hf, rfl⟩ := h
    exact fdrop_some f hf H
  · exact fdrop_none id H fun f hf e => h ⟨f, hf, e⟩
end Go.Proofs.Ytbkgjghbmafoeaa
