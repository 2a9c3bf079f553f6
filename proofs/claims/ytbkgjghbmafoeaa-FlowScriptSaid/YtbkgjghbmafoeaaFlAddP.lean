/- A table with one flow more. Conditions: what each block holds. -/
import Derived.Test.YtbkgjghbmafoeaaFlAddA
namespace Go.Proofs.Ytbkgjghbmafoeaa
open Go.RowKit
open Go.ChangeMaps (setBlock)

def K1 (kes : List (KEnt FKey)) (clock : Nat) (f : Fl) (n : Int) : List (KEnt FKey) := kes ++ [⟨f.opn, sideV n false, clock⟩]
def K2 (kes : List (KEnt FKey)) (clock : Nat) (f : Fl) (n : Int) : List (KEnt FKey) := K1 kes clock f n ++ [⟨f.bck, sideV n true, clock + 1⟩]

theorem klook_not {kes : List (KEnt FKey)} {M : List Fl} (look : ∀ k, klook k kes = (fnd M k).map fun x => sideV x.1.id x.2) {k : FKey} (h : tkn M k = false) : klook k kes = none := by
  rw [look]; unfold tkn at h; cases hq : fnd M k with
  | none => rfl
  | some x => rw [hq] at h; simp at h

theorem TB.add {w wz : World} {tb wb r N : Nat} {S : Nat → Prop} {p : Nat → Option Nat} {kes : List (KEnt FKey)} {clock n : Nat} {M : List Fl} {f : Fl} (H : TB w tb wb r p kes clock M)
    (hO : Off (fun i => i = tb ∨ i = r ∨ i = N ∨ S i) w wz) (hN : ∀ i, TBOwn tb r p i → i ≠ N) (hS : ∀ i, TBOwn tb r p i → ¬ S i) (hn : free 1 M = n) (hl : M.length < 48)
    (ho : tkn M f.opn = false) (hb : tkn M f.bck = false) (hne : f.opn ≠ f.bck)
    (top : Blk wz tb 76 (tblL wb (upd p n (some N)) r (M.length + 1)).toArray) (box : Blk wz N 38 (flL { f with id := n }).toArray) (map : MapAt keyV wz r (K2 kes clock f n) (clock + 2)) :
    TB wz tb wb r (upd p n (some N)) (K2 kes clock f n) (clock + 2) (insF f 1 M) := by
  have hok := H.ok.ins ho hb hne hl
  have k1 := klook_not H.look ho
  have k2 := klook_not H.look hb
  have h1 : f.opn ∉ kes.map (·.key) := klook_keys k1
  have h2 : f.bck ∉ kes.map (·.key) := klook_keys k2
  refine ⟨by rw [insF_length]; exact top, fun g hg => ?_, fun i hi hno => ?_, map, ?_, fun e he => ?_, fun k => ?_, hok⟩
  · rcases mem_insF.1 hg with rfl | hg
    · refine ⟨N, ?_, ?_⟩
      · simp [upd, hn]
      · rw [hn]; exact box
    · obtain ⟨o, hpo, hB⟩ := H.one g hg
      have hr := H.ok.rng g hg
      have hne' := free_not H.ok.ids (fun g hg => (H.ok.rng g hg).1) g hg
      have hown : TBOwn tb r p o := .inr (.inr ⟨_, o, by omega, hpo, rfl⟩)
      refine ⟨o, ?_, hO.blk hB ?_⟩
      · unfold upd; rw [if_neg (by omega)]; exact hpo
      · rintro (e | e | e | e)
        · exact blk_ne hB H.top (by decide) e
        · exact H.map.not_blk hB e
        · exact hN o hown e
        · exact hS o hown e
  · unfold upd
    by_cases hi' : i = n
    · exact absurd (by rw [hn, hi']) (hno _ (mem_insF.2 (.inl rfl)))
    · rw [if_neg hi']
      exact H.off_ i hi fun g hg => hno g (mem_insF.2 (.inr hg))
  · unfold K2 K1
    simp only [List.map_append, List.map_cons, List.map_nil, List.append_assoc, List.cons_append, List.nil_append]
    rw [List.nodup_append]
    refine ⟨H.nd, by simp [hne], ?_⟩
    intro x hx y hy e
    subst e
    simp only [List.mem_cons, List.not_mem_nil, or_false] at hy
    rcases hy with rfl | rfl
    · exact h1 hx
    · exact h2 hx
  · unfold K2 K1 at he
    simp only [List.mem_append, List.mem_singleton] at he
    rcases he with (he | rfl) | rfl
    · have := H.born e he; omega
    · simp only; omega
    · simp only; omega
  · unfold K2 K1
    rw [klook_add _ _ _ _ _ (by rw [klook_add _ _ _ _ _ k1, if_neg (fun e => hne e.symm)]; exact k2), klook_add _ _ _ _ _ k1, H.look, fnd_insF H.ok ho hb hne hl]
    by_cases e1 : k = f.opn
    · rw [if_pos e1, if_neg (fun e => hne (e1.symm.trans e)), if_pos e1, hn]; rfl
    · rw [if_neg e1, if_neg e1]
      by_cases e2 : k = f.bck
      · rw [if_pos e2, if_pos e2, hn]; rfl
      · rw [if_neg e2, if_neg e2]

theorem addF_go {L M : List Fl} {f : Fl} {gone : Int} (t1 : tkn L f.opn = false) (t2 : tkn L f.bck = false) (t3 : f.opn ≠ f.bck) (h : L.length ≠ 48 ∧ M = L ∧ gone = 0 ∨ L.length = 48 ∧ ∃ g, vic L = some g ∧ M = dropF g.id L ∧ gone = g.id) :
    addF L f = (free 1 M, gone, 0, insF f 1 M) ∧ tkn M f.opn = false ∧ tkn M f.bck = false := by
  unfold addF
  rw [if_neg (by rw [t1, t2]; simp; exact t3)]
  rcases h with ⟨h1, rfl, rfl⟩ | ⟨h1, g, hg, rfl, rfl⟩
  · rw [if_neg h1]; exact ⟨rfl, t1, t2⟩
  · rw [if_pos h1, hg]
    exact ⟨rfl, tkn_false.2 fun x hx => tkn_false.1 t1 x (mem_dropF.1 hx).1, tkn_false.2 fun x hx => tkn_false.1 t2 x (mem_dropF.1 hx).1⟩
end Go.Proofs.Ytbkgjghbmafoeaa
