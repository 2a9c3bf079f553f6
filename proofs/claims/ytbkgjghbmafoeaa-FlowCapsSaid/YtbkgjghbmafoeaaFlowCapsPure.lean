/- The plain law of FlowCaps: what Add answers; the keys of the flows. No program in sight. -/
import Derived.Test.YtbkgjghbmafoeaaFlowPure
namespace Go.Proofs.Ytbkgjghbmafoeaa
open Go.RowKit

theorem addF_cases {L : List Fl} (f : Fl) (ok : FOk L) :
    ((addF L f).2.2.1 = 63 ∧ (addF L f).2.2.2 = L) ∨ ((addF L f).2.2.1 = 120 ∧ L.length = 48 ∧ (∀ g ∈ L, ¬ g.weak) ∧ (addF L f).2.2.2 = L) ∨
      ((addF L f).2.2.1 = 0 ∧ f.opn ≠ f.bck ∧ tkn (addF L f).2.2.2 f.opn = true) := by
  unfold addF
  split
  · exact .inl ⟨rfl, rfl⟩
  · rename_i hn
    simp only [not_or] at hn
    have ht : ∀ M : List Fl, tkn (insF f 1 M) f.opn = true := fun M => tkn_iff.2 ⟨_, mem_insF.2 (.inl rfl), .inl rfl⟩
    split
    · rename_i h48
      split
      · rename_i hv
        exact .inr (.inl ⟨rfl, h48, vic_none hv, rfl⟩)
      · exact .inr (.inr ⟨rfl, hn.2.2, ht _⟩)
    · exact .inr (.inr ⟨rfl, hn.2.2, ht _⟩)

def keysOf (L : List Fl) : List FKey := L.flatMap fun f => [f.opn, f.bck]
theorem keysOf_len : ∀ L : List Fl, (keysOf L).length = 2 * L.length
  | [] => rfl
  | f :: L => by
    have := keysOf_len L
    unfold keysOf at *
    rw [List.flatMap_cons, List.length_append, this]; simp; omega
theorem keysOf_snoc (L : List Fl) (f : Fl) : keysOf (L ++ [f]) = keysOf L ++ [f.opn] ++ [f.bck] := by simp [keysOf]
theorem mem_keysOf {L : List Fl} {k : FKey} : k ∈ keysOf L ↔ ∃ g ∈ L, k = g.opn ∨ k = g.bck := by simp [keysOf]

theorem take_ne {L : List Fl} (ok : FOk L) {j : Nat} {f g : Fl} (hj : L[j]? = some f) (hg : g ∈ L.take j) : g ∈ L ∧ g ≠ f := by
  refine ⟨(List.take_subset _ _) hg, fun e => ?_⟩
  subst e
  obtain ⟨i, hi, he⟩ := List.getElem_of_mem hg
  rw [List.getElem_take] at he
  have hij : i < j := by rw [List.length_take] at hi; omega
  have hjl : j < L.length := by
    rcases Nat.lt_or_ge j L.length with h' | h'
    · exact h'
    · rw [List.getElem?_eq_none h'] at hj; cases hj
  rw [List.getElem?_eq_getElem hjl] at hj
  have := (List.pairwise_iff_getElem.1 ok.ids) i j (by omega) hjl hij
  simp only [Option.some.injEq] at hj
  rw [he, hj] at this
  omega

theorem fresh_opn {L : List Fl} (ok : FOk L) {j : Nat} {f : Fl} (hj : L[j]? = some f) : f.opn ∉ keysOf (L.take j) := fun h => by
  obtain ⟨g, hg, e⟩ := mem_keysOf.1 h
  obtain ⟨h1, h2⟩ := take_ne ok hj hg
  have hf := List.mem_of_getElem? hj
  rcases e with e | e
  · exact h2 (ok.oo g h1 f hf e.symm)
  · exact ok.ob f hf g h1 e
theorem fresh_bck {L : List Fl} (ok : FOk L) {j : Nat} {f : Fl} (hj : L[j]? = some f) : f.bck ∉ keysOf (L.take j) ++ [f.opn] := fun h => by
  have hf := List.mem_of_getElem? hj
  rcases List.mem_append.1 h with h | h
  · obtain ⟨g, hg, e⟩ := mem_keysOf.1 h
    obtain ⟨h1, h2⟩ := take_ne ok hj hg
    rcases e with e | e
    · exact ok.ob g h1 f hf e.symm
    · exact h2 (ok.bb g h1 f hf e.symm)
  · exact ok.ob f hf f hf (List.mem_singleton.1 h).symm

/-- How many may go. -/
def weakN (L : List Fl) : Nat := (L.filter fun f => decide f.weak).length
theorem weakN_snoc (L : List Fl) (f : Fl) : weakN (L ++ [f]) = weakN L + if f.weak then 1 else 0 := by
  unfold weakN
  rw [List.filter_append, List.length_append]
  by_cases h : f.weak <;> simp [h]
theorem weakN_zero {L : List Fl} (h : ∀ g ∈ L, ¬ g.weak) : weakN L = 0 := by
  unfold weakN
  rw [List.filter_eq_nil_iff.2 fun g hg => by simpa using h g hg]; rfl
theorem weakN_le (L : List Fl) : weakN L ≤ L.length := List.length_filter_le _ _
end Go.Proofs.Ytbkgjghbmafoeaa
