/- The plain law of a walk over the numbers from 1 to 48. No program in sight. -/
import Derived.Test.YtbkgjghbmafoeaaFlowPure
namespace Go.Proofs.Ytbkgjghbmafoeaa
open Go.RowKit

/-- Those whose number is at most k. -/
def upto (k : Int) (L : List Fl) : List Fl := L.filter fun f => decide (f.id ≤ k)

theorem upto_zero {L : List Fl} (h : FOk L) : upto 0 L = [] := by
  unfold upto; rw [List.filter_eq_nil_iff]
  intro f hf; have := h.rng f hf; simp; omega
theorem upto_all {L : List Fl} (h : FOk L) {k : Int} (hk : 48 ≤ k) : upto k L = L := List.filter_eq_self.2 fun f hf => by
  have := h.rng f hf; simp; omega

theorem upto_same {k : Int} {L : List Fl} (h : ∀ f ∈ L, f.id ≠ k + 1) : upto (k + 1) L = upto k L := by
  unfold upto
  refine List.filter_congr fun f hf => ?_
  have := h f hf
  rw [Bool.eq_iff_iff]; simp; omega

theorem upto_snoc {k : Int} : ∀ {L : List Fl}, L.Pairwise (fun a b => a.id < b.id) → ∀ {f : Fl}, f ∈ L → f.id = k + 1 → upto (k + 1) L = upto k L ++ [f]
  | [], _, f, hf, _ => by cases hf
  | x :: L, h, f, hf, he => by
    have hp := List.pairwise_cons.1 h
    rcases List.mem_cons.1 hf with rfl | hf
    · have h1 : upto (k + 1) L = [] := by
        unfold upto; rw [List.filter_eq_nil_iff]; intro g hg; have := hp.1 g hg; simp; omega
      have h2 : upto k L = [] := by
        unfold upto; rw [List.filter_eq_nil_iff]; intro g hg; have := hp.1 g hg; simp; omega
      have h3 : upto (k + 1) (f :: L) = f :: upto (k + 1) L := by unfold upto; rw [List.filter_cons, if_pos (by simp; omega)]
      have h4 : upto k (f :: L) = upto k L := by unfold upto; rw [List.filter_cons, if_neg (by simp; omega)]
      rw [h3, h4, h1, h2]; rfl
    · have hx : x.id ≤ k := by have := hp.1 f hf; omega
      have h3 : upto (k + 1) (x :: L) = x :: upto (k + 1) L := by unfold upto; rw [List.filter_cons, if_pos (by simp; omega)]
      have h4 : upto k (x :: L) = x :: upto k L := by unfold upto; rw [List.filter_cons, if_pos (by simp; omega)]
      rw [h3, h4, upto_snoc hp.2 hf he]; rfl

theorem mem_upto {k : Int} {L : List Fl} {f : Fl} : f ∈ upto k L ↔ f ∈ L ∧ f.id ≤ k := by simp [upto]

def best (k : Int) (L : List Fl) : Option Fl := vic (upto k L)
def idOf : Option Fl → Int
  | none => 0
  | some f => f.id

theorem best_none {k : Int} {L : List Fl} (h : ∀ f ∈ L, f.id ≠ k + 1) : best (k + 1) L = best k L := by unfold best; rw [upto_same h]
theorem best_snoc {k : Int} {L : List Fl} (h : FOk L) {f : Fl} (hf : f ∈ L) (he : f.id = k + 1) : best (k + 1) L = vic1 (best k L) f := by
  unfold best vic; rw [upto_snoc h.ids hf he, List.foldl_append]; rfl
theorem best_mem {k : Int} {L : List Fl} {f : Fl} (h : best k L = some f) : f ∈ L := (mem_upto.1 (vic_mem h).1).1
end Go.Proofs.Ytbkgjghbmafoeaa
