/- The plain law of BucketRate: what a round of its loop keeps. No program in sight. -/
import Derived.Test.YtepibimlmfhceaaBkPure
namespace Go.Proofs.Ytepibimlmfhceaa
open Go.RowKit

structure RateInv (r m : Int) (i : Nat) (now taken : Int) (s : Bk) : Prop where
  ok : s.Ok
  rate : s.rate = r
  burst : s.burst = m
  known : s.known = now
  n0 : 0 ≤ now
  n1 : now ≤ 7 * i
  t0 : 0 ≤ taken
  t1 : taken ≤ i
  up : taken + s.tokens ≤ m + r * now
  early : (i : Int) ≤ m → taken = i ∧ m - i ≤ s.tokens

theorem Bk.learn_rate (s : Bk) (now : Int) : (s.learn now).rate = s.rate := by unfold Bk.learn; split <;> rfl
theorem Bk.learn_known {s : Bk} {now : Int} (h : s.known ≤ now) : (s.learn now).known = now := by
  unfold Bk.learn; split
  · omega
  · rfl
theorem Bk.learn_ge {s : Bk} (h : s.Ok) {now : Int} : s.tokens ≤ (s.learn now).tokens := by
  unfold Bk.learn; split
  · exact Int.le_refl _
  · have := gap_nonneg (g := now - s.known) (r := s.rate) (by omega) h.r0
    have := h.t1
    simp only [Bk.full]; split <;> omega
theorem Bk.learn_le {s : Bk} (h : s.Ok) {now : Int} (hk : s.known ≤ now) : (s.learn now).tokens ≤ s.tokens + (now - s.known) * s.rate := by
  have := gap_nonneg (g := now - s.known) (r := s.rate) (by omega) h.r0
  unfold Bk.learn; split
  · omega
  · simp only [Bk.full]; split <;> omega

theorem RateInv.start {r m : Int} {s : Bk} (ok : s.Ok) (hr : s.rate = r) (hm : s.burst = m) (hk : s.known = 0) (ht : s.tokens = m) : RateInv r m 0 0 0 s :=
  ⟨ok, hr, hm, hk, by omega, by omega, by omega, by omega, by rw [ht]; simp, fun _ => by rw [ht]; simp⟩

/-- One round. -/
theorem RateInv.round {r m : Int} {i : Nat} {now taken g : Int} {s : Bk} (h : RateInv r m i now taken s) (hi : i < 4096) (g0 : 0 ≤ g) (g1 : g ≤ 7) :
    (s.takes (now + g) 1 = true → RateInv r m (i + 1) (now + g) (taken + 1) (s.took (now + g) 1) ∧ taken + 1 ≤ m + r * (now + g)) ∧
    (s.takes (now + g) 1 = false → RateInv r m (i + 1) (now + g) taken (s.took (now + g) 1) ∧ taken ≤ m + r * (now + g) ∧ m ≤ i) := by
  obtain ⟨ok, hr, hm, hk, n0, n1, t0, t1, up, early⟩ := h
  have hI : I64 (now + g) := ⟨by omega, by omega⟩
  have hI' := Bk.learn_ok ok hI
  have e1 := Bk.learn_ge ok (now := now + g)
  have e2 := Bk.learn_le ok (now := now + g) (by omega)
  have e3 : (now + g - s.known) * s.rate = r * (now + g) - r * now := by
    rw [hk, hr, Int.mul_comm, show now + g - now = g by omega, Int.mul_add]; omega
  rw [e3] at e2
  have l1 := Bk.learn_rate s (now + g); have l2 := Bk.learn_burst s (now + g); have l3 := Bk.learn_known (s := s) (now := now + g) (by omega)
  have k0 := hI'.t0
  have tok := Bk.took_ok ok (n := 1) hI
  constructor
  · intro ht
    have ht' : 1 ≤ (s.learn (now + g)).tokens := by simp [Bk.takes] at ht; omega
    have eT := (Bk.takes_yes (s := s) (now := now + g) (n := 1) (by omega) ht').2
    rw [eT] at tok ⊢
    refine ⟨⟨tok, by simp only; omega, by simp only; omega, by simp only; omega, by omega, by omega, by omega, by omega, by simp only; omega, fun h => ?_⟩, by omega⟩
    have := early (by omega)
    simp only; omega
  · intro ht
    have ht' : (s.learn (now + g)).tokens < 1 := by simp [Bk.takes] at ht; omega
    have eT := (Bk.takes_no (s := s) (now := now + g) (n := 1) (.inr ht')).2
    rw [eT] at tok ⊢
    have hmi : m ≤ i := by
      by_cases hc : (i : Int) ≤ m
      · have := early hc; omega
      · omega
    exact ⟨⟨tok, by omega, by omega, by omega, by omega, by omega, by omega, by omega, by omega, fun h => by omega⟩, by omega, hmi⟩

end Go.Proofs.Ytepibimlmfhceaa
