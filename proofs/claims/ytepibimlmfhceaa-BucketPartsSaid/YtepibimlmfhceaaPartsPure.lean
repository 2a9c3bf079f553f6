/- The plain law of BucketParts: the bucket's states on its road. No program in sight. -/
import Derived.Test.YtepibimlmfhceaaBkPure
namespace Go.Proofs.Ytepibimlmfhceaa
open Go.RowKit

/-- The bucket of BucketParts with n tokens, at the time t. -/
def pBk (r b n t : Int) : Bk := ⟨r, b, n, t⟩

theorem parts_new {r b : Int} (r0 : 0 ≤ r) (r1 : r ≤ 49) (b0 : 1 ≤ b) (b1 : b ≤ 500) : Bk.new r b 0 = pBk r b b 0 := by
  unfold Bk.new pBk
  simp only [Bk.mk.injEq]
  refine ⟨?_, ?_, ?_, trivial⟩ <;> (repeat' split) <;> omega

theorem parts_ok {r b n t : Int} (r0 : 0 ≤ r) (r1 : r ≤ 49) (b0 : 1 ≤ b) (b1 : b ≤ 500) (n0 : 0 ≤ n) (n1 : n ≤ b) (t0 : 0 ≤ t) (t1 : t ≤ 255) : (pBk r b n t).Ok := by
  constructor <;> simp only [pBk] <;> omega

theorem parts_all {r b : Int} (b0 : 1 ≤ b) : (pBk r b b 0).took 0 b = pBk r b 0 0 := by
  have h : (pBk r b b 0).learn 0 = pBk r b b 0 := Bk.learn_back (by simp [pBk])
  have := (Bk.takes_yes (s := pBk r b b 0) (now := 0) (n := b) (by omega) (by rw [h]; simp [pBk])).2
  rw [this, h]; simp [pBk]

theorem parts_wait {r b t : Int} (r0 : 0 ≤ r) (b0 : 1 ≤ b) (t0 : 0 ≤ t) : (pBk r b 0 0).learn t = pBk r b (min b (r * t)) t := by
  have := gap_nonneg (g := r) (r := t) r0 t0
  by_cases h : t ≤ 0
  · obtain rfl : t = 0 := by omega
    rw [Bk.learn_back (by simp [pBk])]
    simp only [pBk, Bk.mk.injEq, Int.mul_zero, true_and, and_true]; omega
  · rw [Bk.learn_fwd (by simp only [pBk]; omega)]
    have e : (t - 0) * r = r * t := by rw [Int.sub_zero, Int.mul_comm]
    simp only [pBk, Bk.full, Bk.mk.injEq, e]
    refine ⟨trivial, trivial, ?_, trivial⟩
    split <;> omega

theorem parts_one {r b n t : Int} (h : 1 ≤ n) : (pBk r b n t).takes t 1 = true ∧ (pBk r b n t).took t 1 = pBk r b (n - 1) t := by
  have e : (pBk r b n t).learn t = pBk r b n t := Bk.learn_back (by simp [pBk])
  have := Bk.takes_yes (s := pBk r b n t) (now := t) (n := 1) (by omega) (by rw [e]; simpa [pBk] using h)
  rw [e] at this
  exact ⟨this.1, by rw [this.2]; simp [pBk]⟩

theorem parts_none {r b t : Int} : (pBk r b 0 t).takes t 1 = false ∧ (pBk r b 0 t).took t 1 = pBk r b 0 t := by
  have e : (pBk r b 0 t).learn t = pBk r b 0 t := Bk.learn_back (by simp [pBk])
  have := Bk.takes_no (s := pBk r b 0 t) (now := t) (n := 1) (.inr (by rw [e]; simp [pBk]))
  rw [e] at this
  exact this

theorem parts_zero {r b t : Int} : (pBk r b 0 t).takes t 0 = true := by
  have e : (pBk r b 0 t).learn t = pBk r b 0 t := Bk.learn_back (by simp [pBk])
  exact (Bk.takes_yes (s := pBk r b 0 t) (now := t) (n := 0) (by omega) (by rw [e]; simp [pBk])).1

theorem parts_mul {r t : Int} (r0 : 0 ≤ r) (r1 : r ≤ 49) (t0 : 0 ≤ t) (t1 : t ≤ 255) : 0 ≤ r * t ∧ r * t ≤ 12495 := by
  refine ⟨Int.mul_nonneg r0 t0, ?_⟩
  have := Int.mul_le_mul (a := r) (b := t) (c := 49) (d := 255) r1 t1 t0 (by omega)
  omega
end Go.Proofs.Ytepibimlmfhceaa
