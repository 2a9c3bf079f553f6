/- The plain law of a bucket: what the program's bucket and the document's both are. No program in sight. -/
import Derived.IntWalk
namespace Go.Proofs.Ytepibimlmfhceaa
open Go.RowKit

/-- A bucket's rate, burst, tokens, and the time that it knows. -/
structure Bk where
  rate : Int
  burst : Int
  tokens : Int
  known : Int

/-- What always holds of a bucket that New made. -/
structure Bk.Ok (s : Bk) : Prop where
  r0 : 0 ≤ s.rate
  r1 : s.rate ≤ 1048576
  b0 : 1 ≤ s.burst
  b1 : s.burst ≤ 1048576
  t0 : 0 ≤ s.tokens
  t1 : s.tokens ≤ s.burst
  k0 : -9223372036854775808 ≤ s.known
  k1 : s.known ≤ 9223372036854775807

/-- An int. -/
def I64 (n : Int) : Prop := -9223372036854775808 ≤ n ∧ n ≤ 9223372036854775807

def Bk.full (s : Bk) (now : Int) : Int := if s.burst ≤ s.tokens + (now - s.known) * s.rate then s.burst else s.tokens + (now - s.known) * s.rate

def Bk.learn (s : Bk) (now : Int) : Bk := if now ≤ s.known then s else { s with tokens := s.full now, known := now }

def Bk.takes (s : Bk) (now n : Int) : Bool := !(decide (n < 0) || decide ((s.learn now).tokens < n))

def Bk.took (s : Bk) (now n : Int) : Bk := if s.takes now n then { s.learn now with tokens := (s.learn now).tokens - n } else s.learn now

def Bk.new (rate burst now : Int) : Bk :=
  { rate := if rate ≤ 0 then 0 else if 1048576 ≤ rate then 1048576 else rate
    burst := if burst ≤ 1 then 1 else if 1048576 ≤ burst then 1048576 else burst
    tokens := if burst ≤ 1 then 1 else if 1048576 ≤ burst then 1048576 else burst
    known := now }

theorem Bk.new_ok (rate burst now : Int) (h : I64 now) : (Bk.new rate burst now).Ok := by
  unfold I64 at h
  unfold Bk.new
  constructor <;> simp only <;> (try split) <;> (try split) <;> omega

/-- The product of a gap and a rate is at least each step. -/
theorem gap_ge {g r : Int} (hg : 0 ≤ g) (hr : 1 ≤ r) : g ≤ g * r := by
  have := Int.mul_le_mul_of_nonneg_left hr hg
  simpa using this

theorem gap_nonneg {g r : Int} (hg : 0 ≤ g) (hr : 0 ≤ r) : 0 ≤ g * r := Int.mul_nonneg hg hr

theorem Bk.full_ok {s : Bk} (h : s.Ok) {now : Int} (hn : s.known < now) : 0 ≤ s.full now ∧ s.full now ≤ s.burst := by
  have := gap_nonneg (g := now - s.known) (r := s.rate) (by omega) h.r0
  have h1 := h.t0; have h2 := h.b0
  unfold Bk.full; split <;> omega

theorem Bk.learn_ok {s : Bk} (h : s.Ok) {now : Int} (hn : I64 now) : (s.learn now).Ok := by
  unfold Bk.learn
  split
  · exact h
  · rename_i hk
    have := full_ok h (now := now) (by omega)
    exact ⟨h.r0, h.r1, h.b0, h.b1, this.1, this.2, hn.1, hn.2⟩

theorem Bk.took_ok {s : Bk} (h : s.Ok) {now n : Int} (hn : I64 now) : (s.took now n).Ok := by
  have hl := learn_ok h hn
  unfold Bk.took
  split
  · rename_i ht
    simp [Bk.takes] at ht
    exact ⟨hl.r0, hl.r1, hl.b0, hl.b1, by have := ht.2; simp only; omega, by have := hl.t1; simp only; omega, hl.k0, hl.k1⟩
  · exact hl

theorem Bk.takes_no {s : Bk} {now n : Int} (h : n < 0 ∨ (s.learn now).tokens < n) : s.takes now n = false ∧ s.took now n = s.learn now := by
  have : s.takes now n = false := by rcases h with h | h <;> simp [Bk.takes, h]
  exact ⟨this, by simp [Bk.took, this]⟩

theorem Bk.takes_yes {s : Bk} {now n : Int} (h0 : 0 ≤ n) (h : n ≤ (s.learn now).tokens) :
    s.takes now n = true ∧ s.took now n = { s.learn now with tokens := (s.learn now).tokens - n } := by
  have : s.takes now n = true := by simp [Bk.takes]; omega
  exact ⟨this, by simp [Bk.took, this]⟩

theorem Bk.learn_back {s : Bk} {now : Int} (h : now ≤ s.known) : s.learn now = s := by simp [Bk.learn, h]

theorem Bk.learn_fwd {s : Bk} {now : Int} (h : s.known < now) : s.learn now = { s with tokens := s.full now, known := now } := by
  simp [Bk.learn, show ¬ now ≤ s.known by omega]

/-- The program's three ways to learn a later time. -/
theorem Bk.full_still {s : Bk} (h : s.Ok) {now : Int} (hr : s.rate = 0) : s.full now = s.tokens := by
  have := h.t1
  unfold Bk.full; rw [hr, Int.mul_zero]; split <;> omega

theorem Bk.full_up {s : Bk} (h : s.Ok) {now : Int} (hr : s.rate ≠ 0) (hg : s.burst - s.tokens ≤ now - s.known) (hn : s.known < now) : s.full now = s.burst := by
  have h0 := h.r0
  have := gap_ge (g := now - s.known) (r := s.rate) (by omega) (by omega)
  unfold Bk.full; rw [if_pos (by omega)]

theorem Bk.full_some {s : Bk} (h : s.Ok) {now : Int} (hg : now - s.known < s.burst - s.tokens) (hn : s.known < now) :
    0 ≤ (now - s.known) * s.rate ∧ (now - s.known) * s.rate ≤ 1099511627776 := by
  have h0 := h.r0; have h1 := h.r1; have h2 := h.b1; have h3 := h.t0
  refine ⟨gap_nonneg (by omega) h0, ?_⟩
  have a := Int.mul_le_mul_of_nonneg_left (c := now - s.known) h1 (by omega)
  omega

theorem u64_gap {a b : Int} (ha : I64 a) (hb : I64 b) (h : b < a) : IntKind.u64.wrap (IntKind.u64.wrap a - IntKind.u64.wrap b) = a - b := by
  unfold I64 at ha hb
  simp [IntKind.wrap, IntKind.bits, IntKind.signed]; omega

/-- The document's way: no more than 2097152 ticks are counted. -/
theorem Bk.full_ref {s : Bk} (h : s.Ok) {now : Int} :
    (if s.burst ≤ s.tokens + (if now - s.known ≤ 2097152 then now - s.known else 2097152) * s.rate then s.burst
      else s.tokens + (if now - s.known ≤ 2097152 then now - s.known else 2097152) * s.rate) = s.full now := by
  have h0 := h.r0; have h1 := h.t1; have h2 := h.b1; have h3 := h.t0
  unfold Bk.full
  by_cases hg : now - s.known ≤ 2097152
  · rw [if_pos hg]
  · rw [if_neg hg]
    by_cases hr : s.rate = 0
    · rw [hr, Int.mul_zero, Int.mul_zero]
    · have a := gap_ge (g := 2097152) (r := s.rate) (by omega) (by omega)
      have b := gap_ge (g := now - s.known) (r := s.rate) (by omega) (by omega)
      rw [if_pos (by omega), if_pos (by omega)]

theorem Bk.full_ref' {s : Bk} (h : s.Ok) {now x : Int} (hx : x = 2097152 ∧ 2097152 < now - s.known ∨ x = now - s.known ∧ now - s.known ≤ 2097152) :
    s.full now = if s.burst ≤ s.tokens + x * s.rate then s.burst else s.tokens + x * s.rate := by
  have r := full_ref h (now := now)
  rcases hx with ⟨e, g⟩ | ⟨e, g⟩
  · rw [if_neg (show ¬ now - s.known ≤ 2097152 by omega)] at r; rw [e]; exact r.symm
  · rw [if_pos g] at r; rw [e]; exact r.symm

theorem Bk.ref_way {s : Bk} (h : s.Ok) {x : Int} (h0 : 0 ≤ x) (h1 : x ≤ 2097152) : wrap64 (s.tokens + wrap64 (wrap64 x * s.rate)) = s.tokens + x * s.rate := by
  have a := gap_nonneg h0 h.r0
  have b := Int.mul_le_mul_of_nonneg_left (c := x) h.r1 h0
  have h2 := h.b1; have h3 := h.t0; have h4 := h.t1
  rw [IntWalk.wrap64_in x (by omega), IntWalk.wrap64_in (x * s.rate) (by omega), IntWalk.wrap64_in _ (by omega)]

theorem Bk.learn_burst (s : Bk) (now : Int) : (s.learn now).burst = s.burst := by unfold Bk.learn; split <;> rfl

end Go.Proofs.Ytepibimlmfhceaa
