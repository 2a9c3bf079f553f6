/- The walk over BucketParts: it returns true and writes nothing that was there. Conditions: the numbers are of their kinds. -/
import Derived.Test.YtepibimlmfhceaaBkWalkb
import Derived.Test.YtepibimlmfhceaaPartsPure
import Derived.Test.YtepibimlmfhceaaIn
import Derived.Lib.MinMax
namespace Go.Proofs.Ytepibimlmfhceaa
open Go.RowKit

def PartsRel (W : World) (b : Nat) (r m t n : Int) (tak : Value) (wr : World) : Prop :=
  ∃ k : Nat, (k : Int) ≤ n ∧ tak = .int .i64 k ∧ BAt 64 wr b (pBk r m (n - k) t) ∧ Below W.heap.size W wr

set_option maxHeartbeats 1000000 in
theorem parts_walk (rt bu t : Int) (w : World) (hr0 : 0 ≤ rt) (hr1 : rt ≤ 65535) (hb0 : 0 ≤ bu) (hb1 : bu ≤ 65535) (t0 : 0 ≤ t) (t1 : t ≤ 255) :
    Calls Try.prog 4 #[.int .u16 rt, .int .u16 bu, .int .u8 t] w fun e w' => e = .returned (.bool true) ∧ Below w.heap.size w w' := by
  have r0 : 0 ≤ rt % 50 := by omega
  have r1 : rt % 50 ≤ 49 := by omega
  have m0 : 1 ≤ bu % 500 + 1 := by omega
  have m1 : bu % 500 + 1 ≤ 500 := by omega
  obtain ⟨p0, p1⟩ := parts_mul r0 r1 t0 t1
  have E1 := Lib.hid (parts_new r0 r1 m0 m1)
  have E2 := Lib.hid (parts_all (r := rt % 50) m0)
  have E3 := Lib.hid (parts_wait r0 m0 t0)
  go_enter Try.func4, Try.ntmps4
  go_wp2_with fail
  refine (new_any _ _ _ w).mono ?_
  rintro e w1 ⟨b, rfl, hb, hB, hO⟩
  rw [E1.out] at hB
  have hbel := hO.below (Nat.le_refl _) (fun _ _ h => h)
  go_wp2_with fail
  refine (take_any b _ 0 _ w1 hB (parts_ok r0 r1 m0 m1 (by omega) (by omega) (by omega) (by omega)) ⟨by omega, by omega⟩ ⟨by omega, by omega⟩).mono ?_
  rintro e w2 ⟨rfl, hB2, hO2⟩
  rw [E2.out] at hB2
  have hbel2 := hbel.trans (hO2.below hbel.size (fun i hi e => by omega))
  clear hB hbel hO hO2
  go_wp2_with fail
  refine (tokens_any b _ _ w2 hB2 (parts_ok r0 r1 m0 m1 (by omega) (by omega) (by omega) (by omega)) ⟨by omega, by omega⟩).mono ?_
  rintro e w3 ⟨rfl, hB3, hO3⟩
  rw [E3.out] at hB3
  have hT : ((pBk (rt % 50) (bu % 500 + 1) 0 0).learn t).tokens = min (bu % 500 + 1) (rt % 50 * t) := by rw [E3.out]; rfl
  rw [hT]
  clear hT
  have hbel3 := hbel2.trans (hO3.below hbel2.size (fun i hi e => by omega))
  clear hB2 hbel2 hO3
  go_wp2_with fail
  have q0 : 0 ≤ min (bu % 500 + 1) (rt % 50 * t) := by omega
  have q1 : min (bu % 500 + 1) (rt % 50 * t) ≤ bu % 500 + 1 := by omega
  go_loopw [9] (PartsRel w b (rt % 50) (bu % 500 + 1) t (min (bu % 500 + 1) (rt % 50 * t))) (fun tak _ => 501 - (intOf tak).toNat)
  case atStart => exact ⟨0, by simpa using q0, rfl, by simpa using hB3, hbel3⟩
  case round =>
    clear hB3 hbel3
    obtain ⟨k, hk, rfl, hB, hbel⟩ := hrel
    have hok := parts_ok r0 r1 m0 m1 (n := min (bu % 500 + 1) (rt % 50 * t) - k) (by omega) (by omega) t0 t1
    by_cases hlt : (k : Int) < min (bu % 500 + 1) (rt % 50 * t)
    · have H := Lib.hid (parts_one (r := rt % 50) (b := bu % 500 + 1) (n := min (bu % 500 + 1) (rt % 50 * t) - k) (t := t) (by omega))
      go_wp2_with fail
      refine (take_any b _ t 1 wr hB hok ⟨by omega, by omega⟩ ⟨by omega, by omega⟩).mono ?_
      rintro e w4 ⟨rfl, hB4, hO4⟩
      rw [H.out.2] at hB4
      rw [H.out.1]
      have hbel4 := hbel.trans (hO4.below hbel.size (fun i hi e => by omega))
      go_wp2
      exact ⟨⟨k + 1, by omega, by go_num, by rw [show min (bu % 500 + 1) (rt % 50 * t) - ((k + 1 : Nat) : Int) = min (bu % 500 + 1) (rt % 50 * t) - k - 1 by omega]; exact hB4, hbel4⟩, by simp [intOf]; omega⟩
    · have hk' : min (bu % 500 + 1) (rt % 50 * t) - (k : Int) = 0 := by omega
      rw [hk'] at hB hok
      clear hk'
      have H := Lib.hid (parts_none (r := rt % 50) (b := bu % 500 + 1) (t := t))
      have H0 := Lib.hid (parts_zero (r := rt % 50) (b := bu % 500 + 1) (t := t))
      go_wp2_with fail
      refine (take_any b _ t 1 wr hB hok ⟨by omega, by omega⟩ ⟨by omega, by omega⟩).mono ?_
      rintro e w4 ⟨rfl, hB4, hO4⟩
      rw [H.out.2] at hB4
      rw [H.out.1]
      have hbel4 := hbel.trans (hO4.below hbel.size (fun i hi e => by omega))
      clear hB hbel hO4
      have hq : ((k : Int) == min (bu % 500 + 1) (rt % 50 * t)) = true := by simp; omega
      go_wp2_with fail
      refine (take_any b _ t 1 w4 hB4 hok ⟨by omega, by omega⟩ ⟨by omega, by omega⟩).mono ?_
      rintro e w5 ⟨rfl, hB5, hO5⟩
      rw [H.out.2] at hB5
      rw [H.out.1]
      have hbel5 := hbel4.trans (hO5.below hbel4.size (fun i hi e => by omega))
      clear hB4 hbel4 hO5
      go_wp2_with fail
      refine (take_any b _ t 0 w5 hB5 hok ⟨by omega, by omega⟩ ⟨by omega, by omega⟩).mono ?_
      rintro e w6 ⟨rfl, hB6, hO6⟩
      rw [H0.out]
      have hbel6 := hbel5.trans (hO6.below hbel5.size (fun i hi e => by omega))
      go_wp2
      go_ret
      exact ⟨rfl, hbel6⟩
theorem bucketParts_walk (a0 a1 a2 : Int) (w : World) (w0 : (Lit.int .u16 a0).wf = true) (w1 : (Lit.int .u16 a1).wf = true) (w2 : (Lit.int .u8 a2).wf = true) :
    Calls Try.prog 4 #[.int .u16 a0, .int .u16 a1, .int .u8 a2] w fun e w' => e = .returned (.bool true) ∧ Below w.heap.size w w' :=
  parts_walk a0 a1 a2 w (bounds_u16 w0).1 (bounds_u16 w0).2 (bounds_u16 w1).1 (bounds_u16 w1).2 (bounds_u8 w2).1 (bounds_u8 w2).2

end Go.Proofs.Ytepibimlmfhceaa
