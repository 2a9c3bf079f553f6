/- The walk over BucketRate: it returns true and writes nothing that was there. Conditions: the slice's elements are bytes; its length is an int. -/
import Derived.Test.YtepibimlmfhceaaBkWalkb
import Derived.Test.YtepibimlmfhceaaRatePure
import Derived.Test.YtepibimlmfhceaaIn
import Derived.Lib.MinMax
namespace Go.Proofs.Ytepibimlmfhceaa
open Go.RowKit

def RateRel (W : World) (b : Nat) (r m : Int) (len : Nat) (nowv tak i : Value) (wr : World) : Prop :=
  ∃ (k : Nat) (now taken : Int) (s : Bk), k ≤ len ∧ i = .int .i64 k ∧ nowv = .int .i64 now ∧ tak = .int .i64 taken ∧ BAt 64 wr b s ∧ Below W.heap.size W wr ∧ RateInv r m k now taken s

theorem rate_mul {r m : Int} {k : Nat} {now taken : Int} {s : Bk} (h : RateInv r m k now taken s) (hk : k ≤ 4096) : 0 ≤ r * now ∧ r * now ≤ 30064771072 := by
  have h0 := h.ok.r0; have h1 := h.ok.r1; have h2 := h.rate; have h3 := h.n0; have h4 := h.n1
  refine ⟨Int.mul_nonneg (by omega) h3, ?_⟩
  have := Int.mul_le_mul (a := r) (b := now) (c := 1048576) (d := 28672) (by omega) (by omega) (by omega) (by omega)
  omega

set_option maxHeartbeats 1000000 in
theorem rate_walk (rate burst : Int) (a : Option Addr) (len cap : Nat) (zs : List Int) (w : World) (hin : Ints .u8 w a len 0 255 zs) (hlen : len ≤ 9223372036854775807) :
    Calls Try.prog 3 #[.int .i64 rate, .int .i64 burst, .slice a len cap] w fun e w' => e = .returned (.bool true) ∧ Below w.heap.size w w' := by
  by_cases hbig : 4096 < len
  · go_enter Try.func3, Try.ntmps3
    go_wp2
    go_ret
    exact ⟨rfl, Below.refl _ _⟩
  go_enter Try.func3, Try.ntmps3
  go_wp2_with fail
  refine (new_any rate burst 0 w).mono ?_
  rintro e w1 ⟨b, rfl, hb, hB, hO⟩
  go_wp2_with fail
  have hs := Bk.new_ok rate burst 0 ⟨by omega, by omega⟩
  have hstart := RateInv.start (r := max 0 (min rate 1048576)) (m := max 1 (min burst 1048576)) hs (by simp only [Bk.new]; omega) (by simp only [Bk.new]; omega) rfl (by simp only [Bk.new]; omega)
  have hbel := hO.below (Nat.le_refl _) (fun _ _ h => h)
  generalize Bk.new rate burst 0 = s0 at *
  generalize max 0 (min rate 1048576) = r at *
  generalize max 1 (min burst 1048576) = m at *
  go_loopw [10, 11, 12] (RateRel w b r m len) (fun _ _ i _ => len - (intOf i).toNat)
  case atStart => exact ⟨0, 0, 0, s0, Nat.zero_le _, rfl, rfl, rfl, hB, hbel, hstart⟩
  case round =>
    clear hB hbel hstart hs hO
    obtain ⟨k, now, taken, s, hk, rfl, rfl, rfl, hB, hbel, hinv⟩ := hrel
    have q1 := hinv.n0; have q2 := hinv.n1; have q3 := hinv.t0; have q4 := hinv.t1
    by_cases hlt : k < len
    · obtain ⟨bx, off, rfl, hc, g0, g1⟩ := hin.at hbel hlt
      generalize zs.getD k 0 = g at *
      clear hin
      go_wp2_with fail
      refine (take_any b s _ 1 wr hB hinv.ok ⟨by omega, by omega⟩ ⟨by omega, by omega⟩).mono ?_
      rintro e w2 ⟨rfl, hB2, hO2⟩
      have hmod : (0 : Int) ≤ g % 8 ∧ g % 8 ≤ 7 := by omega
      have hrd := hinv.round (g := g % 8) (by omega) hmod.1 hmod.2
      have hb1 := hinv.ok.b0; have hb2 := hinv.ok.b1; rw [hinv.burst] at hb1 hb2
      have hbel2 := hbel.trans (hO2.below hbel.size (fun i hi e => by omega))
      cases hT : s.takes (now + g % 8) 1 with
      | true =>
        obtain ⟨hinv2, hup⟩ := hrd.1 hT
        have hmul := rate_mul hinv2 (by omega)
        obtain ⟨p1, p2⟩ := hmul
        by_cases he : (k : Int) < m
        · have hE := (hinv2.early (by omega)).1
          have hE1 : taken + 1 ≤ (k : Int) + 1 := by omega
          have hE2 : (k : Int) + 1 ≤ taken + 1 := by omega
          clear hE
          clear hrd hT hinv hB
          go_wp2
          · exfalso
            rename_i h
            rcases h with h | h
            · omega
            · simp only [bne_iff_ne, ne_eq] at h; omega
          · exact ⟨⟨k + 1, _, _, _, by omega, by go_num, rfl, rfl, hB2, hbel2, hinv2⟩, by simp [intOf]; omega⟩
        · clear hrd hT hinv hB
          go_wp2
          exact ⟨⟨k + 1, _, _, _, by omega, by go_num, rfl, rfl, hB2, hbel2, hinv2⟩, by simp [intOf]; omega⟩
      | false =>
        obtain ⟨hinv2, hup, hmi⟩ := hrd.2 hT
        have hmul := rate_mul hinv2 (by omega)
        obtain ⟨p1, p2⟩ := hmul
        clear hrd hT hinv hB
        go_wp2
        exact ⟨⟨k + 1, _, _, _, by omega, by go_num, rfl, rfl, hB2, hbel2, hinv2⟩, by simp [intOf]; omega⟩
    · go_wp2
      go_ret
      exact ⟨rfl, hbel⟩
theorem bucketRate_walk (a0 a1 : Int) (a2 : Option Addr) (len2 cap2 : Nat) (z2 : List Int) (w : World) (_ : (Lit.int .i64 a0).wf = true) (_ : (Lit.int .i64 a1).wf = true) (w2 : IsRow .u8 w a2 len2 cap2 z2) :
    Calls Try.prog 3 #[.int .i64 a0, .int .i64 a1, .slice a2 len2 cap2] w fun e w' => e = .returned (.bool true) ∧ Below w.heap.size w w' := by
  obtain ⟨hin, hl⟩ := w2.ints (lo := 0) (hi := 255) fun n h => bounds_u8 h
  exact rate_walk a0 a1 a2 len2 cap2 z2 w hin (by unfold maxLen at hl; omega)
end Go.Proofs.Ytepibimlmfhceaa
