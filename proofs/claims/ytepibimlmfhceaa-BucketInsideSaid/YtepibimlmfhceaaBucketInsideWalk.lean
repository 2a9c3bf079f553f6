/- The walk over BucketInside: it returns true and writes nothing that was there. Conditions: the numbers are of their kinds. -/
import Derived.Test.YtepibimlmfhceaaBkWalkb
import Derived.Test.YtepibimlmfhceaaIn
import Derived.Lib.MinMax
namespace Go.Proofs.Ytepibimlmfhceaa
open Go.RowKit

theorem Bk.learn_known_le (s : Bk) (t : Int) : t ≤ (s.learn t).known := by
  unfold Bk.learn; split
  · assumption
  · exact Int.le_refl _

theorem Bk.learn_twice (s : Bk) (t : Int) : (s.learn t).learn t = s.learn t := Bk.learn_back (Bk.learn_known_le s t)

theorem Bk.took_burst (s : Bk) (t n : Int) : (s.took t n).burst = s.burst := by
  unfold Bk.took; split <;> simp [Bk.learn_burst]

def InsideRel (W : World) (b : Nat) (m : Int) (len : Nat) (i : Value) (wr : World) : Prop :=
  ∃ (k : Nat) (s : Bk), k ≤ len ∧ i = .int .i64 k ∧ BAt 64 wr b s ∧ s.Ok ∧ s.burst = m ∧ Below W.heap.size W wr

set_option maxHeartbeats 1000000 in
theorem inside_walk (rt bu : Int) (a : Option Addr) (len cap : Nat) (zs : List Int) (w : World) (hin : Ints .i64 w a len (-9223372036854775808) 9223372036854775807 zs) (hlen : len ≤ 9223372036854775807) :
    Calls Try.prog 6 #[.int .i64 rt, .int .i64 bu, .slice a len cap] w fun e w' => e = .returned (.bool true) ∧ Below w.heap.size w w' := by
  by_cases hbig : 16384 < len
  · go_enter Try.func6, Try.ntmps6
    go_wp2
    go_ret
    exact ⟨rfl, Below.refl _ _⟩
  have hI0 : I64 0 := ⟨by omega, by omega⟩
  have hs0 := Bk.new_ok rt bu 0 hI0
  have hb0 : (Bk.new rt bu 0).burst = max 1 (min bu 1048576) := by simp only [Bk.new]; omega
  have ht0 : ((Bk.new rt bu 0).learn 0).tokens = max 1 (min bu 1048576) := by
    rw [Bk.learn_back (show (0 : Int) ≤ (Bk.new rt bu 0).known from Int.le_refl _)]; simp only [Bk.new]; omega
  have hl0 := Bk.learn_ok hs0 hI0
  have hlb0 := Bk.learn_burst (Bk.new rt bu 0) 0
  go_enter Try.func6, Try.ntmps6
  go_wp2_with fail
  refine (new_any _ _ _ w).mono ?_
  rintro e w1 ⟨b, rfl, hb, hB, hO⟩
  have hbel := hO.below (Nat.le_refl _) (fun _ _ h => h)
  go_wp2_with fail
  refine (tokens_any b _ 0 w1 hB hs0 hI0).mono ?_
  rintro e w2 ⟨rfl, hB2, hO2⟩
  have hbel2 := below_off hbel hO2 (Nat.le_refl _) (fun i hi e => by omega)
  rw [ht0]
  rw [hb0] at hlb0
  clear hb0 ht0 hB hO hO2 hbel
  generalize hm : max 1 (min bu 1048576) = m at *
  generalize (Bk.new rt bu 0).learn 0 = s0 at *
  clear hs0 hm
  have hE : (m != m) = false := by simp
  go_wp2_with fail
  go_loopw [9] (InsideRel w b m len) (fun i _ => len - (intOf i).toNat)
  case atStart => exact ⟨0, s0, Nat.zero_le _, rfl, hB2, hl0, hlb0, hbel2⟩
  case round =>
    clear hB2 hl0 hlb0 hbel2
    obtain ⟨k, s, hk, rfl, hB, hs, hsb, hbel⟩ := hrel
    by_cases hlt : k < len
    · obtain ⟨bx, off, rfl, hcell, g0, g1⟩ := hin.at hbel hlt
      obtain ⟨bx', off', hx, hlx, _, _, _⟩ := hin.2 k hlt
      simp only [Option.some.injEq, Addr.mk.injEq, and_true] at hx
      obtain ⟨rfl, rfl⟩ := hx
      have hbx : bx ≠ b := by omega
      generalize zs.getD k 0 = g at *
      have hg : I64 g := ⟨g0, g1⟩
      clear hin
      have hs1 := Bk.learn_ok hs hg
      have hb1 := Bk.learn_burst s g
      rw [hsb] at hb1
      have H1 := Lib.hid (Bk.learn_twice s g)
      have hk1 := Bk.learn_known_le s g
      go_wp2_with fail
      refine (tokens_any b _ g wr hB hs hg).mono ?_
      rintro e w3 ⟨rfl, hB3, hO3⟩
      have hbel3 := below_off hbel hO3 (Nat.le_refl _) (fun i hi e => by omega)
      have hcell3 : w3.cell? ⟨bx, off + k, none⟩ = some (.int .i64 g) := by rw [hO3.cell (p := ⟨bx, off + k, none⟩) (Nat.lt_of_lt_of_le hlx hbel.size) hbx]; exact hcell
      clear hB hO3 hcell
      generalize s.learn g = s1 at *
      clear hs hsb
      go_wp2_with fail
      refine (take_any b _ g 1 w3 hB3 hs1 hg ⟨by omega, by omega⟩).mono ?_
      rintro e w4 ⟨rfl, hB4, hO4⟩
      have hbel4 := below_off hbel3 hO4 (Nat.le_refl _) (fun i hi e => by omega)
      have hcell4 : w4.cell? ⟨bx, off + k, none⟩ = some (.int .i64 g) := by rw [hO4.cell (p := ⟨bx, off + k, none⟩) (Nat.lt_of_lt_of_le hlx hbel3.size) hbx]; exact hcell3
      have hs2 := Bk.took_ok hs1 (n := 1) hg
      have hb2 := Bk.took_burst s1 g 1
      rw [hb1] at hb2
      have t0 := hs1.t0; have t1 := hs1.t1; rw [hb1] at t1
      have t2 := hs1.b1; rw [hb1] at t2
      clear hO4 hB3 hcell3
      by_cases hn : 1 ≤ s1.tokens
      · have hT := Bk.takes_yes (s := s1) (now := g) (n := 1) (by omega) (by rw [H1.out]; exact hn)
        rw [H1.out] at hT
        rw [hT.1]
        rw [hT.2] at hB4 hs2 hb2
        clear hT
        go_wp2_with fail
        refine (tokens_any b _ g w4 hB4 hs2 hg).mono ?_
        rintro e w5 ⟨rfl, hB5, hO5⟩
        have hbel5 := below_off hbel4 hO5 (Nat.le_refl _) (fun i hi e => by omega)
        rw [Bk.learn_back (s := { s1 with tokens := s1.tokens - 1 }) (now := g) hk1] at hB5 ⊢
        have z1 : ¬ s1.tokens < 0 := by omega
        have z2 : 0 < s1.tokens := by omega
        have z4 : (s1.tokens - 1 != s1.tokens - 1) = false := by simp
        clear hB4 hO5 hcell4
        go_wp2
        exact ⟨⟨k + 1, _, by omega, by go_num, hB5, hs2, hb2, hbel5⟩, by simp [intOf]; omega⟩
      · have hT := Bk.takes_no (s := s1) (now := g) (n := 1) (.inr (by rw [H1.out]; omega))
        rw [H1.out] at hT
        rw [hT.1]
        rw [hT.2] at hB4 hs2 hb2
        clear hT
        go_wp2_with fail
        refine (tokens_any b _ g w4 hB4 hs2 hg).mono ?_
        rintro e w5 ⟨rfl, hB5, hO5⟩
        have hbel5 := below_off hbel4 hO5 (Nat.le_refl _) (fun i hi e => by omega)
        rw [H1.out] at hB5 ⊢
        have z1 : ¬ s1.tokens < 0 := by omega
        have z2 : ¬ 0 < s1.tokens := by omega
        have z4 : (s1.tokens != s1.tokens) = false := by simp
        clear hB4 hO5 hcell4
        go_wp2
        exact ⟨⟨k + 1, _, by omega, by go_num, hB5, hs2, hb2, hbel5⟩, by simp [intOf]; omega⟩
    · go_wp2
      go_ret
      exact ⟨rfl, hbel⟩
theorem bucketInside_walk (a0 a1 : Int) (a2 : Option Addr) (len2 cap2 : Nat) (z2 : List Int) (w : World) (_ : (Lit.int .i64 a0).wf = true) (_ : (Lit.int .i64 a1).wf = true) (w2 : IsRow .i64 w a2 len2 cap2 z2) :
    Calls Try.prog 6 #[.int .i64 a0, .int .i64 a1, .slice a2 len2 cap2] w fun e w' => e = .returned (.bool true) ∧ Below w.heap.size w w' := by
  obtain ⟨hin, hl⟩ := w2.ints (lo := -9223372036854775808) (hi := 9223372036854775807) fun n h => bounds_i64 h
  exact inside_walk a0 a1 a2 len2 cap2 z2 w hin (by unfold maxLen at hl; omega)
end Go.Proofs.Ytepibimlmfhceaa
