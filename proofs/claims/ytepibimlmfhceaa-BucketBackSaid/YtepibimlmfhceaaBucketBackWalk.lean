/- The walk over BucketBack: it returns true and writes nothing that was there. Conditions: the numbers are of their kinds. -/
import Derived.Test.YtepibimlmfhceaaBkWalkb
import Derived.Test.YtepibimlmfhceaaIn
namespace Go.Proofs.Ytepibimlmfhceaa
open Go.RowKit

theorem Bk.took_known {s : Bk} {now n : Int} (h : now ≤ s.known) : (s.took now n).known = s.known := by
  have e := Bk.learn_back h
  unfold Bk.took; rw [e]; split <;> rfl

def BackRel (W : World) (b c : Nat) (s : Bk) (len : Nat) (i : Value) (wr : World) : Prop :=
  ∃ k : Nat, k ≤ len ∧ i = .int .i64 k ∧ BAt 64 wr b s ∧ BAt 61 wr c s ∧ Below W.heap.size W wr

set_option maxHeartbeats 1000000 in
theorem back_walk (rt bu now : Int) (a : Option Addr) (len cap : Nat) (zs : List Int) (w : World) (hn : I64 now) (hin : Ints .i64 w a len (-9223372036854775808) 9223372036854775807 zs) (hlen : len ≤ 9223372036854775807) :
    Calls Try.prog 5 #[.int .i64 rt, .int .i64 bu, .int .i64 now, .slice a len cap] w fun e w' => e = .returned (.bool true) ∧ Below w.heap.size w w' := by
  by_cases hbig : 1024 < len
  · go_enter Try.func5, Try.ntmps5
    go_wp2
    go_ret
    exact ⟨rfl, Below.refl _ _⟩
  have hs0 := Bk.new_ok rt bu now hn
  have hk0 : now ≤ (Bk.new rt bu now).known := Int.le_refl _
  have hs1 := Bk.took_ok hs0 (n := 1) hn
  have hk1 : now ≤ ((Bk.new rt bu now).took now 1).known := by rw [Bk.took_known hk0]; exact hk0
  go_enter Try.func5, Try.ntmps5
  go_wp2_with fail
  refine (new_any _ _ _ w).mono ?_
  rintro e w1 ⟨b, rfl, hb, hB, hO⟩
  go_wp2_with fail
  refine (rnew_any _ _ _ w1).mono ?_
  rintro e w2 ⟨c, rfl, hc, hC, hO2⟩
  have hbc : b < c := Nat.lt_of_lt_of_le hB.lt hc
  have hB2 := hB.off hO2 id
  have hbel := below_off (hO.below (Nat.le_refl _) (fun _ _ h => h)) hO2 (Nat.le_refl _) (fun _ _ h => h)
  clear hB hO hO2
  go_wp2_with fail
  refine (take_any b _ now 1 w2 hB2 hs0 hn ⟨by omega, by omega⟩).mono ?_
  rintro e w3 ⟨rfl, hB3, hO3⟩
  have hC3 := hC.off hO3 (by omega)
  have hbel3 := below_off hbel hO3 (Nat.le_refl _) (fun i hi e => by omega)
  clear hB2 hC hO3 hbel
  go_wp2_with fail
  refine (rtake_any c _ now 1 w3 hC3 hs0 hn ⟨by omega, by omega⟩).mono ?_
  rintro e w4 ⟨rfl, hC4, hO4⟩
  have hB4 := hB3.off hO4 (by omega)
  have hbel4 := below_off hbel3 hO4 (Nat.le_refl _) (fun i hi e => by have := hbel3.size; have := hC3.lt; omega)
  clear hB3 hC3 hO4
  generalize hS : (Bk.new rt bu now).took now 1 = s at *
  have HE := Lib.hid (fun (t : Int) (h : t ≤ now) => Bk.learn_back (s := s) (now := t) (by omega))
  go_wp2_with fail
  refine (tokens_any b _ now w4 hB4 hs1 hn).mono ?_
  rintro e w5 ⟨rfl, hB5, hO5⟩
  rw [HE.out now (by omega)] at hB5 ⊢
  have hC5 := hC4.off hO5 (by omega)
  have hbel5 := below_off hbel4 hO5 (Nat.le_refl _) (fun i hi e => by omega)
  clear hB4 hC4 hO5 hbel4 hbel3
  go_wp2_with fail
  go_loopw [12] (BackRel w b c s len) (fun i _ => len - (intOf i).toNat)
  case atStart => exact ⟨0, Nat.zero_le _, rfl, hB5, hC5, hbel5⟩
  case round =>
    clear hB5 hC5 hbel5
    obtain ⟨k, hk, rfl, hB, hC, hbel⟩ := hrel
    by_cases hlt : k < len
    · obtain ⟨bx, off, rfl, hcell, g0, g1⟩ := hin.at hbel hlt
      generalize zs.getD k 0 = g at *
      clear hin
      by_cases hg : g ≤ now
      · go_wp2_with fail
        refine (tokens_any b _ g wr hB hs1 ⟨g0, g1⟩).mono ?_
        rintro e w6 ⟨rfl, hB6, hO6⟩
        rw [HE.out g hg] at hB6 ⊢
        have hC6 := hC.off hO6 (by omega)
        have hbel6 := below_off hbel hO6 (Nat.le_refl _) (fun i hi e => by omega)
        clear hB hC hO6
        go_wp2
        exact ⟨⟨k + 1, by omega, by go_num, hB6, hC6, hbel6⟩, by simp [intOf]; omega⟩
      · go_wp2
        exact ⟨⟨k + 1, by omega, by go_num, hB, hC, hbel⟩, by simp [intOf]; omega⟩
    · go_wp2_with fail
      refine (rtokens_any c _ now wr hC hs1 hn).mono ?_
      rintro e w6 ⟨rfl, hC6, hO6⟩
      rw [HE.out now (by omega)]
      have hbel6 := below_off hbel hO6 (Nat.le_refl _) (fun i hi e => by omega)
      go_wp2
      go_ret
      exact ⟨by simp, hbel6⟩

theorem bucketBack_walk (a0 a1 a2 : Int) (a3 : Option Addr) (len3 cap3 : Nat) (z3 : List Int) (w : World) (_ : (Lit.int .i64 a0).wf = true) (_ : (Lit.int .i64 a1).wf = true) (w2 : (Lit.int .i64 a2).wf = true) (w3 : IsRow .i64 w a3 len3 cap3 z3) :
    Calls Try.prog 5 #[.int .i64 a0, .int .i64 a1, .int .i64 a2, .slice a3 len3 cap3] w fun e w' => e = .returned (.bool true) ∧ Below w.heap.size w w' := by
  obtain ⟨hin, hl⟩ := w3.ints (lo := -9223372036854775808) (hi := 9223372036854775807) fun n h => bounds_i64 h
  exact back_walk a0 a1 a2 a3 len3 cap3 z3 w (bounds_i64 w2) hin (by unfold maxLen at hl; omega)
end Go.Proofs.Ytepibimlmfhceaa
