/- The walk over BucketScript: it returns true and writes nothing that was there. Conditions: the numbers are of their kinds. -/
import Derived.Test.YtepibimlmfhceaaBkWalkb
import Derived.Test.YtepibimlmfhceaaIn
import Derived.Test.YtepibimlmfhceaaFlat
import Derived.Deep.RegionHeld3
namespace Go.Proofs.Ytepibimlmfhceaa
open Go.RowKit

def ScriptRel (W : World) (b c : Nat) (len : Nat) (i : Value) (wr : World) : Prop :=
  ∃ (k : Nat) (s : Bk), k ≤ len ∧ i = .int .i64 k ∧ BAt 64 wr b s ∧ BAt 61 wr c s ∧ s.Ok ∧ Below W.heap.size W wr

set_option maxHeartbeats 1000000 in
theorem bscript_walk (rt bu now : Int) (a : Option Addr) (len cap : Nat) (F : Nat → List Int) (w : World) (hn : I64 now) (hin : Elems [.i64, .i64, .i64] w a len F) (hlen : len ≤ 9223372036854775807) :
    Calls Try.prog 7 #[.int .i64 rt, .int .i64 bu, .int .i64 now, .slice a len cap] w fun e w' => e = .returned (.bool true) ∧ Below w.heap.size w w' := by
  by_cases hbig : 16384 < len
  · go_enter Try.func7, Try.ntmps7
    go_wp2
    go_ret
    exact ⟨rfl, Below.refl _ _⟩
  have hs0 := Bk.new_ok rt bu now hn
  go_enter Try.func7, Try.ntmps7
  go_wp2_with fail
  refine (new_any _ _ _ w).mono ?_
  rintro e w1 ⟨b, rfl, hb, hB, hO⟩
  go_wp2_with fail
  refine (rnew_any _ _ _ w1).mono ?_
  rintro e w2 ⟨c, rfl, hc, hC, hO2⟩
  have hbc : b < c := Nat.lt_of_lt_of_le hB.lt hc
  have hB2 := hB.off hO2 id
  have hbel := below_off (hO.below (Nat.le_refl _) (fun _ _ h => h)) hO2 (Nat.le_refl _) (fun _ _ h => h)
  clear hB hO hO2
  generalize Bk.new rt bu now = s0 at *
  go_wp2_with fail
  go_loopw [11] (ScriptRel w b c len) (fun i _ => len - (intOf i).toNat)
  case atStart => exact ⟨0, s0, Nat.zero_le _, rfl, hB2, hC, hs0, hbel⟩
  case round =>
    clear hB2 hC hs0 hbel
    obtain ⟨k, s, hk, rfl, hB, hC, hs, hbel⟩ := hrel
    by_cases hlt : k < len
    · obtain ⟨bx, off, rfl, hcell⟩ := hin.at hbel hlt
      have c0 : wr.cell? ⟨bx, off + k * 3, none⟩ = some (.int .i64 ((F k).getD 0 0)) := by simpa using (hcell 0 .i64 rfl).1
      have c1 : wr.cell? ⟨bx, off + k * 3 + 1, none⟩ = some (.int .i64 ((F k).getD 1 0)) := by simpa using (hcell 1 .i64 rfl).1
      have c2 : wr.cell? ⟨bx, off + k * 3 + 2, none⟩ = some (.int .i64 ((F k).getD 2 0)) := by simpa using (hcell 2 .i64 rfl).1
      have i1 : I64 ((F k).getD 1 0) := bounds_i64 (hcell 1 .i64 rfl).2
      have i2 : I64 ((F k).getD 2 0) := bounds_i64 (hcell 2 .i64 rfl).2
      clear hcell hin
      generalize (F k).getD 0 0 = kd at *
      generalize (F k).getD 1 0 = t at *
      generalize (F k).getD 2 0 = n at *
      have hbl : b < wr.heap.size := hB.lt
      have hcl : c < wr.heap.size := hC.lt
      have hB3 := hB.alloc (.cells #[.int .i64 kd, .int .i64 t, .int .i64 n] 37)
      have hC3 := hC.alloc (.cells #[.int .i64 kd, .int .i64 t, .int .i64 n] 37)
      have hbel3 := hbel.alloc hbel.size (.cells #[.int .i64 kd, .int .i64 t, .int .i64 n] 37)
      have D := Blk.new wr 37 #[.int .i64 kd, .int .i64 t, .int .i64 n]
      have d1 : (wr.alloc (.cells #[.int .i64 kd, .int .i64 t, .int .i64 n] 37)).cell? ⟨wr.heap.size, 1, none⟩ = some (.int .i64 t) := D.cell 1
      have d2 : (wr.alloc (.cells #[.int .i64 kd, .int .i64 t, .int .i64 n] 37)).cell? ⟨wr.heap.size, 2, none⟩ = some (.int .i64 n) := D.cell 2
      have hHl := D.lt
      clear D
      go_wp2_with fail
      all_goals clear hB hC hbel c0 c1 c2
      all_goals generalize wr.alloc (.cells #[.int .i64 kd, .int .i64 t, .int .i64 n] 37) = wd at *
      all_goals generalize wr.heap.size = H at *
      · have hbe : (s.takes t n != s.takes t n) = false := by simp
        go_region_held3 (fun w' => w'.cell? ⟨H, 1, none⟩ = some (.int .i64 t) ∧ w'.cell? ⟨H, 2, none⟩ = some (.int .i64 n)) (first | exact ⟨d1, d2⟩ | exact ⟨dd1, dd2⟩ | exact ⟨ee1, ee2⟩)
        (first
          | (go_at_call 13; refine (take_any b s t n _ hB3.drew hs i1 i2).mono ?_; rintro e w5 ⟨rfl, hB5, hO5⟩; have hC5 := hC3.drew.off hO5 (by omega); have hbel5 := below_off hbel3.drew hO5 (Nat.le_refl _) (fun i hi e => by omega); have dd1 := (hO5.cell (p := ⟨H, 1, none⟩) hHl (by simp; omega)).trans d1; have dd2 := (hO5.cell (p := ⟨H, 2, none⟩) hHl (by simp; omega)).trans d2; have hHl5 : H < w5.heap.size := Nat.lt_of_lt_of_le hHl hO5.size)
          | (go_at_call 16; refine (rtake_any c s t n _ hC5 hs i1 i2).mono ?_; rintro e w6 ⟨rfl, hC6, hO6⟩; have hB6 := hB5.off hO6 (by omega); have hbel6 := below_off hbel5 hO6 (Nat.le_refl _) (fun i hi e => by omega); have ee1 := (hO6.cell (p := ⟨H, 1, none⟩) hHl5 (by simp; omega)).trans dd1; have ee2 := (hO6.cell (p := ⟨H, 2, none⟩) hHl5 (by simp; omega)).trans dd2))
        go_wp2
        exact ⟨⟨k + 1, _, by omega, by go_num, hB6, hC6, Bk.took_ok hs i1, hbel6⟩, by simp [intOf]; omega⟩
      · have hbe : ((s.learn t).tokens != (s.learn t).tokens) = false := by simp
        go_region_held3 (fun w' => w'.cell? ⟨H, 1, none⟩ = some (.int .i64 t)) (first | exact d1 | exact dd1 | exact ee1)
        (first
          | (go_at_call 14; refine (tokens_any b s t _ hB3.drew hs i1).mono ?_; rintro e w5 ⟨rfl, hB5, hO5⟩; have hC5 := hC3.drew.off hO5 (by omega); have hbel5 := below_off hbel3.drew hO5 (Nat.le_refl _) (fun i hi e => by omega); have dd1 := (hO5.cell (p := ⟨H, 1, none⟩) hHl (by simp; omega)).trans d1; have hHl5 : H < w5.heap.size := Nat.lt_of_lt_of_le hHl hO5.size)
          | (go_at_call 17; refine (rtokens_any c s t _ hC5 hs i1).mono ?_; rintro e w6 ⟨rfl, hC6, hO6⟩; have hB6 := hB5.off hO6 (by omega); have hbel6 := below_off hbel5 hO6 (Nat.le_refl _) (fun i hi e => by omega); have ee1 := (hO6.cell (p := ⟨H, 1, none⟩) hHl5 (by simp; omega)).trans dd1))
        go_wp2
        exact ⟨⟨k + 1, _, by omega, by go_num, hB6, hC6, Bk.learn_ok hs i1, hbel6⟩, by simp [intOf]; omega⟩
      · have hbe : (((s.learn t).tokens == s.burst) != ((s.learn t).tokens == s.burst)) = false := by simp
        go_region_held3 (fun w' => w'.cell? ⟨H, 1, none⟩ = some (.int .i64 t)) (first | exact d1 | exact dd1 | exact ee1)
        (first
          | (go_at_call 18; refine (full_any b s t _ hB3.drew hs i1).mono ?_; rintro e w5 ⟨rfl, hB5, hO5⟩; have hC5 := hC3.drew.off hO5 (by omega); have hbel5 := below_off hbel3.drew hO5 (Nat.le_refl _) (fun i hi e => by omega); have dd1 := (hO5.cell (p := ⟨H, 1, none⟩) hHl (by simp; omega)).trans d1; have hHl5 : H < w5.heap.size := Nat.lt_of_lt_of_le hHl hO5.size)
          | (go_at_call 19; refine (rfull_any c s t _ hC5 hs i1).mono ?_; rintro e w6 ⟨rfl, hC6, hO6⟩; have hB6 := hB5.off hO6 (by omega); have hbel6 := below_off hbel5 hO6 (Nat.le_refl _) (fun i hi e => by omega); have ee1 := (hO6.cell (p := ⟨H, 1, none⟩) hHl5 (by simp; omega)).trans dd1))
        go_wp2
        exact ⟨⟨k + 1, _, by omega, by go_num, hB6, hC6, Bk.learn_ok hs i1, hbel6⟩, by simp [intOf]; omega⟩
      · exact ⟨⟨k + 1, s, by omega, by go_num, hB3, hC3, hs, hbel3⟩, by simp [intOf]; omega⟩
    · go_wp2_with fail
      refine (tokens_any b s now wr hB hs hn).mono ?_
      rintro e w3 ⟨rfl, hB3, hO3⟩
      have hC3 := hC.off hO3 (by omega)
      have hbel3 := below_off hbel hO3 (Nat.le_refl _) (fun i hi e => by omega)
      clear hB hC hbel
      go_wp2_with fail
      refine (rtokens_any c s now w3 hC3 hs hn).mono ?_
      rintro e w4 ⟨rfl, hC4, hO4⟩
      have hbel4 := below_off hbel3 hO4 (Nat.le_refl _) (fun i hi e => by omega)
      go_wp2
      go_ret
      exact ⟨by simp, hbel4⟩

theorem bucketScript_walk (a0 a1 a2 : Int) (a3 : Option Addr) (len3 cap3 : Nat) (F3 : Nat → List Int) (w : World) (_ : (Lit.int .i64 a0).wf = true) (_ : (Lit.int .i64 a1).wf = true) (w2 : (Lit.int .i64 a2).wf = true) (w3 : Elems [.i64, .i64, .i64] w a3 len3 F3) (hl : len3 ≤ maxLen) :
    Calls Try.prog 7 #[.int .i64 a0, .int .i64 a1, .int .i64 a2, .slice a3 len3 cap3] w fun e w' => e = .returned (.bool true) ∧ Below w.heap.size w w' :=
  bscript_walk a0 a1 a2 a3 len3 cap3 F3 w (bounds_i64 w2) w3 (by unfold maxLen at hl; omega)
end Go.Proofs.Ytepibimlmfhceaa
