/- The walk over MeterCaps: it returns true and writes nothing that was there. Conditions: the numbers are of their kinds. -/
import Derived.Test.YtepibimlmfhceaaMtStep
namespace Go.Proofs.Ytepibimlmfhceaa
open Go.RowKit

def CapsRel (W : World) (mb r : Nat) (rate burst : Int) (len : Nat) (i : Value) (wr : World) : Prop :=
  ∃ (k : Nat) (turns : Int) (es : List Ent) (clock : Nat), k ≤ len ∧ i = .int .i64 k ∧ MAt wr mb r rate burst turns es clock ∧ 0 ≤ turns ∧ turns ≤ k ∧ Below W.heap.size W wr ∧ ∀ i, Own mb r es i → W.heap.size ≤ i

set_option maxHeartbeats 2000000 in
theorem caps_walk (rate burst : Int) (a : Option Addr) (len cap : Nat) (F : Nat → List Int) (w : World) (hin : Elems [.i64, .u64, .u64, .i64] w a len F) (hlen : len ≤ 9223372036854775807) :
    Calls Try.prog 9 #[.int .i64 rate, .int .i64 burst, .slice a len cap] w fun e w' => e = .returned (.bool true) ∧ Below w.heap.size w w' := by
  by_cases hbig : 4096 < len
  · go_enter Try.func9, Try.ntmps9
    go_wp2
    go_ret
    exact ⟨rfl, Below.refl _ _⟩
  go_enter Try.func9, Try.ntmps9
  go_wp2_with fail
  refine (mnew_any rate burst w).mono ?_
  rintro e w1 ⟨mb, r, rfl, hmb, hr, hM, hO⟩
  have hbel := hO.below (Nat.le_refl _) (fun _ _ h => h)
  go_wp2_with fail
  go_loopw [8] (CapsRel w mb r rate burst len) (fun i _ => len - (intOf i).toNat)
  case atStart => exact ⟨0, 0, [], 0, Nat.zero_le _, rfl, hM, by omega, by simp, hbel, fun i k => by rcases k with k | k | ⟨e, he, _⟩; omega; omega; cases he⟩
  case round =>
    clear hM hbel hO
    obtain ⟨k, turns, es, clock, hk, rfl, hM, ht0, ht1, hbel, hown⟩ := hrel
    by_cases hlt : k < len
    · obtain ⟨bx, off, hi, lo, t, rfl, hbx, hst, _, _, _, _, ht⟩ := hin.step hbel hlt
      clear hin
      have hbxr : bx < wr.heap.size := Nat.lt_of_lt_of_le hbx hbel.size
      obtain ⟨s1, s2, s3⟩ := hst
      have hkI : (0 : Int) ≤ (k : Int) := by omega
      have hkL : (k : Int) < (len : Int) := by omega
      by_cases hx : ∃ x ∈ es, x.a = (hi, lo)
      · obtain ⟨x, hx, hxa⟩ := hx
        go_wp2_with fail
        refine (mhas_some hi lo hM hx hxa).mono ?_
        rintro e w2 ⟨rfl, hO2⟩
        have hM2 := hM.off hO2 (fun _ _ k => k)
        have hst2 := StepAt.off ⟨s1, s2, s3⟩ hO2 hbxr id
        have hbel2 := below_off hbel hO2 (Nat.le_refl _) (fun _ _ k => k)
        have hbx2 := Nat.lt_of_lt_of_le hbxr hO2.size
        clear s1 s2 s3 hM hO2 hbel hbxr
        go_wp2_with fail
        refine (mlen_any hM2).mono ?_
        rintro e w3 ⟨rfl, rfl⟩
        have hst2' := hst2
        obtain ⟨s1, s2, s3⟩ := hst2'
        go_wp2_with fail
        go_region_held3 (fun w' => w'.cell? ⟨bx, off + k * 4 + 1, none⟩ = some (.int .u64 hi) ∧ w'.cell? ⟨bx, off + k * 4 + 2, none⟩ = some (.int .u64 lo) ∧ w'.cell? ⟨bx, off + k * 4 + 3, none⟩ = some (.int .i64 t)) (first | exact ⟨s1, s2, s3⟩ | exact ⟨hst4.h1, hst4.h2, hst4.h3⟩)
          (first | (go_at_call 21; refine (mtake_any hi lo t hM2.drew ht ht0 (by omega)).mono ?_; rintro e w4 ⟨es4, turns4, clock4, ok4, room4, rfl, hR4, hM4, hO4, hown4⟩; have hst4 := hst2.drew.off hO4 hbx2 (fun k => by have := hown _ k; omega)))
        have hbel4 := below_off hbel2.drew hO4 (Nat.le_refl _) (fun i hi k => by have := hown i k; omega)
        have hown4' : ∀ i, Own mb r es4 i → w.heap.size ≤ i := fun i k => (hown4 i k).elim (hown i) (fun k => by have := hbel2.size; simp at k; omega)
        rcases hR4 with ⟨x', hx', hxa', rfl, rfl, rfl, rfl⟩ | ⟨habs, _⟩ | ⟨habs, _⟩
        · obtain rfl := nodup_inj hM2.keys hx' hx (hxa'.trans hxa.symm)
          have hx4 : tookE (hi, lo) (x'.s.took t 1) (turns + 1) x' ∈ es.map (tookE (hi, lo) (x'.s.took t 1) (turns + 1)) := List.mem_map_of_mem hx
          have hfew := hM4.few
          go_wp2_with fail
          refine (mlen_any hM4).mono ?_
          rintro e w5 ⟨rfl, rfl⟩
          generalize hL : (es.map (tookE (hi, lo) (x'.s.took t 1) (turns + 1))).length = L at *
          have hL' : (L : Int) ≤ 32 := by omega
          obtain ⟨s1, s2, s3⟩ := hst4
          go_wp2_with fail
          refine (mhas_some hi lo hM4 hx4 (by simp only [tookE, hxa]; rfl)).mono ?_
          rintro e w6 ⟨rfl, hO6⟩
          have hM6 := hM4.off hO6 (fun _ _ k => k)
          have hbel6 := below_off hbel4 hO6 (Nat.le_refl _) (fun _ _ k => k)
          go_wp2
          exact ⟨⟨k + 1, _, _, _, by omega, by go_num, hM6, by omega, by omega, hbel6, hown4'⟩, by simp [intOf]; omega⟩
        · exact absurd hxa (habs x hx)
        · exact absurd hxa (habs x hx)
      · have hx' : ∀ e ∈ es, e.a ≠ (hi, lo) := fun e he k => hx ⟨e, he, k⟩
        clear hx
        go_wp2_with fail
        refine (mhas_none hi lo hM hx').mono ?_
        rintro e w2 ⟨rfl, hO2⟩
        have hM2 := hM.off hO2 (fun _ _ k => k)
        have hst2 := StepAt.off ⟨s1, s2, s3⟩ hO2 hbxr id
        have hbel2 := below_off hbel hO2 (Nat.le_refl _) (fun _ _ k => k)
        have hbx2 := Nat.lt_of_lt_of_le hbxr hO2.size
        clear s1 s2 s3 hM hO2 hbel hbxr
        go_wp2_with fail
        refine (mlen_any hM2).mono ?_
        rintro e w3 ⟨rfl, rfl⟩
        have hst2' := hst2
        obtain ⟨s1, s2, s3⟩ := hst2'
        go_wp2_with fail
        go_region_held3 (fun w' => w'.cell? ⟨bx, off + k * 4 + 1, none⟩ = some (.int .u64 hi) ∧ w'.cell? ⟨bx, off + k * 4 + 2, none⟩ = some (.int .u64 lo) ∧ w'.cell? ⟨bx, off + k * 4 + 3, none⟩ = some (.int .i64 t)) (first | exact ⟨s1, s2, s3⟩ | exact ⟨hst4.h1, hst4.h2, hst4.h3⟩)
          (first | (go_at_call 21; refine (mtake_any hi lo t hM2.drew ht ht0 (by omega)).mono ?_; rintro e w4 ⟨es4, turns4, clock4, ok4, room4, rfl, hR4, hM4, hO4, hown4⟩; have hst4 := hst2.drew.off hO4 hbx2 (fun k => by have := hown _ k; omega)))
        have hbel4 := below_off hbel2.drew hO4 (Nat.le_refl _) (fun i hi k => by have := hown i k; omega)
        have hown4' : ∀ i, Own mb r es4 i → w.heap.size ≤ i := fun i k => (hown4 i k).elim (hown i) (fun k => by have := hbel2.size; simp at k; omega)
        rcases hR4 with ⟨x', hx2, hxa', _⟩ | ⟨_, es3, hR3, n, hn1, hn2, hn3, rfl, rfl, rfl, rfl⟩ | ⟨_, hR3, rfl, rfl, rfl⟩
        · exact absurd hxa' (hx' x' hx2)
        · have hx4 : n ∈ es3 ++ [n] := List.mem_append.2 (.inr (List.mem_singleton.2 rfl))
          have hfew := hM4.few
          go_wp2_with fail
          refine (mlen_any hM4).mono ?_
          rintro e w5 ⟨rfl, rfl⟩
          generalize hL : (es3 ++ [n]).length = L at *
          have hL' : (L : Int) ≤ 32 := by omega
          obtain ⟨s1, s2, s3⟩ := hst4
          clear hn2 hn3
          go_wp2_with fail
          refine (mhas_some hi lo hM4 hx4 hn1).mono ?_
          rintro e w6 ⟨rfl, hO6⟩
          have hM6 := hM4.off hO6 (fun _ _ k => k)
          have hbel6 := below_off hbel4 hO6 (Nat.le_refl _) (fun _ _ k => k)
          go_wp2
          exact ⟨⟨k + 1, _, _, _, by omega, by go_num, hM6, by omega, by omega, hbel6, hown4'⟩, by simp [intOf]; omega⟩
        · have hfew := hM4.few
          have h32 : ((es.length : Int) != 32) = false := by simp [hR3.few]
          go_wp2_with fail
          refine (mlen_any hM4).mono ?_
          rintro e w5 ⟨rfl, rfl⟩
          generalize hL : es4.length = L at *
          have hL' : (L : Int) ≤ 32 := by omega
          go_wp2
          exact ⟨⟨k + 1, _, _, _, by omega, by go_num, hM4, by omega, by omega, hbel4, hown4'⟩, by simp [intOf]; omega⟩
    · go_wp2
      go_ret
      exact ⟨rfl, hbel⟩
theorem meterCaps_walk (a0 a1 : Int) (a2 : Option Addr) (len2 cap2 : Nat) (F2 : Nat → List Int) (w : World) (_ : (Lit.int .i64 a0).wf = true) (_ : (Lit.int .i64 a1).wf = true) (w2 : Elems [.i64, .u64, .u64, .i64] w a2 len2 F2) (hl : len2 ≤ maxLen) :
    Calls Try.prog 9 #[.int .i64 a0, .int .i64 a1, .slice a2 len2 cap2] w fun e w' => e = .returned (.bool true) ∧ Below w.heap.size w w' :=
  caps_walk a0 a1 a2 len2 cap2 F2 w w2 (by unfold maxLen at hl; omega)
end Go.Proofs.Ytepibimlmfhceaa
