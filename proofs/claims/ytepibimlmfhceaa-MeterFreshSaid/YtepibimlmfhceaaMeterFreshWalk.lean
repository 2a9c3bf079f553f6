/- The walk over MeterFresh: it returns true and writes nothing that was there. Conditions: the numbers are of their kinds. -/
import Derived.Test.YtepibimlmfhceaaFreshPure
import Derived.Test.YtepibimlmfhceaaFlatOf
namespace Go.Proofs.Ytepibimlmfhceaa
open Go.RowKit

theorem rown_not_blk {w : World} {rb : Nat} {rate burst : Int} {v : Value} {l : List REnt} (h : RAt w rb rate burst v l) {b : Nat} {T : TypeId} {cs : Array Value} (hb : Blk w b T cs)
    (h1 : T ≠ 59) (h2 : T ≠ 76) (h3 : T ≠ 75) (h4 : T ≠ 61) : ¬ ROwn rb v l b := by
  rintro (rfl | hg | ⟨e, he, rfl | rfl⟩)
  · exact MAt.blk_ne hb h.top h1 rfl
  · obtain ⟨cur, hc⟩ := ownsRow_blk h.row hg; exact MAt.blk_ne hb hc h2 rfl
  · exact MAt.blk_ne hb (h.one e he) h3 rfl
  · exact MAt.blk_ne hb (h.bk e he) h4 rfl

def FreshRel (W : World) (mb r rb s : Nat) (rate burst : Int) (hi lo : Int) (len : Nat) (i : Value) (wr : World) : Prop :=
  ∃ (k : Nat) (turns : Int) (es : List Ent) (clock : Nat) (v : Value) (l : List REnt), k ≤ len ∧ i = .int .i64 k ∧ MAt wr mb r rate burst turns es clock ∧ RAt wr rb rate burst v l ∧ Same es l ∧ 0 ≤ turns ∧ turns ≤ k ∧
    Below W.heap.size W wr ∧ (∀ i, Own mb r es i → W.heap.size ≤ i) ∧ (∀ i, ROwn rb v l i → W.heap.size ≤ i) ∧ Blk wr s 46 #[.int .u64 hi, .int .u64 lo]

set_option maxRecDepth 100000 in
set_option maxHeartbeats 2000000 in
theorem fresh_walk (rate burst : Int) (a : Option Addr) (len cap : Nat) (F : Nat → List Int) (shi slo now : Int) (w : World) (hin : Elems [.i64, .u64, .u64, .i64] w a len F) (hnow : I64 now) (hlen : len ≤ 9223372036854775807) :
    Calls Try.prog 11 #[.int .i64 rate, .int .i64 burst, .slice a len cap, .agg #[.int .u64 shi, .int .u64 slo], .int .i64 now] w fun e w' => e = .returned (.bool true) ∧ Below w.heap.size w w' := by
  have hb0 : Below w.heap.size w (w.alloc (.cells #[.int .u64 shi, .int .u64 slo] 46)) := ((Off.refl (fun _ => False) w).alloc (.cells #[.int .u64 shi, .int .u64 slo] 46)).below (Nat.le_refl _) (fun _ _ h => h)
  have hS0 := Blk.new w 46 #[.int .u64 shi, .int .u64 slo]
  by_cases hbig : 4096 < len
  · go_enter Try.func11, Try.ntmps11
    go_wp2
    go_ret
    exact ⟨rfl, hb0⟩
  go_enter Try.func11, Try.ntmps11
  go_wp2_with fail
  refine (mnew_any rate burst _).mono ?_
  rintro e w1 ⟨mb, r, rfl, hmb, hr, hM, hO⟩
  have hbel1 := below_off hb0 hO (by simp) (fun _ _ k => k)
  have hS1 := hO.blk hS0 id
  go_wp2_with fail
  refine (r12new_any rate burst w1).mono ?_
  rintro e w2 ⟨rb, rfl, hrb, hR, hO2⟩
  have hM2 := hM.off hO2 (fun _ _ k => k)
  have hS2 := hO2.blk hS1 id
  have hbel2 := below_off hbel1 hO2 (Nat.le_refl _) (fun _ _ k => k)
  have hsz : w.heap.size ≤ w1.heap.size := hbel1.size
  clear hM hO hO2 hS0 hS1 hb0 hbel1
  simp at hmb hr
  go_wp2_with fail
  go_loopw [13] (FreshRel w mb r rb w.heap.size rate burst shi slo len) (fun i _ => len - (intOf i).toNat)
  case atStart =>
    have q1 : ∀ i, Own mb r [] i → w.heap.size ≤ i := by
      rintro i (k | k | ⟨e, he, _⟩)
      · omega
      · omega
      · cases he
    have q2 : ∀ i, ROwn rb (.slice none 0 0) [] i → w.heap.size ≤ i := by
      rintro i (k | k | ⟨e, he, _⟩)
      · omega
      · simp [Value.ownBlock] at k
      · cases he
    exact ⟨0, 0, [], 0, _, [], Nat.zero_le _, rfl, hM2, hR, Same.nil, by omega, by simp, hbel2, q1, q2, hS2⟩
  case round =>
    clear hM2 hR hbel2 hS2
    obtain ⟨k, turns, es, clock, v, l, hk, rfl, hM, hR, hsame, ht0, ht1, hbel, hown, hrown, hS⟩ := hrel
    by_cases hlt : k < len
    · obtain ⟨bx, off, hi, lo, t, rfl, hbx, hst, _, _, _, _, ht⟩ := hin.step hbel hlt
      clear hin
      have hbxr : bx < wr.heap.size := Nat.lt_of_lt_of_le hbx hbel.size
      obtain ⟨s1, s2, s3⟩ := hst
      have hkI : (0 : Int) ≤ (k : Int) := by omega
      have hkL : (k : Int) < (len : Int) := by omega
      have hst : StepAt wr bx (off + k * 4) hi lo t := ⟨s1, s2, s3⟩
      have ht2 : turns ≤ 1000000 := by omega
      go_wp2_with fail
      go_region_held3 (fun w' => w'.cell? ⟨bx, off + k * 4 + 1, none⟩ = some (.int .u64 hi) ∧ w'.cell? ⟨bx, off + k * 4 + 2, none⟩ = some (.int .u64 lo) ∧ w'.cell? ⟨bx, off + k * 4 + 3, none⟩ = some (.int .i64 t)) (first | exact ⟨s1, s2, s3⟩ | exact ⟨hst4.h1, hst4.h2, hst4.h3⟩)
        (first | (go_at_call 21; refine (mtake_any hi lo t hM.drew ht ht0 ht2).mono ?_; rintro e w4 ⟨es4, turns4, clock4, ok4, room4, rfl, hT4, hM4, hO4, hown4⟩; have hst4 := hst.drew.off hO4 hbxr (fun k => by have := hown _ k; omega)))
      have hR4 := hR.off ((Off.refl (fun _ => False) wr).drew) (fun _ _ k => k) |>.off hO4 (fun i k => hR.apart hM k)
      have hS4 := hO4.blk hS.drew (own_not_blk hM hS (by decide) (by decide) (by decide))
      have hbel4 := below_off hbel.drew hO4 (Nat.le_refl _) (fun i hi k => by have := hown i k; omega)
      have hwr : w.heap.size ≤ wr.heap.size := hbel.size
      have hown4' : ∀ i, Own mb r es4 i → w.heap.size ≤ i := fun i k => (hown4 i k).elim (hown i) (fun k => by simp at k; omega)
      have hbx4 : bx < w4.heap.size := Nat.lt_of_lt_of_le hbx hbel4.size
      have htl := hM.turnLe
      have hke := hM.keys
      clear s1 s2 s3 hM hR hS hst hO4 hbel
      have hst := hst4
      obtain ⟨s1, s2, s3⟩ := hst
      go_wp2_with fail
      go_region_held3 (fun w' => w'.cell? ⟨bx, off + k * 4 + 1, none⟩ = some (.int .u64 hi) ∧ w'.cell? ⟨bx, off + k * 4 + 2, none⟩ = some (.int .u64 lo) ∧ w'.cell? ⟨bx, off + k * 4 + 3, none⟩ = some (.int .i64 t)) (first | exact ⟨s1, s2, s3⟩ | exact ⟨hst6.h1, hst6.h2, hst6.h3⟩)
        (first | (go_at_call 26; refine (rtake12_any hi lo t (hR4.off ((Off.refl (fun _ => False) w4).drew) (fun _ _ k => k)) ht).mono ?_; rintro e w6 ⟨v6, l6, ok6, room6, rfl, hT6, hR6, hO6, hown6⟩; have hst6 := hst4.drew.off hO6 hbx4 (fun k => by have := hrown _ k; omega)))
      have hM6 := hM4.drew.off hO6 (fun i k e => hR4.apart hM4 e k)
      have hS6 := hO6.blk hS4.drew (rown_not_blk hR4 hS4 (by decide) (by decide) (by decide) (by decide))
      have hbel6 := below_off hbel4.drew hO6 (Nat.le_refl _) (fun i hi k => by have := hrown i k; omega)
      have hw4 : w.heap.size ≤ w4.heap.size := hbel4.size
      have hrown6 : ∀ i, ROwn rb v6 l6 i → w.heap.size ≤ i := fun i k => (hown6 i k).elim (hrown i) (fun k => by simp at k; omega)
      have hsame6 := hsame.step hke (fun e he => (htl e he).2) hT4 hT6
      have ht4 : 0 ≤ turns4 ∧ turns4 ≤ k + 1 := by
        rcases hT4 with ⟨_, _, _, _, h, _⟩ | ⟨_, _, _, _, _, _, _, _, h, _⟩ | ⟨_, _, h, _⟩ <;> omega
      clear s1 s2 s3
      go_wp2
      exact ⟨⟨k + 1, _, _, _, _, _, by omega, by go_num, hM6, hR6, hsame6, ht4.1, by omega, hbel6, hown4', hrown6, hS6⟩, by simp [intOf]; omega⟩
    · have c0 : wr.cell? ⟨w.heap.size, 0, none⟩ = some (.int .u64 shi) := hS.cell 0
      have c1 : wr.cell? ⟨w.heap.size, 1, none⟩ = some (.int .u64 slo) := hS.cell 1
      have hwr : w.heap.size ≤ wr.heap.size := hbel.size
      have hsl : w.heap.size < wr.heap.size := hS.lt
      have hrl := hR.top.lt
      obtain ⟨av, capv, hv, _⟩ := ownsRow_form hR.row
      have c2 : wr.cell? ⟨rb, 2, none⟩ = some v := hR.top.cell 2
      rw [hv, ← hsame.len] at c2
      have hfew := hM.few
      have hfewI : (es.length : Int) ≤ 32 := by omega
      have hslf : ((es.length : Int) != (es.length : Int)) = false := by simp
      by_cases hx : ∃ x ∈ es, x.a = (shi, slo)
      · obtain ⟨y, hy, hya⟩ := (hsame.has _).1 hx
        obtain ⟨x, hx, hxa⟩ := hx
        go_wp2_with fail
        go_region_held3 (fun w' => w'.cell? ⟨w.heap.size, 0, none⟩ = some (.int .u64 shi) ∧ w'.cell? ⟨w.heap.size, 1, none⟩ = some (.int .u64 slo) ∧ w'.cell? ⟨rb, 2, none⟩ = some (.slice av es.length capv)) (first | exact ⟨c0, c1, c2⟩ | exact ⟨d0, d1, d2⟩ | exact ⟨s0, s1, s2⟩)
          (first
            | (go_at_call 22; refine (mhas_some shi slo hM.drew hx hxa).mono ?_; rintro e w5 ⟨rfl, hO5⟩; have hM5 := hM.drew.off hO5 (fun _ _ k => k); have hR5 := (hR.off ((Off.refl (fun _ => False) wr).drew) (fun _ _ k => k)).off hO5 (fun _ _ k => k); have hS5 := hO5.blk hS.drew id; have hbel5 := below_off hbel.drew hO5 (Nat.le_refl _) (fun _ _ k => k); have d0 : w5.cell? ⟨w.heap.size, 0, none⟩ = some (.int .u64 shi) := hS5.cell 0; have d1 : w5.cell? ⟨w.heap.size, 1, none⟩ = some (.int .u64 slo) := hS5.cell 1; have d2 := (hO5.cell (p := ⟨rb, 2, none⟩) hrl id).trans c2; have hrl5 : rb < w5.heap.size := Nat.lt_of_lt_of_le hrl hO5.size)
            | (go_at_call 27; refine (rhas_any shi slo hR5).mono ?_; rintro e w6 ⟨hO6, hcase⟩; obtain rfl := hcase.elim (fun h => h.2) (fun h => absurd hya (h.1 y hy)); have hM6 := hM5.off hO6 (fun _ _ k => k); have hS6 := hO6.blk hS5 id; have hbel6 := below_off hbel5 hO6 (Nat.le_refl _) (fun _ _ k => k); have s0 : w6.cell? ⟨w.heap.size, 0, none⟩ = some (.int .u64 shi) := hS6.cell 0; have s1 : w6.cell? ⟨w.heap.size, 1, none⟩ = some (.int .u64 slo) := hS6.cell 1; have s2 := (hO6.cell (p := ⟨rb, 2, none⟩) hrl5 id).trans d2)
            | (go_at_call 23; refine (mlen_any hM6).mono ?_; rintro e w7 ⟨rfl, rfl⟩))
        go_wp2_with fail
        refine (mhas_some shi slo hM6 hx hxa).mono ?_
        rintro e w7 ⟨rfl, hO7⟩
        have hbel7 := below_off hbel6 hO7 (Nat.le_refl _) (fun _ _ k => k)
        go_wp2
        go_ret
        exact ⟨rfl, hbel7⟩
      · have hx' : ∀ e ∈ es, e.a ≠ (shi, slo) := fun e he k => hx ⟨e, he, k⟩
        have hy' : ∀ e ∈ l, e.a ≠ (shi, slo) := fun e he k => hx ((hsame.has _).2 ⟨e, he, k⟩)
        clear hx
        go_wp2_with fail
        go_region_held3 (fun w' => w'.cell? ⟨w.heap.size, 0, none⟩ = some (.int .u64 shi) ∧ w'.cell? ⟨w.heap.size, 1, none⟩ = some (.int .u64 slo) ∧ w'.cell? ⟨rb, 2, none⟩ = some (.slice av es.length capv)) (first | exact ⟨c0, c1, c2⟩ | exact ⟨d0, d1, d2⟩ | exact ⟨s0, s1, s2⟩)
          (first
            | (go_at_call 22; refine (mhas_none shi slo hM.drew hx').mono ?_; rintro e w5 ⟨rfl, hO5⟩; have hM5 := hM.drew.off hO5 (fun _ _ k => k); have hR5 := (hR.off ((Off.refl (fun _ => False) wr).drew) (fun _ _ k => k)).off hO5 (fun _ _ k => k); have hS5 := hO5.blk hS.drew id; have hbel5 := below_off hbel.drew hO5 (Nat.le_refl _) (fun _ _ k => k); have d0 : w5.cell? ⟨w.heap.size, 0, none⟩ = some (.int .u64 shi) := hS5.cell 0; have d1 : w5.cell? ⟨w.heap.size, 1, none⟩ = some (.int .u64 slo) := hS5.cell 1; have d2 := (hO5.cell (p := ⟨rb, 2, none⟩) hrl id).trans c2; have hrl5 : rb < w5.heap.size := Nat.lt_of_lt_of_le hrl hO5.size)
            | (go_at_call 27; refine (rhas_any shi slo hR5).mono ?_; rintro e w6 ⟨hO6, hcase⟩; obtain rfl := hcase.elim (fun ⟨⟨x, hx, hxa⟩, _⟩ => absurd hxa (hy' x hx)) (fun h => h.2); have hM6 := hM5.off hO6 (fun _ _ k => k); have hS6 := hO6.blk hS5 id; have hbel6 := below_off hbel5 hO6 (Nat.le_refl _) (fun _ _ k => k); have s0 : w6.cell? ⟨w.heap.size, 0, none⟩ = some (.int .u64 shi) := hS6.cell 0; have s1 : w6.cell? ⟨w.heap.size, 1, none⟩ = some (.int .u64 slo) := hS6.cell 1; have s2 := (hO6.cell (p := ⟨rb, 2, none⟩) hrl5 id).trans d2)
            | (go_at_call 23; refine (mlen_any hM6).mono ?_; rintro e w7 ⟨rfl, rfl⟩))
        go_wp2_with fail
        refine (mhas_none shi slo hM6 hx').mono ?_
        rintro e w7 ⟨rfl, hO7⟩
        have hbel7 := below_off hbel6 hO7 (Nat.le_refl _) (fun _ _ k => k)
        have hM7 := hM6.off hO7 (fun _ _ k => k)
        have hS7 := hO7.blk hS6 id
        have hw7 : w.heap.size ≤ w7.heap.size := hbel7.size
        clear s0 s1 s2 hM6 hS6 hbel6 hO7
        have s0 : w7.cell? ⟨w.heap.size, 0, none⟩ = some (.int .u64 shi) := hS7.cell 0
        have s1 : w7.cell? ⟨w.heap.size, 1, none⟩ = some (.int .u64 slo) := hS7.cell 1
        go_wp2_with fail
        refine (mtake_any shi slo now hM7 hnow ht0 (by omega)).mono ?_
        rintro e w8 ⟨es8, turns8, clock8, ok8, room8, rfl, hT8, hM8, hO8, hown8⟩
        have hbel8 := below_off hbel7 hO8 (Nat.le_refl _) (fun i hi k => by have := hown i k; omega)
        have hS8 := hO8.blk hS7 (own_not_blk hM7 hS7 (by decide) (by decide) (by decide))
        have hown8' : ∀ i, Own mb r es8 i → w.heap.size ≤ i := fun i k => (hown8 i k).elim (hown i) (fun k => by omega)
        clear s0 s1 hM7 hS7
        have s0 : w8.cell? ⟨w.heap.size, 0, none⟩ = some (.int .u64 shi) := hS8.cell 0
        have s1 : w8.cell? ⟨w.heap.size, 1, none⟩ = some (.int .u64 slo) := hS8.cell 1
        rcases hT8 with ⟨x, hx, hxa, _⟩ | ⟨_, es3, _, n, hn1, hn2, hn3, rfl, rfl, rfl, rfl⟩ | ⟨_, hR8, rfl, rfl, rfl⟩
        · exact absurd hxa (hx' x hx)
        · have hft : (Bk.new rate burst now).takes now 1 = true := fresh_takes
          have hfk : (n.s.learn now).tokens = (Bk.new rate burst now).burst - 1 := by rw [hn3]; exact fresh_tokens
          have hok := Bk.new_ok rate burst now hnow
          have hb0 := hok.b0
          have hb1 := hok.b1
          have hnm : n ∈ es3 ++ [n] := List.mem_append.2 (.inr (List.mem_singleton.2 rfl))
          have htk := mtok_some shi slo now hM8 hnow hnm hn1
          rw [hfk] at htk
          have hHid := Lib.hid hfk
          have hHid2 := Lib.hid hn3
          clear hfk hn3
          rw [hft]
          generalize hbu : (Bk.new rate burst now).burst = bu at *
          have hz1 : ((bu - 1 : Int) == bu - 1) = true := by simp
          go_wp2_with fail
          refine htk.mono ?_
          rintro e w9 ⟨rfl, hM9, hO9⟩
          have hS9 := hO9.blk hS8 (fun k => own_not_blk hM8 hS8 (by decide) (by decide) (by decide) ((own_reS _ _).1 k))
          have hbel9 := below_off hbel8 hO9 (Nat.le_refl _) (fun i hi k => by have := hown8' i ((own_reS _ _).1 k); omega)
          go_wp2_with fail
          refine (rnew_any rate burst now _).mono ?_
          rintro e w10 ⟨c, rfl, hcn, hB10, hO10⟩
          have hbel10 := below_off hbel9 hO10 (Nat.le_refl _) (fun _ _ k => k)
          have b1 := hB10.facts.h1
          rw [hbu] at b1
          go_wp2
          go_ret
          exact ⟨rfl, hbel10⟩
        · have h32 : es8.length = 32 := by
            rcases hR8 with ⟨_, h, _⟩ | ⟨_, h, _⟩ | ⟨h, _, _, rfl⟩
            · cases h
            · cases h
            · rw [List.length_map]; exact h
          go_wp2_with fail
          refine (mlen_any hM8).mono ?_
          rintro e w9 ⟨rfl, rfl⟩
          rw [h32]
          go_wp2
          go_ret
          exact ⟨rfl, hbel8⟩

theorem meterFresh_walk (a0 a1 : Int) (a2 : Option Addr) (len2 cap2 : Nat) (F2 : Nat → List Int) (n0 n1 a4 : Int) (w : World) (_ : (Lit.int .i64 a0).wf = true) (_ : (Lit.int .i64 a1).wf = true) (w2 : Elems [.i64, .u64, .u64, .i64] w a2 len2 F2) (hl : len2 ≤ maxLen)
    (_ : (Lit.int .u64 n0).wf = true) (_ : (Lit.int .u64 n1).wf = true) (w4 : (Lit.int .i64 a4).wf = true) :
    Calls Try.prog 11 #[.int .i64 a0, .int .i64 a1, .slice a2 len2 cap2, .agg #[.int .u64 n0, .int .u64 n1], .int .i64 a4] w fun e w' => e = .returned (.bool true) ∧ Below w.heap.size w w' :=
  fresh_walk a0 a1 a2 len2 cap2 F2 n0 n1 a4 w w2 (bounds_i64 w4) (by unfold maxLen at hl; omega)
end Go.Proofs.Ytepibimlmfhceaa
