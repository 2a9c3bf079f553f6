/- The walk over MeterSame: it returns true and writes nothing that was there. Conditions: the numbers are of their kinds. -/
import Derived.Test.YtepibimlmfhceaaMtStep
import Derived.Test.YtepibimlmfhceaaMtSame
import Derived.Lib.MinMax
namespace Go.Proofs.Ytepibimlmfhceaa
open Go.RowKit

def SameRel (W : World) (m1 r1 m2 r2 : Nat) (rate burst : Int) (len : Nat) (nw i : Value) (wr : World) : Prop :=
  ∃ (k : Nat) (now turns : Int) (es es' : List Ent) (c c' : Nat), k ≤ len ∧ i = .int .i64 k ∧ nw = .int .i64 now ∧ 0 ≤ now ∧ now ≤ 1099511627776 ∧
    MAt wr m1 r1 rate burst turns es c ∧ MAt wr m2 r2 rate burst turns es' c' ∧ Alike2 es es' ∧ 0 ≤ turns ∧ turns ≤ k ∧ (k = 0 → es = []) ∧
    Below W.heap.size W wr ∧ (∀ i, Own m1 r1 es i → W.heap.size ≤ i) ∧ (∀ i, Own m2 r2 es' i → W.heap.size ≤ i) ∧ ∀ i, Own m1 r1 es i → ¬ Own m2 r2 es' i

theorem mtok_any {w : World} {mb r : Nat} {rate burst turns : Int} {es : List Ent} {clock : Nat} (hi lo now : Int) (h : MAt w mb r rate burst turns es clock) (hn : I64 now) :
    Calls Try.prog 24 #[.pointer (some ⟨mb, 0, none⟩), .agg #[.int .u64 hi, .int .u64 lo], .int .i64 now] w fun e w' => ∃ v es', e = .returned (.int .i64 v) ∧ MAt w' mb r rate burst turns es' clock ∧ Off (Own mb r es) w w' ∧
      (∀ i, Own mb r es' i ↔ Own mb r es i) ∧ ((∃ x ∈ es, x.a = (hi, lo) ∧ es' = es.map (reS fun e => if e.a = (hi, lo) then x.s.learn now else e.s)) ∨ ((∀ e ∈ es, e.a ≠ (hi, lo)) ∧ es' = es)) := by
  by_cases hx : ∃ x ∈ es, x.a = (hi, lo)
  · obtain ⟨x, hx, ha⟩ := hx
    refine (mtok_some hi lo now h hn hx ha).mono ?_
    rintro e w' ⟨rfl, hM, hO⟩
    exact ⟨_, _, rfl, hM, hO.mono fun i _ k => (own_reS es i).1 k, fun i => own_reS es i, .inl ⟨x, hx, ha, rfl⟩⟩
  · have hx' : ∀ e ∈ es, e.a ≠ (hi, lo) := fun e he k => hx ⟨e, he, k⟩
    refine (mtok_none hi lo now h hx').mono ?_
    rintro e w' ⟨rfl, hM, hO⟩
    exact ⟨_, _, rfl, hM, hO, fun i => Iff.rfl, .inr ⟨hx', rfl⟩⟩

set_option maxRecDepth 100000 in
set_option maxHeartbeats 2000000 in
theorem same_walk (rate burst : Int) (a : Option Addr) (len cap : Nat) (F : Nat → List Int) (w : World) (hin : Elems [.i64, .u64, .u64, .i64] w a len F) (hlen : len ≤ 9223372036854775807) :
    Calls Try.prog 10 #[.int .i64 rate, .int .i64 burst, .slice a len cap] w fun e w' => e = .returned (.bool true) ∧ Below w.heap.size w w' := by
  by_cases hbig : 4096 < len
  · go_enter Try.func10, Try.ntmps10
    go_wp2
    go_ret
    exact ⟨rfl, Below.refl _ _⟩
  go_enter Try.func10, Try.ntmps10
  go_wp2_with fail
  refine (mnew_any rate burst w).mono ?_
  rintro e w1 ⟨m1, r1, rfl, hm1, hr1, hM1, hO1⟩
  have hbel := hO1.below (Nat.le_refl _) (fun _ _ h => h)
  go_wp2_with fail
  refine (mnew_any rate burst w1).mono ?_
  rintro e w2 ⟨m2, r2, rfl, hm2, hr2, hM2, hO2⟩
  have hM1' := hM1.off hO2 (fun _ _ k => k)
  have hbel2 := below_off hbel hO2 (Nat.le_refl _) (fun _ _ k => k)
  have hs := hbel.size
  have hl1 : m1 < w1.heap.size := hM1.top.lt
  have hl2 : r1 < w1.heap.size := hM1.map.lt
  go_wp2_with fail
  go_loopw [9, 10] (SameRel w m1 r1 m2 r2 rate burst len) (fun _ i _ => len - (intOf i).toNat)
  case atStart =>
    refine ⟨0, 0, 0, [], [], 0, 0, Nat.zero_le _, rfl, rfl, by omega, by omega, hM1', hM2, rfl, by omega, by simp, fun _ => rfl, hbel2, ?_, ?_, ?_⟩
    · intro i k; rcases k with k | k | ⟨e, he, _⟩; omega; omega; cases he
    · intro i k; rcases k with k | k | ⟨e, he, _⟩; omega; omega; cases he
    · intro i k k'
      rcases k with k | k | ⟨e, he, _⟩
      · rcases k' with k' | k' | ⟨e, he, _⟩; omega; omega; cases he
      · rcases k' with k' | k' | ⟨e, he, _⟩; omega; omega; cases he
      · cases he
  case round =>
    clear hM1 hM1' hM2 hbel hbel2 hO1 hO2 hs hl1 hl2
    obtain ⟨k, now0, turns, es, es', c, c', hk, rfl, rfl, hn0, hn1, hM, hM', hA, ht0, ht1, hfirst, hbel, hown, hown', hdis⟩ := hrel
    by_cases hlt : k < len
    · obtain ⟨bx, off, hi, lo, t, rfl, hbx, hst, _, _, _, _, ht⟩ := hin.step hbel hlt
      clear hin
      have hbxr : bx < wr.heap.size := Nat.lt_of_lt_of_le hbx hbel.size
      obtain ⟨now, hnow⟩ : ∃ now, now = max now0 (min t 1099511627776) := ⟨_, rfl⟩
      have hI : I64 now := ⟨by omega, by omega⟩
      have hN0 : 0 ≤ now := by omega
      have hN1 : now ≤ 1099511627776 := by omega
      have hN := Lib.hid hnow.symm
      clear hnow
      obtain ⟨s1, s2, s3⟩ := hst
      have hkI : (0 : Int) ≤ (k : Int) := by omega
      have hkL : (k : Int) < (len : Int) := by omega
      have hF := Lib.hid hfirst
      clear hfirst
      go_wp2_with fail
      rw [hN.out]
      refine (mtok_any hi lo now hM' hI).mono ?_
      rintro e w3 ⟨v, es3, rfl, hM3', hO3, hown3, htok⟩
      have hM3 := hM.off hO3 hdis
      have hst3 := StepAt.off ⟨s1, s2, s3⟩ hO3 hbxr (fun k => by have := hown' _ k; omega)
      have hbel3 := below_off hbel hO3 (Nat.le_refl _) (fun i hi k => by have := hown' i k; omega)
      have hbx3 := Nat.lt_of_lt_of_le hbxr hO3.size
      clear s1 s2 s3 hO3 hbxr hM
      have hst3' := hst3
      obtain ⟨s1, s2, s3⟩ := hst3'
      have hdis3 : ∀ i, Own m1 r1 es i → ¬ Own m2 r2 es3 i := fun i k k' => hdis i k ((hown3 i).1 k')
      have hown3' : ∀ i, Own m2 r2 es3 i → w.heap.size ≤ i := fun i k => hown' i ((hown3 i).1 k)
      go_wp2_with fail
      refine (mtake_any hi lo now hM3 hI ht0 (by omega)).mono ?_
      rintro e w4 ⟨es4, turns4, c4, ok4, room4, rfl, hR4, hM4, hO4, hown4⟩
      have hM4' := hM3'.off hO4 (fun i k k' => hdis3 i k' k)
      have hst4 := hst3.off hO4 hbx3 (fun k => by have := hown _ k; omega)
      have hbel4 := below_off hbel3 hO4 (Nat.le_refl _) (fun i hi k => by have := hown i k; omega)
      have hbx4 := Nat.lt_of_lt_of_le hbx3 hO4.size
      have hdis4 : ∀ i, Own m1 r1 es4 i → ¬ Own m2 r2 es3 i := fun i k k' => (hown4 i k).elim (fun k => hdis3 i k k') (fun k => by have := hM3'.own_lt k'; omega)
      have hown4' : ∀ i, Own m1 r1 es4 i → w.heap.size ≤ i := fun i k => (hown4 i k).elim (hown i) (fun k => by have := hbel3.size; omega)
      clear s1 s2 s3 hst3 hO4 hbx3
      have hst4' := hst4
      obtain ⟨s1, s2, s3⟩ := hst4'
      go_wp2_with fail
      refine (mtake_any hi lo now hM4' hI ht0 (by omega)).mono ?_
      rintro e w5 ⟨es5, turns5, c5, ok5, room5, rfl, hR5, hM5', hO5, hown5⟩
      have hM5 := hM4.off hO5 hdis4
      have hbel5 := below_off hbel4 hO5 (Nat.le_refl _) (fun i hi k => by have := hown3' i k; omega)
      have hdis5 : ∀ i, Own m1 r1 es4 i → ¬ Own m2 r2 es5 i := fun i k k' => (hown5 i k').elim (fun k' => hdis4 i k k') (fun k' => by have := hM4.own_lt k; omega)
      have hown5' : ∀ i, Own m2 r2 es5 i → w.heap.size ≤ i := fun i k => (hown5 i k).elim (hown3' i) (fun k => by have := hbel4.size; omega)
      obtain ⟨rfl, rfl, rfl, hA5⟩ := TakeR.same hA hM3.keys hM'.keys hM'.turnsN hR4 htok hR5
      have hturn : turns4 = turns ∨ turns4 = turns + 1 := by
        rcases hR4 with ⟨_, _, _, _, h, _⟩ | ⟨_, _, _, _, _, _, _, _, h, _⟩ | ⟨_, _, h, _⟩
        · exact .inr h
        · exact .inr h
        · exact .inl h
      have hfirst : k = 0 → ok4 = true ∧ room4 = true := fun k0 => by
        have := hF.out k0; subst this; exact hR4.first
      clear s1 s2 s3 hst4 hO5 hbx4 hR4 hR5 htok hown4 hown5 hown3
      have z1 : (ok4 != ok4) = false := by simp
      have z2 : (room4 != room4) = false := by simp
      have hlen5 := hA5.len
      have hrelN : SameRel w m1 r1 m2 r2 rate burst len (.int .i64 now) (.int .i64 ((k : Int) + 1)) w5 :=
        ⟨k + 1, now, turns4, es4, es5, c4, c5, by omega, by go_num, rfl, hN0, hN1, hM5, hM5', hA5, by omega, by omega, fun h => by omega, hbel5, hown4', hown5', hdis5⟩
      have hm : len - (intOf (.int .i64 ((k : Int) + 1))).toNat < len - (intOf (.int .i64 (k : Int))).toNat := by simp [intOf]; omega
      have HM := Lib.hid hm
      clear hm
      go_wp2_with fail
      refine (mlen_any hM5).mono ?_
      rintro e w6 ⟨rfl, rfl⟩
      go_wp2_with fail
      refine (mlen_any hM5').mono ?_
      rintro e w7 ⟨rfl, rfl⟩
      rw [← hlen5]
      clear hlen5
      generalize es4.length = L at *
      have z3 : ((L : Int) != (L : Int)) = false := by simp
      by_cases hk0 : k = 0
      · obtain ⟨rfl, rfl⟩ := hfirst hk0
        have z4 : ((k : Int) == 0) = true := by simp [hk0]
        clear hk0
        go_wp2
        exact ⟨hrelN, HM.out⟩
      · have z4 : ((k : Int) == 0) = false := by simp [hk0]
        go_wp2
        exact ⟨hrelN, HM.out⟩
    · go_wp2
      go_ret
      exact ⟨rfl, hbel⟩

theorem meterSame_walk (a0 a1 : Int) (a2 : Option Addr) (len2 cap2 : Nat) (F2 : Nat → List Int) (w : World) (_ : (Lit.int .i64 a0).wf = true) (_ : (Lit.int .i64 a1).wf = true) (w2 : Elems [.i64, .u64, .u64, .i64] w a2 len2 F2) (hl : len2 ≤ maxLen) :
    Calls Try.prog 10 #[.int .i64 a0, .int .i64 a1, .slice a2 len2 cap2] w fun e w' => e = .returned (.bool true) ∧ Below w.heap.size w w' :=
  same_walk a0 a1 a2 len2 cap2 F2 w w2 (by unfold maxLen at hl; omega)
end Go.Proofs.Ytepibimlmfhceaa
