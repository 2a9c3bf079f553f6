/- The walk over heap.down. Conditions: the row lies whole in memory; it is a heap but for the edges at i. -/
import Derived.Test.YtbkgjghbmafoeaaUpWalk
namespace Go.Proofs.Ytbkgjghbmafoeaa
open Go.RowKit

def DownRel (W : World) (wb r g cap N m i0 : Nat) (h0 h : Hp) (iv : Value) (wr : World) : Prop :=
  ∃ (i : Nat) (h' : Hp), iv = .int .i64 i ∧ i ≤ N ∧ HAt wr wb r g cap N h' ∧ Rea N m h0 h' ∧ (i = i0 ∧ h' = h ∧ HAny h' m i ∨ i0 < i ∧ HDown h' m i) ∧ Off (HOwn g N h0) W wr

def DownR (wb r g cap N m i0 : Nat) (h0 h : Hp) (w : World) (e : Ending) (w' : World) : Prop :=
  ∃ b h', e = .returned (.bool b) ∧ HAt w' wb r g cap N h' ∧ Rea N m h0 h' ∧ (b = true ∧ Heap h' m ∨ b = false ∧ HUp h' m i0) ∧ Off (HOwn g N h0) w w'

theorem DownR.mk {W w' : World} {wb r g cap N m i0 i : Nat} {h0 h h' : Hp} (H : HAt w' wb r g cap N h') (R : Rea N m h0 h') (U : i = i0 ∧ h' = h ∧ HAny h' m i ∨ i0 < i ∧ HDown h' m i) (hO : Off (HOwn g N h0) W w')
    (hs : ∀ k, 0 < k → k < m → (k - 1) / 2 = i → DE.le (h' i) (h' k)) : DownR wb r g cap N m i0 h0 h W (.returned (.bool (decide (i0 < i)))) w' := by
  rcases U with ⟨rfl, rfl, U⟩ | ⟨hi, U⟩
  · exact ⟨false, _, by simp, H, R, .inr ⟨rfl, U.stay hs⟩, hO⟩
  · exact ⟨true, _, by simp [hi], H, R, .inl ⟨rfl, U.stop hs⟩, hO⟩

theorem down_any' {i0 i m : Nat} {h h' : Hp} (U : i = i0 ∧ h' = h ∧ HAny h' m i ∨ i0 < i ∧ HDown h' m i) : HAny h' m i ∧ i0 ≤ i := by
  rcases U with ⟨rfl, rfl, U⟩ | ⟨hi, U⟩
  · exact ⟨U, Nat.le_refl _⟩
  · exact ⟨U.any, Nat.le_of_lt hi⟩

set_option maxRecDepth 100000 in
set_option maxHeartbeats 4000000 in
theorem down_any {w : World} {wb r g cap N m : Nat} {h0 h : Hp} (i0 : Nat) (H : HAt w wb r g cap N h) (R : Rea N m h0 h) (U : HAny h m i0) (hi0 : i0 ≤ N) (hm : m ≤ N) (hN : N ≤ 1000000) :
    Calls Try.prog 48 #[.iface 95 (.pointer (some ⟨wb, 0, none⟩)), .int .i64 i0, .int .i64 m] w (DownR wb r g cap N m i0 h0 h w) := by
  go_enter Try.func48, Try.ntmps48
  go_wp2_with fail
  go_loopw [7] (DownRel w wb r g cap N m i0 h0 h) (fun i _ => N - (intOf i).toNat)
  case atStart => exact ⟨i0, h, rfl, hi0, H, R, .inl ⟨rfl, rfl, U⟩, Off.refl _ _⟩
  case round =>
    clear H R U
    obtain ⟨i, h', rfl, hi, H, R, U, hO⟩ := hrel
    have c0 : wr.cell? ⟨wb, 0, none⟩ = some (.slice (some ⟨g, 0, none⟩) N cap) := H.top.cell 0
    have hm1 := meth_less wr ⟨wb, 0, none⟩ _ c0
    have a0 : (0 : Int) ≤ (i : Int) := by omega
    have a1 : (i : Int) ≤ 1000000 := by omega
    have a2 : (m : Int) ≤ 1000000 := by omega
    obtain ⟨p, hp⟩ : ∃ p, 2 * i + 1 = p := ⟨_, rfl⟩
    have hq : (2 : Int) * (i : Int) + 1 = (p : Int) := by omega
    have hp1 : ¬ (p : Int) < 0 := by omega
    obtain ⟨q, hq2⟩ : ∃ q, p + 1 = q := ⟨_, rfl⟩
    have hqq : (p : Int) + 1 = (q : Int) := by omega
    obtain ⟨UA, hi00⟩ := down_any' U
    by_cases hpm : p < m
    · have hpm' : ¬ (m : Int) ≤ (p : Int) := by omega
      by_cases hqm : q < m
      · have hqm' : (q : Int) < (m : Int) := by omega
        cases hb : DE.lt (h' q) (h' p) with
        | true =>
          have hmin : ∀ k, 0 < k → k < m → (k - 1) / 2 = i → DE.le (h' q) (h' k) := by
            intro k hk hkm hkp
            rcases child hk hkp with e | e
            · rw [show k = p by omega]; exact DE.le_of_lt hb
            · rw [show k = q by omega]; exact DE.le_refl _
          have hjp : (q - 1) / 2 = i := by omega
          have hb' := Lib.hid hb
          clear hb
          go_wp2_with fail
          refine (less_any H (i := q) (j := p) (by omega) (by omega)).mono ?_
          rintro e w2 ⟨rfl, hO2⟩
          rw [hb'.out]
          have H2 := H.still hO2
          have hO' := hO.step hO2 (fun _ _ k => k.elim)
          have c2 : w2.cell? ⟨wb, 0, none⟩ = some (.slice (some ⟨g, 0, none⟩) N cap) := H2.top.cell 0
          have hm2 := meth_less w2 ⟨wb, 0, none⟩ _ c2
          clear c0 hm1
          cases hl : DE.lt (h' q) (h' i) with
          | false =>
            have hs : ∀ k, 0 < k → k < m → (k - 1) / 2 = i → DE.le (h' i) (h' k) := fun k hk hkm hkp => DE.le_trans (DE.le_of_not hl) (hmin k hk hkm hkp)
            have hl' := Lib.hid hl
            clear hl
            go_wp2_with fail
            refine (less_any H2 (i := q) (j := i) (by omega) (by omega)).mono ?_
            rintro e w3 ⟨rfl, hO3⟩
            rw [hl'.out]
            go_wp2_with fail
            go_ret
            exact DownR.mk (H2.still hO3) R U (hO'.step hO3 (fun _ _ k => k.elim)) hs
          | true =>
            have hD := UA.step (by omega) (by omega) hjp hl hmin
            have hl' := Lib.hid hl
            clear hl
            go_wp2_with fail
            refine (less_any H2 (i := q) (j := i) (by omega) (by omega)).mono ?_
            rintro e w3 ⟨rfl, hO3⟩
            rw [hl'.out]
            have H3 := H2.still hO3
            have c3 : w3.cell? ⟨wb, 0, none⟩ = some (.slice (some ⟨g, 0, none⟩) N cap) := H3.top.cell 0
            have hm3 := meth_swap w3 ⟨wb, 0, none⟩ _ c3
            go_wp2_with fail
            refine (swap_any H3 (i := i) (j := q) (by omega) (by omega) R.o).mono ?_
            rintro e w4 ⟨rfl, H4, hO4⟩
            go_wp2
            exact ⟨⟨q, _, rfl, by omega, H4, R.sw (by omega) (by omega) hm, .inr ⟨by omega, hD⟩, (hO'.step hO3 (fun _ _ k => k.elim)).step hO4 (fun i _ k => (HOwn.rea R i).1 k)⟩, by simp [intOf]; omega⟩
        | false =>
          have hmin : ∀ k, 0 < k → k < m → (k - 1) / 2 = i → DE.le (h' p) (h' k) := by
            intro k hk hkm hkp
            rcases child hk hkp with e | e
            · rw [show k = p by omega]; exact DE.le_refl _
            · rw [show k = q by omega]; exact DE.le_of_not hb
          have hjp : (p - 1) / 2 = i := by omega
          have hb' := Lib.hid hb
          clear hb
          go_wp2_with fail
          refine (less_any H (i := q) (j := p) (by omega) (by omega)).mono ?_
          rintro e w2 ⟨rfl, hO2⟩
          rw [hb'.out]
          have H2 := H.still hO2
          have hO' := hO.step hO2 (fun _ _ k => k.elim)
          have c2 : w2.cell? ⟨wb, 0, none⟩ = some (.slice (some ⟨g, 0, none⟩) N cap) := H2.top.cell 0
          have hm2 := meth_less w2 ⟨wb, 0, none⟩ _ c2
          clear c0 hm1
          cases hl : DE.lt (h' p) (h' i) with
          | false =>
            have hs : ∀ k, 0 < k → k < m → (k - 1) / 2 = i → DE.le (h' i) (h' k) := fun k hk hkm hkp => DE.le_trans (DE.le_of_not hl) (hmin k hk hkm hkp)
            have hl' := Lib.hid hl
            clear hl
            go_wp2_with fail
            refine (less_any H2 (i := p) (j := i) (by omega) (by omega)).mono ?_
            rintro e w3 ⟨rfl, hO3⟩
            rw [hl'.out]
            go_wp2_with fail
            go_ret
            exact DownR.mk (H2.still hO3) R U (hO'.step hO3 (fun _ _ k => k.elim)) hs
          | true =>
            have hD := UA.step (by omega) (by omega) hjp hl hmin
            have hl' := Lib.hid hl
            clear hl
            go_wp2_with fail
            refine (less_any H2 (i := p) (j := i) (by omega) (by omega)).mono ?_
            rintro e w3 ⟨rfl, hO3⟩
            rw [hl'.out]
            have H3 := H2.still hO3
            have c3 : w3.cell? ⟨wb, 0, none⟩ = some (.slice (some ⟨g, 0, none⟩) N cap) := H3.top.cell 0
            have hm3 := meth_swap w3 ⟨wb, 0, none⟩ _ c3
            go_wp2_with fail
            refine (swap_any H3 (i := i) (j := p) (by omega) (by omega) R.o).mono ?_
            rintro e w4 ⟨rfl, H4, hO4⟩
            go_wp2
            exact ⟨⟨p, _, rfl, by omega, H4, R.sw (by omega) (by omega) hm, .inr ⟨by omega, hD⟩, (hO'.step hO3 (fun _ _ k => k.elim)).step hO4 (fun i _ k => (HOwn.rea R i).1 k)⟩, by simp [intOf]; omega⟩
      · have hqm' : ¬ (q : Int) < (m : Int) := by omega
        have hmin : ∀ k, 0 < k → k < m → (k - 1) / 2 = i → DE.le (h' p) (h' k) := by
          intro k hk hkm hkp
          rcases child hk hkp with e | e
          · rw [show k = p by omega]; exact DE.le_refl _
          · omega
        have hjp : (p - 1) / 2 = i := by omega
        cases hl : DE.lt (h' p) (h' i) with
        | false =>
          have hs : ∀ k, 0 < k → k < m → (k - 1) / 2 = i → DE.le (h' i) (h' k) := fun k hk hkm hkp => DE.le_trans (DE.le_of_not hl) (hmin k hk hkm hkp)
          have hl' := Lib.hid hl
          clear hl
          go_wp2_with fail
          refine (less_any H (i := p) (j := i) (by omega) (by omega)).mono ?_
          rintro e w3 ⟨rfl, hO3⟩
          rw [hl'.out]
          go_wp2_with fail
          go_ret
          exact DownR.mk (H.still hO3) R U (hO.step hO3 (fun _ _ k => k.elim)) hs
        | true =>
          have hD := UA.step (by omega) (by omega) hjp hl hmin
          have hl' := Lib.hid hl
          clear hl
          go_wp2_with fail
          refine (less_any H (i := p) (j := i) (by omega) (by omega)).mono ?_
          rintro e w3 ⟨rfl, hO3⟩
          rw [hl'.out]
          have H3 := H.still hO3
          have c3 : w3.cell? ⟨wb, 0, none⟩ = some (.slice (some ⟨g, 0, none⟩) N cap) := H3.top.cell 0
          have hm3 := meth_swap w3 ⟨wb, 0, none⟩ _ c3
          go_wp2_with fail
          refine (swap_any H3 (i := i) (j := p) (by omega) (by omega) R.o).mono ?_
          rintro e w4 ⟨rfl, H4, hO4⟩
          go_wp2
          exact ⟨⟨p, _, rfl, by omega, H4, R.sw (by omega) (by omega) hm, .inr ⟨by omega, hD⟩, (hO.step hO3 (fun _ _ k => k.elim)).step hO4 (fun i _ k => (HOwn.rea R i).1 k)⟩, by simp [intOf]; omega⟩
    · have hpm' : (m : Int) ≤ (p : Int) := by omega
      have hs : ∀ k, 0 < k → k < m → (k - 1) / 2 = i → DE.le (h' i) (h' k) := by
        intro k hk hkm hkp
        rcases child hk hkp with e | e <;> omega
      go_wp2_with fail
      go_ret
      exact DownR.mk H R U hO hs
end Go.Proofs.Ytbkgjghbmafoeaa
