/- The walks over sameInts of both law packages. Conditions: both slices' cells are known. -/
import Derived.Test.YtbkgjghbmafoeaaRfDue
namespace Go.Proofs.Ytbkgjghbmafoeaa
open Go.RowKit

/-- A slice of ints that can be read. -/
def IRow (w : World) (v : Value) (xs : List Int) : Prop :=
  ∃ a cap, v = .slice a xs.length cap ∧ xs.length ≤ maxLen ∧ ∀ i x, xs[i]? = some x → ∃ b off, a = some ⟨b, off, none⟩ ∧ b < w.heap.size ∧ w.cell? ⟨b, off + i, none⟩ = some (.int .i64 x)

theorem IRow.of_own {w : World} {base : Nat} {v : Value} {xs : List Int} (h : w.ownsRow base 3 1 v xs.length (xs.map ik)) : IRow w v xs := by
  obtain ⟨hl, ⟨rfl, h0⟩ | ⟨g, cap, cur, rfl, _, hg, hc, hm, hs, ht⟩⟩ := h
  · refine ⟨none, 0, by rw [h0], by omega, fun i x hx => ?_⟩
    have : xs = [] := List.eq_nil_of_length_eq_zero h0
    subst this; simp at hx
  · refine ⟨some ⟨g, 0, none⟩, cap, rfl, by omega, fun i x hx => ⟨g, 0, rfl, ?_, ?_⟩⟩
    · have hb : Blk w g 3 cur := hg
      exact hb.lt
    · have hb : Blk w g 3 cur := hg
      rw [Nat.zero_add, hb.cell]
      have h2 : (xs.map ik)[i]? = some (ik x) := by rw [List.getElem?_map, hx]; rfl
      rw [← ht, List.getElem?_take] at h2
      split at h2
      · simpa using h2
      · cases h2

theorem IRow.off {w w' : World} {v : Value} {xs : List Int} {S : Nat → Prop} (h : IRow w v xs) (k : Off S w w') (hn : ∀ b off n c, v = .slice (some ⟨b, off, none⟩) n c → ¬ S b) : IRow w' v xs := by
  obtain ⟨a, cap, rfl, hm, hc⟩ := h
  refine ⟨a, cap, rfl, hm, fun i x hx => ?_⟩
  obtain ⟨b, off, rfl, hl, hcell⟩ := hc i x hx
  exact ⟨b, off, rfl, Nat.lt_of_lt_of_le hl k.size, by rw [k.cell (p := ⟨b, off + i, none⟩) hl (hn _ _ _ _ rfl)]; exact hcell⟩

def SameI (xs ys : List Int) (w : World) (e : Ending) (w' : World) : Prop := e = .returned (.bool (decide (xs = ys))) ∧ Off (fun _ => False) w w'

def SameRel (W : World) (xs ys : List Int) (i : Value) (wr : World) : Prop :=
  ∃ k : Nat, k ≤ xs.length ∧ i = .int .i64 k ∧ Off (fun _ => False) W wr ∧ ∀ j, j < k → xs[j]? = ys[j]?

set_option maxRecDepth 100000 in
set_option maxHeartbeats 2000000 in
theorem same31_any {w : World} {v1 v2 : Value} {xs ys : List Int} (H1 : IRow w v1 xs) (H2 : IRow w v2 ys) : Calls Try.prog 31 #[v1, v2] w (SameI xs ys w) := by
  obtain ⟨a1, c1, rfl, m1, h1⟩ := H1
  obtain ⟨a2, c2, rfl, m2, h2⟩ := H2
  unfold maxLen at m1 m2
  by_cases hl : xs.length = ys.length
  · have HL := Lib.hid hl
    rw [hl] at m1 ⊢
    clear hl
    have hm0 : (ys.length : Int) ≤ 9223372036854775807 := by omega
    go_enter Try.func31, Try.ntmps31
    go_wp2_with fail
    go_loopw [5] (SameRel w xs ys) (fun i _ => ys.length - (intOf i).toNat)
    case atStart => exact ⟨0, Nat.zero_le _, rfl, Off.refl _ _, fun j hj => absurd hj (Nat.not_lt_zero _)⟩
    case round =>
      obtain ⟨k, hk, rfl, hO, hs⟩ := hrel
      have hk0 : (0 : Int) ≤ (k : Int) := by omega
      have hkl : k ≤ ys.length := by have := HL.out; omega
      by_cases hlt : k < ys.length
      · have hltI : (k : Int) < (ys.length : Int) := by omega
        obtain ⟨x, hx⟩ : ∃ x, xs[k]? = some x := ⟨xs[k]'(by have := HL.out; omega), List.getElem?_eq_getElem _⟩
        obtain ⟨y, hy⟩ : ∃ y, ys[k]? = some y := ⟨ys[k], List.getElem?_eq_getElem hlt⟩
        obtain ⟨b, off, rfl, hbl, d0⟩ := h1 k x hx
        obtain ⟨b', off', rfl, hbl', e0⟩ := h2 k y hy
        have d := (hO.cell (p := ⟨b, off + k, none⟩) hbl id).trans d0
        have e := (hO.cell (p := ⟨b', off' + k, none⟩) hbl' id).trans e0
        have HX := Lib.hid hx
        have HY := Lib.hid hy
        clear hx hy d0 e0 h1 h2
        by_cases hxy : x = y
        · subst hxy
          go_wp2_with fail
          go_quiet (fail)
          go_wp2_with fail
          refine ⟨⟨k + 1, by have := HL.out; omega, by go_num, hO.drewN _, fun j hj => ?_⟩, by simp [intOf]; omega⟩
          by_cases hjk : j = k
          · subst hjk; rw [HX.out, HY.out]
          · exact hs j (by omega)
        · have hfin : SameI xs ys w (.returned (.bool false)) (wr.drewN 0) → True := fun _ => trivial
          have hne : decide (xs = ys) = false := by
            simp only [decide_eq_false_iff_not]
            intro he
            have := HX.out
            rw [he, HY.out] at this
            exact hxy (Option.some.inj this).symm
          have hend : ∀ n, SameI xs ys w (.returned (.bool false)) (wr.drewN n) := fun n => ⟨by rw [hne], hO.drewN n⟩
          have hxb : (x == y) = false := by simpa using hxy
          have HE := Lib.hid hend
          clear hend hne hfin
          go_wp2_with fail
          go_quiet (fail)
          go_wp2_with fail
          go_ret
          exact HE.out _
      · have hnl : ¬ (k : Int) < (ys.length : Int) := by omega
        have heq : decide (xs = ys) = true := by
          simp only [decide_eq_true_eq]
          refine List.ext_getElem? fun j => ?_
          by_cases hj : j < k
          · exact hs j hj
          · rw [List.getElem?_eq_none (by have := HL.out; omega), List.getElem?_eq_none (by omega)]
        have hend : SameI xs ys w (.returned (.bool true)) wr := ⟨by rw [heq], hO⟩
        have HE := Lib.hid hend
        clear hend heq
        go_wp2_with fail
        go_ret
        exact HE.out
  · have hne : decide (xs = ys) = false := by
      simp only [decide_eq_false_iff_not]
      intro he
      exact hl (by rw [he])
    have hend : SameI xs ys w (.returned (.bool false)) w := ⟨by rw [hne], Off.refl _ _⟩
    have hlI : ((xs.length : Int) == (ys.length : Int)) = false := by simp; omega
    have HE := Lib.hid hend
    clear hend hne
    go_enter Try.func31, Try.ntmps31
    go_wp2_with fail
    go_ret
    exact HE.out

set_option maxRecDepth 100000 in
set_option maxHeartbeats 2000000 in
theorem same16_any {w : World} {v1 v2 : Value} {xs ys : List Int} (H1 : IRow w v1 xs) (H2 : IRow w v2 ys) : Calls Try.prog 16 #[v1, v2] w (SameI xs ys w) := by
  obtain ⟨a1, c1, rfl, m1, h1⟩ := H1
  obtain ⟨a2, c2, rfl, m2, h2⟩ := H2
  unfold maxLen at m1 m2
  by_cases hl : xs.length = ys.length
  · have HL := Lib.hid hl
    rw [hl] at m1 ⊢
    clear hl
    have hm0 : (ys.length : Int) ≤ 9223372036854775807 := by omega
    go_enter Try.func16, Try.ntmps16
    go_wp2_with fail
    go_loopw [5] (SameRel w xs ys) (fun i _ => ys.length - (intOf i).toNat)
    case atStart => exact ⟨0, Nat.zero_le _, rfl, Off.refl _ _, fun j hj => absurd hj (Nat.not_lt_zero _)⟩
    case round =>
      obtain ⟨k, hk, rfl, hO, hs⟩ := hrel
      have hk0 : (0 : Int) ≤ (k : Int) := by omega
      have hkl : k ≤ ys.length := by have := HL.out; omega
      by_cases hlt : k < ys.length
      · have hltI : (k : Int) < (ys.length : Int) := by omega
        obtain ⟨x, hx⟩ : ∃ x, xs[k]? = some x := ⟨xs[k]'(by have := HL.out; omega), List.getElem?_eq_getElem _⟩
        obtain ⟨y, hy⟩ : ∃ y, ys[k]? = some y := ⟨ys[k], List.getElem?_eq_getElem hlt⟩
        obtain ⟨b, off, rfl, hbl, d0⟩ := h1 k x hx
        obtain ⟨b', off', rfl, hbl', e0⟩ := h2 k y hy
        have d := (hO.cell (p := ⟨b, off + k, none⟩) hbl id).trans d0
        have e := (hO.cell (p := ⟨b', off' + k, none⟩) hbl' id).trans e0
        have HX := Lib.hid hx
        have HY := Lib.hid hy
        clear hx hy d0 e0 h1 h2
        by_cases hxy : x = y
        · subst hxy
          go_wp2_with fail
          go_quiet (fail)
          go_wp2_with fail
          refine ⟨⟨k + 1, by have := HL.out; omega, by go_num, hO.drewN _, fun j hj => ?_⟩, by simp [intOf]; omega⟩
          by_cases hjk : j = k
          · subst hjk; rw [HX.out, HY.out]
          · exact hs j (by omega)
        · have hfin : SameI xs ys w (.returned (.bool false)) (wr.drewN 0) → True := fun _ => trivial
          have hne : decide (xs = ys) = false := by
            simp only [decide_eq_false_iff_not]
            intro he
            have := HX.out
            rw [he, HY.out] at this
            exact hxy (Option.some.inj this).symm
          have hend : ∀ n, SameI xs ys w (.returned (.bool false)) (wr.drewN n) := fun n => ⟨by rw [hne], hO.drewN n⟩
          have hxb : (x == y) = false := by simpa using hxy
          have HE := Lib.hid hend
          clear hend hne hfin
          go_wp2_with fail
          go_quiet (fail)
          go_wp2_with fail
          go_ret
          exact HE.out _
      · have hnl : ¬ (k : Int) < (ys.length : Int) := by omega
        have heq : decide (xs = ys) = true := by
          simp only [decide_eq_true_eq]
          refine List.ext_getElem? fun j => ?_
          by_cases hj : j < k
          · exact hs j hj
          · rw [List.getElem?_eq_none (by have := HL.out; omega), List.getElem?_eq_none (by omega)]
        have hend : SameI xs ys w (.returned (.bool true)) wr := ⟨by rw [heq], hO⟩
        have HE := Lib.hid hend
        clear hend heq
        go_wp2_with fail
        go_ret
        exact HE.out
  · have hne : decide (xs = ys) = false := by
      simp only [decide_eq_false_iff_not]
      intro he
      exact hl (by rw [he])
    have hend : SameI xs ys w (.returned (.bool false)) w := ⟨by rw [hne], Off.refl _ _⟩
    have hlI : ((xs.length : Int) == (ys.length : Int)) = false := by simp; omega
    have HE := Lib.hid hend
    clear hend hne
    go_enter Try.func16, Try.ntmps16
    go_wp2_with fail
    go_ret
    exact HE.out

end Go.Proofs.Ytbkgjghbmafoeaa
