/- The walk over row.Swap. Conditions: the row lies whole in memory. -/
import Derived.Test.YtbkgjghbmafoeaaHeapAt
namespace Go.Proofs.Ytbkgjghbmafoeaa
open Go.RowKit

def SwapR (wb r g cap n : Nat) (h : Hp) (i j : Nat) (w : World) (e : Ending) (w' : World) : Prop :=
  e = .returned (.tuple #[]) ∧ HAt w' wb r g cap n (sw i j h) ∧ Off (HOwn g n h) w w'

theorem SwapR.mk0 {w w1 w2 : World} {wb r g cap n : Nat} {h : Hp} {i j : Nat} (H : HAt w wb r g cap n h) (hi : i < n) (hj : j < n) (hio : ∀ a b, a < n → b < n → (h a).o = (h b).o → a = b)
    (h1 : w1 = (w.setCell ⟨g, i, none⟩ (.pointer (some ⟨(h j).o, 0, none⟩))).setCell ⟨g, j, none⟩ (.pointer (some ⟨(h i).o, 0, none⟩)))
    (h2 : w2 = (w1.setCell ⟨(h j).o, 2, none⟩ (.int .i64 i)).setCell ⟨(h i).o, 2, none⟩ (.int .i64 j)) : HAt w2 wb r g cap n (sw i j h) ∧ Off (HOwn g n h) w w2 := by
  have hO1 : Off (fun k => k = g) w w1 := by rw [h1]; exact ((Off.refl (fun k => k = g) w).setAt i _).setAt j _
  have hO2 : Off (fun k => k = (h j).o ∨ k = (h i).o) w1 w2 := by rw [h2]; exact ((Off.refl (fun k => k = (h j).o ∨ k = (h i).o) w1).setCell (p := ⟨(h j).o, 2, none⟩) _ fun _ => .inl rfl).setCell (p := ⟨(h i).o, 2, none⟩) _ fun _ => .inr rfl
  have hO : Off (HOwn g n h) w w2 := (hO1.mono (S' := HOwn g n h) fun _ _ e => .inl e).step hO2 fun k _ e => by
    rcases e with e | e
    · exact .inr ⟨j, hj, e⟩
    · exact .inr ⟨i, hi, e⟩
  obtain ⟨cur, hb, hs, hc, hm, hcur⟩ := H.row
  have hng : ∀ k, k < n → (h k).o ≠ g := fun k hk => blk_ne (H.one k hk) hb (by decide)
  have hwg : wb ≠ g := blk_ne H.top hb (by decide)
  have hwo : ∀ k, k < n → wb ≠ (h k).o := fun k hk => blk_ne H.top (H.one k hk) (by decide)
  refine ⟨⟨?_, ?_, ?_⟩, hO⟩
  · refine hO.blk H.top ?_
    rintro (e | ⟨k, hk, e⟩)
    · exact hwg e
    · exact hwo k hk e
  · refine ⟨(cur.setIfInBounds i (.pointer (some ⟨(h j).o, 0, none⟩))).setIfInBounds j (.pointer (some ⟨(h i).o, 0, none⟩)), ?_, by simpa using hs, hc, hm, fun k hk => ?_⟩
    · refine hO2.blk ?_ ?_
      · rw [h1]; exact (hb.setCell i _).setCell j _
      · rintro (e | e)
        · exact hng j hj e.symm
        · exact hng i hi e.symm
    · rw [Array.getElem?_setIfInBounds, Array.getElem?_setIfInBounds]
      by_cases hkj : j = k
      · subst hkj; rw [if_pos rfl, if_pos (by simp; omega), sw_r]
      · rw [if_neg hkj]
        by_cases hki : i = k
        · subst hki; rw [if_pos rfl, if_pos (by omega), sw_l]
        · rw [if_neg hki, sw_n h (fun e => hki e.symm) (fun e => hkj e.symm)]; exact hcur k hk
  · intro k hk
    have hone1 : ∀ k, k < n → Blk w1 (h k).o 93 #[.int .i64 (h k).id, .int .i64 (h k).at_, .int .i64 k] := fun k hk => hO1.blk (H.one k hk) (fun e => hng k hk e)
    by_cases hij : i = j
    · subst hij
      rw [sw_self]
      by_cases hki : k = i
      · subst hki
        rw [h2]; exact ((hone1 k hk).setCell 2 _).setCell 2 _
      · exact hO2.blk (hone1 k hk) (fun e => hki (hio k i hk hi (by rcases e with e | e <;> exact e)))
    · by_cases hkj : k = j
      · subst hkj
        rw [sw_r, h2]
        exact ((hone1 i hi).setOther (fun e => hij (hio _ _ hi hk e.symm)) _).setCell 2 _
      · by_cases hki : k = i
        · subst hki
          rw [sw_l, h2]
          exact ((hone1 j hj).setCell 2 _).setOther (fun e => hij (hio _ _ hk hj e)) _
        · rw [sw_n h hki hkj]
          exact hO2.blk (hone1 k hk) (fun e => by
            rcases e with e | e
            · exact hkj (hio _ _ hk hj e)
            · exact hki (hio _ _ hk hi e))

theorem SwapR.mk {w w3 : World} {wb r g cap n : Nat} {h : Hp} {i j : Nat} (H : HAt w wb r g cap n h) (hi : i < n) (hj : j < n) (hio : ∀ a b, a < n → b < n → (h a).o = (h b).o → a = b)
    (h3 : w3 = ((((w.setCell ⟨g, i, none⟩ (.pointer (some ⟨(h j).o, 0, none⟩))).setCell ⟨g, j, none⟩ (.pointer (some ⟨(h i).o, 0, none⟩))).setCell ⟨(h j).o, 2, none⟩ (.int .i64 i)).setCell ⟨(h i).o, 2, none⟩ (.int .i64 j)).drew.drew) :
    SwapR wb r g cap n h i j w (.returned (.tuple #[])) w3 := by
  obtain ⟨a, b⟩ := mk0 H hi hj hio rfl rfl
  rw [h3]
  exact ⟨rfl, a.still (Off.refl _ _).drew.drew, b.drew.drew⟩

set_option maxHeartbeats 2000000 in
theorem swap_any {w : World} {wb r g cap n : Nat} {h : Hp} (H : HAt w wb r g cap n h) {i j : Nat} (hi : i < n) (hj : j < n) (hio : ∀ a b, a < n → b < n → (h a).o = (h b).o → a = b) :
    Calls Try.prog 68 #[.slice (some ⟨g, 0, none⟩) n cap, .int .i64 i, .int .i64 j] w (SwapR wb r g cap n h i j w) := by
  have ci := H.cellAt hi
  have cj := H.cellAt hj
  have fi := H.freeAt i
  have fj := H.freeAt j
  have a1 : (0 : Int) ≤ (i : Int) := by omega
  have a2 : (i : Int) < (n : Int) := by omega
  have a3 : (0 : Int) ≤ (j : Int) := by omega
  have a4 : (j : Int) < (n : Int) := by omega
  have hgi : (h i).o ≠ g := by obtain ⟨cur, hb, _⟩ := H.row; exact blk_ne (H.one i hi) hb (by decide)
  have hgj : (h j).o ≠ g := by obtain ⟨cur, hb, _⟩ := H.row; exact blk_ne (H.one j hj) hb (by decide)
  have i2 : w.cell? ⟨(h i).o, 2, none⟩ = some (.int .i64 i) := (H.one i hi).cell 2
  have j2 : w.cell? ⟨(h j).o, 2, none⟩ = some (.int .i64 j) := (H.one j hj).cell 2
  have k2 : w.frozen? ⟨(h i).o, 2, none⟩ = false := (H.one i hi).free 2
  have l2 : w.frozen? ⟨(h j).o, 2, none⟩ = false := (H.one j hj).free 2
  have hmk := fun w3 => @SwapR.mk w w3 _ _ _ _ _ _ i j H hi hj hio
  by_cases hij : i = j
  · subst hij
    clear hio H
    go_enter Try.func68, Try.ntmps68
    go_wp2_with fail
    go_region
    go_wp2_with fail
    go_region
    go_end0
    exact hmk _ rfl
  · have hji : j ≠ i := fun e => hij e.symm
    have ho : (h i).o ≠ (h j).o := fun e => hij (hio _ _ hi hj e)
    have ho' : (h j).o ≠ (h i).o := fun e => hij (hio _ _ hi hj e.symm)
    clear hio H
    go_enter Try.func68, Try.ntmps68
    go_wp2_with fail
    go_region
    go_wp2_with fail
    go_region
    go_end0
    exact hmk _ rfl
end Go.Proofs.Ytbkgjghbmafoeaa
