/- A wheel's row in memory, and the walks over its methods. Conditions: the row lies whole in memory. -/
import Derived.Test.YtbkgjghbmafoeaaMPure
import Derived.Test.YtbkgjghbmafoeaaMeth
import Derived.Deep.RegionHeld3
import Derived.Maps.AppendAt
namespace Go.Proofs.Ytbkgjghbmafoeaa
open Go.RowKit

theorem blk_ne {w : World} {b b' : Nat} {T T' : TypeId} {cs cs' : Array Value} (h : Blk w b T cs) (h' : Blk w b' T' cs') (hT : T ≠ T') : b ≠ b' := by
  intro e; subst e; unfold Blk at h h'; rw [h] at h'; simp only [Option.some.injEq, Obj.cells.injEq] at h'; exact hT h'.2.1

/-- The row: n deadlines in the block g, each knows its place; the wheel's block holds the row and the map r. -/
structure HAt (w : World) (wb r g cap n : Nat) (h : Hp) : Prop where
  top : Blk w wb 89 #[.slice (some ⟨g, 0, none⟩) n cap, .map (some r)]
  row : ∃ cur : Array Value, Blk w g 90 cur ∧ cur.size = cap ∧ n ≤ cap ∧ cap ≤ maxLen ∧ ∀ i, i < n → cur[i]? = some (.pointer (some ⟨(h i).o, 0, none⟩))
  one : ∀ i, i < n → Blk w (h i).o 93 #[.int .i64 (h i).id, .int .i64 (h i).at_, .int .i64 i]

/-- The blocks that sifting writes. -/
def HOwn (g n : Nat) (h : Hp) (i : Nat) : Prop := i = g ∨ ∃ k, k < n ∧ i = (h k).o

theorem HOwn.rea {g n m : Nat} {h0 h : Hp} (R : Rea n m h0 h) (i : Nat) : HOwn g n h i ↔ HOwn g n h0 i := by
  unfold HOwn
  constructor
  · rintro (e | ⟨k, hk, e⟩)
    · exact .inl e
    · obtain ⟨l, hl, he⟩ := (R.mem (h k)).1 ⟨k, hk, rfl⟩
      exact .inr ⟨l, hl, by rw [he]; exact e⟩
  · rintro (e | ⟨k, hk, e⟩)
    · exact .inl e
    · obtain ⟨l, hl, he⟩ := (R.mem (h0 k)).2 ⟨k, hk, rfl⟩
      exact .inr ⟨l, hl, by rw [he]; exact e⟩

namespace HAt
variable {w w' : World} {wb r g cap n : Nat} {h : Hp}

theorem off {S : Nat → Prop} (H : HAt w wb r g cap n h) (k : Off S w w') (hw : ¬ S wb) (hn : ∀ i, HOwn g n h i → ¬ S i) : HAt w' wb r g cap n h where
  top := k.blk H.top hw
  row := by obtain ⟨cur, hb, hr⟩ := H.row; exact ⟨cur, k.blk hb (hn _ (.inl rfl)), hr⟩
  one := fun i hi => k.blk (H.one i hi) (hn _ (.inr ⟨i, hi, rfl⟩))

theorem still (H : HAt w wb r g cap n h) (k : Off (fun _ => False) w w') : HAt w' wb r g cap n h := H.off k id (fun _ _ => id)

theorem cellAt (H : HAt w wb r g cap n h) {i : Nat} (hi : i < n) : w.cell? ⟨g, i, none⟩ = some (.pointer (some ⟨(h i).o, 0, none⟩)) := by
  obtain ⟨cur, hb, _, _, _, hc⟩ := H.row
  rw [hb.cell]; exact hc i hi

theorem freeAt (H : HAt w wb r g cap n h) (i : Nat) : w.frozen? ⟨g, i, none⟩ = false := by
  obtain ⟨cur, hb, _⟩ := H.row
  exact hb.free i
end HAt

theorem hlen_any (w : World) (a : Option Addr) (n cap : Nat) (hn : n ≤ 1000000) : Calls Try.prog 66 #[.slice a n cap] w fun e w' => e = .returned (.int .i64 n) ∧ w' = w := by
  go_enter Try.func66, Try.ntmps66
  go_wp2
  go_ret
  exact ⟨rfl, rfl⟩

set_option maxHeartbeats 2000000 in
theorem less_any {w : World} {wb r g cap n : Nat} {h : Hp} (H : HAt w wb r g cap n h) {i j : Nat} (hi : i < n) (hj : j < n) :
    Calls Try.prog 67 #[.slice (some ⟨g, 0, none⟩) n cap, .int .i64 i, .int .i64 j] w fun e w' => e = .returned (.bool (DE.lt (h i) (h j))) ∧ Off (fun _ => False) w w' := by
  have ci := H.cellAt hi
  have cj := H.cellAt hj
  have i1 : w.cell? ⟨(h i).o, 1, none⟩ = some (.int .i64 (h i).at_) := (H.one i hi).cell 1
  have j1 : w.cell? ⟨(h j).o, 1, none⟩ = some (.int .i64 (h j).at_) := (H.one j hj).cell 1
  have i0 : w.cell? ⟨(h i).o, 0, none⟩ = some (.int .i64 (h i).id) := (H.one i hi).cell 0
  have j0 : w.cell? ⟨(h j).o, 0, none⟩ = some (.int .i64 (h j).id) := (H.one j hj).cell 0
  have a1 : (0 : Int) ≤ (i : Int) := by omega
  have a2 : (i : Int) < (n : Int) := by omega
  have a3 : (0 : Int) ≤ (j : Int) := by omega
  have a4 : (j : Int) < (n : Int) := by omega
  obtain ⟨b, hb⟩ : ∃ b, DE.lt (h i) (h j) = b := ⟨_, rfl⟩
  rw [hb]
  unfold DE.lt at hb
  generalize (h i).at_ = x at *
  generalize (h j).at_ = y at *
  generalize (h i).id = u at *
  generalize (h j).id = v at *
  generalize (h i).o = o1 at *
  generalize (h j).o = o2 at *
  clear H
  by_cases hxy : x < y
  · have d1 : decide (x < y) = true := by simpa using hxy
    rw [d1, Bool.true_or] at hb
    subst hb
    go_enter Try.func67, Try.ntmps67
    go_wp2_with fail
    go_quiet (fail)
    go_wp2
    go_ret
    exact ⟨rfl, (Off.refl _ _).drewN _⟩
  · have d1 : decide (x < y) = false := by simpa using hxy
    by_cases hxe : x = y
    · have d2 : (x == y) = true := by simpa using hxe
      rw [d1, d2, Bool.false_or, Bool.true_and] at hb
      subst hb
      go_enter Try.func67, Try.ntmps67
      go_wp2_with fail
      go_quiet (fail)
      go_wp2
      go_ret
      exact ⟨rfl, (Off.refl _ _).drewN _⟩
    · have d2 : (x == y) = false := by simpa using hxe
      rw [d1, d2, Bool.false_or, Bool.false_and] at hb
      subst hb
      go_enter Try.func67, Try.ntmps67
      go_wp2_with fail
      go_quiet (fail)
      go_wp2
      go_ret
      exact ⟨rfl, (Off.refl _ _).drewN _⟩
end Go.Proofs.Ytbkgjghbmafoeaa
