/- The walks over row.Pop, heap.Fix, heap.Pop, heap.Remove. Conditions: the row lies whole in memory; it is a heap. -/
import Derived.Test.YtbkgjghbmafoeaaDownWalk
namespace Go.Proofs.Ytbkgjghbmafoeaa
open Go.RowKit

/-- A row of one less. -/
theorem HAt.less {w w' : World} {wb r g cap N n : Nat} {h : Hp} (H : HAt w wb r g cap N h) (hn : n ≤ N) (hw : w' = w.setCell ⟨wb, 0, none⟩ (.slice (some ⟨g, 0, none⟩) n cap)) : HAt w' wb r g cap n h ∧ Off (· = wb) w w' := by
  have hO : Off (· = wb) w w' := by rw [hw]; exact (Off.refl _ _).setAt 0 _
  obtain ⟨cur, hb, hs, hc, hm, hcur⟩ := H.row
  refine ⟨⟨?_, ⟨cur, hO.blk hb (blk_ne hb H.top (by decide)), hs, by omega, hm, fun i hi => hcur i (by omega)⟩, fun i hi => hO.blk (H.one i (by omega)) (blk_ne (H.one i (by omega)) H.top (by decide))⟩, hO⟩
  rw [hw]; exact H.top.setCell 0 _

def RPop (wb r g cap n : Nat) (h : Hp) (w : World) (e : Ending) (w' : World) : Prop :=
  e = .returned (.iface 90 (.pointer (some ⟨(h n).o, 0, none⟩))) ∧ HAt w' wb r g cap n h ∧ Off (· = wb) w w'

set_option maxHeartbeats 1000000 in
theorem rpop_any {w : World} {wb r g cap N n : Nat} {h : Hp} (H : HAt w wb r g cap N h) (hn : n + 1 = N) (hN : N ≤ 1000000) :
    Calls Try.prog 69 #[.pointer (some ⟨wb, 0, none⟩)] w (RPop wb r g cap n h w) := by
  have c0 : w.cell? ⟨wb, 0, none⟩ = some (.slice (some ⟨g, 0, none⟩) N cap) := H.top.cell 0
  have f0 : w.frozen? ⟨wb, 0, none⟩ = false := H.top.free 0
  have cn := H.cellAt (i := n) (by omega)
  have hI : (N : Int) - 1 = (n : Int) := by omega
  have a0 : (0 : Int) ≤ (n : Int) := by omega
  have a1 : (n : Int) < (N : Int) := by omega
  have hcap : n ≤ cap := by obtain ⟨_, _, _, hc, _⟩ := H.row; omega
  have a2 : (n : Int) ≤ (cap : Int) := by omega
  have hmk := fun w' => @HAt.less w w' _ _ _ _ _ n _ H (by omega)
  clear H
  go_enter Try.func69, Try.ntmps69
  go_wp2_with fail
  go_ret
  exact ⟨rfl, hmk _ rfl⟩

def FixR (wb r g cap n : Nat) (h0 : Hp) (w : World) (e : Ending) (w' : World) : Prop :=
  e = .returned (.tuple #[]) ∧ ∃ h, HAt w' wb r g cap n h ∧ Rea n n h0 h ∧ Heap h n ∧ Off (HOwn g n h0) w w'

set_option maxRecDepth 100000 in
set_option maxHeartbeats 1000000 in
theorem fix_any {w : World} {wb r g cap n : Nat} {h : Hp} (i : Nat) (H : HAt w wb r g cap n h) (R : Rea n n h h) (U : HAny h n i) (hi : i < n) (hN : n ≤ 1000000) :
    Calls Try.prog 42 #[.iface 95 (.pointer (some ⟨wb, 0, none⟩)), .int .i64 i] w (FixR wb r g cap n h w) := by
  have c0 : w.cell? ⟨wb, 0, none⟩ = some (.slice (some ⟨g, 0, none⟩) n cap) := H.top.cell 0
  have hm1 := meth_len w ⟨wb, 0, none⟩ _ c0
  go_enter Try.func42, Try.ntmps42
  go_wp2_with fail
  refine (hlen_any w _ n cap hN).mono ?_
  rintro e w1 ⟨rfl, rfl⟩
  go_wp2_with fail
  refine (down_any i H R U (by omega) (Nat.le_refl _) hN).mono ?_
  rintro e w2 ⟨b, h2, rfl, H2, R2, hb, hO2⟩
  rcases hb with ⟨rfl, hH⟩ | ⟨rfl, hU⟩
  · go_wp2
    go_end0
    exact ⟨rfl, h2, H2, R2, hH, hO2⟩
  · go_wp2_with fail
    refine (up_any i H2 R2 hU hi (Nat.le_refl _) hN).mono ?_
    rintro e w3 ⟨rfl, h3, H3, R3, hH, hO3⟩
    go_wp2
    go_end0
    exact ⟨rfl, h3, H3, R3, hH, hO2.step hO3 (fun _ _ k => k)⟩

/-- What a Pop or a Remove leaves: all but the one at i. -/
def GoneR (wb r g cap n : Nat) (h0 : Hp) (i : Nat) (w : World) (e : Ending) (w' : World) : Prop :=
  ∃ h, e = .returned (.iface 90 (.pointer (some ⟨(h0 i).o, 0, none⟩))) ∧ HAt w' wb r g cap n h ∧ Heap h n ∧ Rea (n + 1) (n + 1) h0 h ∧ h n = h0 i ∧ Off (fun k => k = wb ∨ HOwn g (n + 1) h0 k) w w' ∧ Blk w' (h0 i).o 93 #[.int .i64 (h0 i).id, .int .i64 (h0 i).at_, .int .i64 n]

set_option maxRecDepth 100000 in
set_option maxHeartbeats 1000000 in
theorem hpop_any {w : World} {wb r g cap N n : Nat} {h : Hp} (H : HAt w wb r g cap N h) (R : Rea N N h h) (hH : Heap h N) (hn : n + 1 = N) (hN : N ≤ 1000000) :
    Calls Try.prog 46 #[.iface 95 (.pointer (some ⟨wb, 0, none⟩))] w (GoneR wb r g cap n h 0 w) := by
  have c0 : w.cell? ⟨wb, 0, none⟩ = some (.slice (some ⟨g, 0, none⟩) N cap) := H.top.cell 0
  have hm1 := meth_len w ⟨wb, 0, none⟩ _ c0
  have hm2 := meth_swap w ⟨wb, 0, none⟩ _ c0
  have hI : (N : Int) - 1 = (n : Int) := by omega
  go_enter Try.func46, Try.ntmps46
  go_wp2_with fail
  refine (hlen_any w _ N cap hN).mono ?_
  rintro e w1 ⟨rfl, rfl⟩
  go_wp2_with fail
  refine (swap_any H (i := 0) (j := n) (by omega) (by omega) R.o).mono ?_
  rintro e w2 ⟨rfl, H2, hO2⟩
  have R2 : Rea N N h (sw 0 n h) := R.sw (by omega) (by omega) (Nat.le_refl _)
  have U2 : HAny (sw 0 n h) n 0 := hH.put (by omega) (by omega) (fun k hk hk0 => sw_n h hk0 (by omega))
  clear c0 hm1 hm2
  go_wp2_with fail
  refine (down_any 0 H2 (Rea.refl R2.id R2.o) U2 (by omega) (by omega) hN).mono ?_
  rintro e w3 ⟨b, h3, rfl, H3, R3, hb, hO3⟩
  have hH3 : Heap h3 n := by
    rcases hb with ⟨_, hH⟩ | ⟨_, hU⟩
    · exact hH
    · exact hU.stop (.inl rfl)
  have hm3 := meth_pop w3 ⟨wb, 0, none⟩
  go_wp2_with fail
  refine (rpop_any H3 hn hN).mono ?_
  rintro e w4 ⟨rfl, H4, hO4⟩
  have hlast : h3 n = h 0 := by rw [R3.top n (Nat.le_refl _), sw_r]
  have hB := hO4.blk (H3.one n (by omega)) (blk_ne (H3.one n (by omega)) H3.top (by decide))
  rw [hlast] at hB
  rw [hlast]
  go_wp2
  go_ret
  subst hn
  have R3' : Rea (n + 1) (n + 1) (sw 0 n h) h3 := ⟨R3.id, R3.o, R3.mem, fun k hk => R3.top k (by omega)⟩
  refine ⟨h3, rfl, H4, hH3, R2.trans R3', hlast, ?_, hB⟩
  refine ((hO2.mono (S' := fun k => k = wb ∨ HOwn g (n + 1) h k) fun _ _ k => .inr k).step hO3 (fun i _ k => .inr ((HOwn.rea R2 i).1 k))).step hO4 (fun i _ k => .inl k)

set_option maxRecDepth 100000 in
set_option maxHeartbeats 1000000 in
theorem hremove_any {w : World} {wb r g cap N n : Nat} {h : Hp} (i : Nat) (H : HAt w wb r g cap N h) (R : Rea N N h h) (hH : Heap h N) (hi : i < N) (hn : n + 1 = N) (hN : N ≤ 1000000) :
    Calls Try.prog 47 #[.iface 95 (.pointer (some ⟨wb, 0, none⟩)), .int .i64 i] w (GoneR wb r g cap n h i w) := by
  have c0 : w.cell? ⟨wb, 0, none⟩ = some (.slice (some ⟨g, 0, none⟩) N cap) := H.top.cell 0
  have hm1 := meth_len w ⟨wb, 0, none⟩ _ c0
  have hm2 := meth_swap w ⟨wb, 0, none⟩ _ c0
  have hI : (N : Int) - 1 = (n : Int) := by omega
  by_cases hin : n = i
  · subst hin
    have hne : ((n : Int) != (n : Int)) = false := by simp
    go_enter Try.func47, Try.ntmps47
    go_wp2_with fail
    refine (hlen_any w _ N cap hN).mono ?_
    rintro e w1 ⟨rfl, rfl⟩
    have hm3 := meth_pop w1 ⟨wb, 0, none⟩
    go_wp2_with fail
    refine (rpop_any H hn hN).mono ?_
    rintro e w4 ⟨rfl, H4, hO4⟩
    have hB := hO4.blk (H.one n (by omega)) (blk_ne (H.one n (by omega)) H.top (by decide))
    go_wp2
    go_ret
    subst hn
    exact ⟨h, rfl, H4, hH.few (by omega), R, rfl, hO4.mono fun _ _ k => .inl k, hB⟩
  · have hne : ¬ (n : Int) = (i : Int) := by omega
    go_enter Try.func47, Try.ntmps47
    go_wp2_with fail
    refine (hlen_any w _ N cap hN).mono ?_
    rintro e w1 ⟨rfl, rfl⟩
    go_wp2_with fail
    refine (swap_any H (i := i) (j := n) (by omega) (by omega) R.o).mono ?_
    rintro e w2 ⟨rfl, H2, hO2⟩
    have R2 : Rea N N h (sw i n h) := R.sw (by omega) (by omega) (Nat.le_refl _)
    have U2 : HAny (sw i n h) n i := hH.put (by omega) (by omega) (fun k hk hk0 => sw_n h hk0 (by omega))
    clear c0 hm1 hm2
    go_wp2_with fail
    refine (down_any i H2 (Rea.refl R2.id R2.o) U2 (by omega) (by omega) hN).mono ?_
    rintro e w3 ⟨b, h3, rfl, H3, R3, hb, hO3⟩
    have hO3' := (hO2.mono (S' := fun k => k = wb ∨ HOwn g N h k) fun _ _ k => .inr k).step hO3 (fun i _ k => .inr ((HOwn.rea R2 i).1 k))
    rcases hb with ⟨rfl, hH3⟩ | ⟨rfl, hU⟩
    · have hm3 := meth_pop w3 ⟨wb, 0, none⟩
      go_wp2_with fail
      refine (rpop_any H3 hn hN).mono ?_
      rintro e w4 ⟨rfl, H4, hO4⟩
      have hlast : h3 n = h i := by rw [R3.top n (Nat.le_refl _), sw_r]
      have hB := hO4.blk (H3.one n (by omega)) (blk_ne (H3.one n (by omega)) H3.top (by decide))
      rw [hlast] at hB
      rw [hlast]
      go_wp2
      go_ret
      subst hn
      have R3' : Rea (n + 1) (n + 1) (sw i n h) h3 := ⟨R3.id, R3.o, R3.mem, fun k hk => R3.top k (by omega)⟩
      exact ⟨h3, rfl, H4, hH3, R2.trans R3', hlast, hO3'.step hO4 (fun i _ k => .inl k), hB⟩
    · go_wp2_with fail
      refine (up_any i H3 R3 hU (by omega) (by omega) hN).mono ?_
      rintro e w4 ⟨rfl, h4, H4, R4, hH4, hO4⟩
      have hO4' := hO3'.step hO4 (fun i _ k => .inr ((HOwn.rea R2 i).1 k))
      have hm3 := meth_pop w4 ⟨wb, 0, none⟩
      go_wp2_with fail
      refine (rpop_any H4 hn hN).mono ?_
      rintro e w5 ⟨rfl, H5, hO5⟩
      have hlast : h4 n = h i := by rw [R4.top n (Nat.le_refl _), sw_r]
      have hB := hO5.blk (H4.one n (by omega)) (blk_ne (H4.one n (by omega)) H4.top (by decide))
      rw [hlast] at hB
      rw [hlast]
      go_wp2
      go_ret
      subst hn
      have R4' : Rea (n + 1) (n + 1) (sw i n h) h4 := ⟨R4.id, R4.o, R4.mem, fun k hk => R4.top k (by omega)⟩
      exact ⟨h4, rfl, H5, hH4, R2.trans R4', hlast, hO4'.step hO5 (fun i _ k => .inl k), hB⟩
end Go.Proofs.Ytbkgjghbmafoeaa
