/- The walks over both buckets' methods: each does what the plain bucket does, and turns nothing else. Conditions: the bucket is as New makes one; times and numbers are ints. -/
import Derived.Test.YtepibimlmfhceaaBkWalka
import Derived.Deep.RegionHeld3
namespace Go.Proofs.Ytepibimlmfhceaa
open Go.RowKit

/-- A new bucket s, at a new block; nothing else has turned. -/
def BNew (T : TypeId) (s : Bk) (w : World) (e : Ending) (w' : World) : Prop := ∃ b, e = .returned (.pointer (some ⟨b, 0, none⟩)) ∧ w.heap.size ≤ b ∧ BAt T w' b s ∧ Off (fun _ => False) w w'

theorem BNew.mk {T : TypeId} {s : Bk} {w : World} {r bu t k : Int} (h : s = ⟨r, bu, t, k⟩) :
    BNew T s w (.returned (.pointer (some ⟨w.heap.size, 0, none⟩))) (w.alloc (.cells #[.int .i64 r, .int .i64 bu, .int .i64 t, .int .i64 k] T)) :=
  ⟨w.heap.size, rfl, Nat.le_refl _, h ▸ Blk.new w T _, (Off.refl _ _).alloc _⟩

set_option maxHeartbeats 400000 in
theorem take_any (b : Nat) (s : Bk) (now n : Int) (w : World) (hB : BAt 64 w b s) (hs : s.Ok) (hn : I64 now) (hm : I64 n) :
    Calls Try.prog 13 #[.pointer (some ⟨b, 0, none⟩), .int .i64 now, .int .i64 n] w (BPost 64 b (s.took now n) (.bool (s.takes now n)) w) := by
  go_enter Try.func13, Try.ntmps13
  go_wp2_with fail
  refine (learn_any b s now w hB hs hn).mono ?_
  rintro e w1 ⟨rfl, hB1, hO1⟩
  have hs1 := Bk.learn_ok hs hn
  obtain ⟨h0, h1, h2, h3, f2, f3⟩ := hB1.facts
  have g1 := hs1.t0; have g2 := hs1.t1; have g3 := hs1.b1
  have n1 := hm.1; have n2 := hm.2
  have HT := Lib.hid (@Bk.takes_no s now n)
  have HY := Lib.hid (@Bk.takes_yes s now n)
  go_wp2
  · go_ret
    have h : n < 0 ∨ (s.learn now).tokens < n := by assumption
    rw [(HT.out h).1, (HT.out h).2]
    exact BPost.of hO1 hB1 rfl (Off.refl _ _)
  · go_ret
    have h : 0 ≤ n ∧ n ≤ (s.learn now).tokens := by assumption
    rw [(HY.out h.1 h.2).1, (HY.out h.1 h.2).2]
    exact BPost.of hO1 (hB1.set2 _) rfl ((Off.refl _ _).setAt _ _)
  · go_ret
    have h : n < 0 := by assumption
    rw [(HT.out (.inl h)).1, (HT.out (.inl h)).2]
    exact BPost.of hO1 hB1 rfl (Off.refl _ _)

set_option maxHeartbeats 400000 in
theorem rtake_any (b : Nat) (s : Bk) (now n : Int) (w : World) (hB : BAt 61 w b s) (hs : s.Ok) (hn : I64 now) (hm : I64 n) :
    Calls Try.prog 16 #[.pointer (some ⟨b, 0, none⟩), .int .i64 now, .int .i64 n] w (BPost 61 b (s.took now n) (.bool (s.takes now n)) w) := by
  go_enter Try.func16, Try.ntmps16
  go_wp2_with fail
  refine (rlearn_any b s now w hB hs hn).mono ?_
  rintro e w1 ⟨rfl, hB1, hO1⟩
  have hs1 := Bk.learn_ok hs hn
  obtain ⟨h0, h1, h2, h3, f2, f3⟩ := hB1.facts
  have g1 := hs1.t0; have g2 := hs1.t1; have g3 := hs1.b1
  have n1 := hm.1; have n2 := hm.2
  have HT := Lib.hid (@Bk.takes_no s now n)
  have HY := Lib.hid (@Bk.takes_yes s now n)
  go_wp2
  · go_ret
    have h : n < 0 ∨ (s.learn now).tokens < n := by assumption
    rw [(HT.out h).1, (HT.out h).2]
    exact BPost.of hO1 hB1 rfl (Off.refl _ _)
  · go_ret
    have h : 0 ≤ n ∧ n ≤ (s.learn now).tokens := by assumption
    rw [(HY.out h.1 h.2).1, (HY.out h.1 h.2).2]
    exact BPost.of hO1 (hB1.set2 _) rfl ((Off.refl _ _).setAt _ _)
  · go_ret
    have h : n < 0 := by assumption
    rw [(HT.out (.inl h)).1, (HT.out (.inl h)).2]
    exact BPost.of hO1 hB1 rfl (Off.refl _ _)

set_option maxHeartbeats 400000 in
theorem tokens_any (b : Nat) (s : Bk) (now : Int) (w : World) (hB : BAt 64 w b s) (hs : s.Ok) (hn : I64 now) :
    Calls Try.prog 14 #[.pointer (some ⟨b, 0, none⟩), .int .i64 now] w (BPost 64 b (s.learn now) (.int .i64 (s.learn now).tokens) w) := by
  go_enter Try.func14, Try.ntmps14
  go_wp2_with fail
  refine (learn_any b s now w hB hs hn).mono ?_
  rintro e w1 ⟨rfl, hB1, hO1⟩
  obtain ⟨h0, h1, h2, h3, f2, f3⟩ := hB1.facts
  go_wp2
  go_ret
  exact BPost.of hO1 hB1 rfl (Off.refl _ _)

set_option maxHeartbeats 400000 in
theorem rtokens_any (b : Nat) (s : Bk) (now : Int) (w : World) (hB : BAt 61 w b s) (hs : s.Ok) (hn : I64 now) :
    Calls Try.prog 17 #[.pointer (some ⟨b, 0, none⟩), .int .i64 now] w (BPost 61 b (s.learn now) (.int .i64 (s.learn now).tokens) w) := by
  go_enter Try.func17, Try.ntmps17
  go_wp2_with fail
  refine (rlearn_any b s now w hB hs hn).mono ?_
  rintro e w1 ⟨rfl, hB1, hO1⟩
  obtain ⟨h0, h1, h2, h3, f2, f3⟩ := hB1.facts
  go_wp2
  go_ret
  exact BPost.of hO1 hB1 rfl (Off.refl _ _)

set_option maxHeartbeats 400000 in
theorem new_any (r bu now : Int) (w : World) :
    Calls Try.prog 12 #[.int .i64 r, .int .i64 bu, .int .i64 now] w (BNew 64 (Bk.new r bu now) w) := by
  go_enter Try.func12, Try.ntmps12
  go_wp2
  all_goals go_ret
  all_goals exact BNew.mk (by unfold Bk.new; simp only [Bk.mk.injEq]; refine ⟨?_, ?_, ?_, trivial⟩ <;> (repeat' split) <;> omega)

set_option maxHeartbeats 400000 in
theorem rnew_any (r bu now : Int) (w : World) :
    Calls Try.prog 15 #[.int .i64 r, .int .i64 bu, .int .i64 now] w (BNew 61 (Bk.new r bu now) w) := by
  go_enter Try.func15, Try.ntmps15
  go_wp2
  all_goals go_ret
  all_goals exact BNew.mk (by unfold Bk.new; simp only [Bk.mk.injEq]; refine ⟨?_, ?_, ?_, trivial⟩ <;> (repeat' split) <;> omega)

/-! ### Full: the burst is read ahead of the call of Tokens, or behind it -/

set_option maxHeartbeats 400000 in
theorem full_any (b : Nat) (s : Bk) (now : Int) (w : World) (hB : BAt 64 w b s) (hs : s.Ok) (hn : I64 now) :
    Calls Try.prog 18 #[.pointer (some ⟨b, 0, none⟩), .int .i64 now] w (BPost 64 b (s.learn now) (.bool ((s.learn now).tokens == s.burst)) w) := by
  obtain ⟨h0, h1, h2, h3, f2, f3⟩ := hB.facts
  go_enter Try.func18, Try.ntmps18
  go_wp2_with fail
  go_region_held3 (fun w' => w'.cell? ⟨b, 1, none⟩ = some (.int .i64 s.burst)) (assumption)
    (first | (go_at_call 14; refine (tokens_any b s now _ ?_ hs hn).mono ?_; (first | exact hB | exact hB.drew); rintro e w1 ⟨rfl, hB1, hO1⟩; have hc := hB1.facts.h1; rw [Bk.learn_burst] at hc))
  go_wp2
  go_ret
  exact BPost.mk hB1 rfl ((Off.refl _ _).drew.step hO1 fun _ _ h => h)

set_option maxHeartbeats 400000 in
theorem rfull_any (b : Nat) (s : Bk) (now : Int) (w : World) (hB : BAt 61 w b s) (hs : s.Ok) (hn : I64 now) :
    Calls Try.prog 19 #[.pointer (some ⟨b, 0, none⟩), .int .i64 now] w (BPost 61 b (s.learn now) (.bool ((s.learn now).tokens == s.burst)) w) := by
  have hb := Lib.hid (Bk.learn_burst s now)
  go_enter Try.func19, Try.ntmps19
  go_wp2_with fail
  refine (rlearn_any b s now w hB hs hn).mono ?_
  rintro e w1 ⟨rfl, hB1, hO1⟩
  obtain ⟨h0, h1, h2, h3, f2, f3⟩ := hB1.facts
  go_wp2
  go_quiet (fail)
  go_wp2
  go_ret
  rw [hb.out]
  exact BPost.of hO1 (hB1.drewN _) rfl ((Off.refl _ _).drewN _)

theorem BAt.alloc {T : TypeId} {w : World} {b : Nat} {s : Bk} (h : BAt T w b s) (o : Obj) : BAt T (w.alloc o) b s := Blk.alloc h o

theorem BAt.lt {T : TypeId} {w : World} {b : Nat} {s : Bk} (h : BAt T w b s) : b < w.heap.size := Blk.lt h

theorem BAt.off {T : TypeId} {w w' : World} {b : Nat} {s : Bk} {S : Nat → Prop} (h : BAt T w b s) (k : Off S w w') (hn : ¬ S b) : BAt T w' b s := k.blk h hn

theorem below_off {B : Nat} {w a a' : World} {S : Nat → Prop} (h : Below B w a) (k : Off S a a') (hB : B ≤ w.heap.size) (hS : ∀ i, i < B → ¬ S i) : Below B w a' :=
  h.trans (k.below (Nat.le_trans hB h.size) hS)

end Go.Proofs.Ytepibimlmfhceaa
