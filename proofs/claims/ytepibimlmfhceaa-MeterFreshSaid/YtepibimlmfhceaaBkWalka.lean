/- The walks over both buckets' way to learn a time: what is known of the bucket ahead, and behind. Conditions: the bucket is as New makes one; times are ints. -/
import Derived.Test.YtepibimlmfhceaaBase
import Derived.Test.YtepibimlmfhceaaBkPure
import Derived.Test.YtepibimlmfhceaaProg
namespace Go.Proofs.Ytepibimlmfhceaa
open Go.RowKit

def BAt (T : TypeId) (w : World) (b : Nat) (s : Bk) : Prop := Blk w b T #[.int .i64 s.rate, .int .i64 s.burst, .int .i64 s.tokens, .int .i64 s.known]

/-- A method of the bucket at b answered v; the bucket is s now; nothing else has turned. -/
def BPost (T : TypeId) (b : Nat) (s : Bk) (v : Value) (w : World) (e : Ending) (w' : World) : Prop := e = .returned v ∧ BAt T w' b s ∧ Off (· = b) w w'

structure BFacts (w : World) (b : Nat) (s : Bk) : Prop where
  h0 : w.cell? ⟨b, 0, none⟩ = some (.int .i64 s.rate)
  h1 : w.cell? ⟨b, 1, none⟩ = some (.int .i64 s.burst)
  h2 : w.cell? ⟨b, 2, none⟩ = some (.int .i64 s.tokens)
  h3 : w.cell? ⟨b, 3, none⟩ = some (.int .i64 s.known)
  f2 : w.frozen? ⟨b, 2, none⟩ = false
  f3 : w.frozen? ⟨b, 3, none⟩ = false

theorem BAt.facts {T : TypeId} {w : World} {b : Nat} {s : Bk} (h : BAt T w b s) : BFacts w b s :=
  ⟨Blk.cell h 0, Blk.cell h 1, Blk.cell h 2, Blk.cell h 3, Blk.free h 2, Blk.free h 3⟩

theorem BAt.drew {T : TypeId} {w : World} {b : Nat} {s : Bk} (h : BAt T w b s) : BAt T w.drew b s := Blk.drew h
theorem BAt.drewN {T : TypeId} {w : World} {b : Nat} {s : Bk} (h : BAt T w b s) (n : Nat) : BAt T (w.drewN n) b s := Blk.drewN h n
theorem BAt.set2 {T : TypeId} {w : World} {b : Nat} {s : Bk} (h : BAt T w b s) (n : Int) : BAt T (w.setCell ⟨b, 2, none⟩ (.int .i64 n)) b { s with tokens := n } := Blk.setCell h 2 _
theorem BAt.set3 {T : TypeId} {w : World} {b : Nat} {s : Bk} (h : BAt T w b s) (n : Int) : BAt T (w.setCell ⟨b, 3, none⟩ (.int .i64 n)) b { s with known := n } := Blk.setCell h 3 _

theorem BPost.mk {T : TypeId} {w : World} {b : Nat} {s s' : Bk} {v : Value} {w' : World} (h : BAt T w' b s) (hs : s = s') (k : Off (· = b) w w') : BPost T b s' v w (.returned v) w' :=
  ⟨rfl, hs ▸ h, k⟩

set_option maxHeartbeats 400000 in
theorem learn_back (b : Nat) (s : Bk) (now : Int) (w : World) (hB : BAt 64 w b s) (hk : now ≤ s.known) :
    Calls Try.prog 28 #[.pointer (some ⟨b, 0, none⟩), .int .i64 now] w (BPost 64 b (s.learn now) (.tuple #[]) w) := by
  obtain ⟨h0, h1, h2, h3, f2, f3⟩ := hB.facts
  go_enter Try.func28, Try.ntmps28
  go_wp2
  refine bodyPost_ret (results_none rfl _ _ _) rfl ?_
  exact BPost.mk hB (Bk.learn_back hk).symm (Off.refl _ _)

set_option maxHeartbeats 400000 in
theorem learn_fwd (b : Nat) (s : Bk) (now : Int) (w : World) (hB : BAt 64 w b s) (hs : s.Ok) (hn : I64 now) (hk : s.known < now) :
    Calls Try.prog 28 #[.pointer (some ⟨b, 0, none⟩), .int .i64 now] w (BPost 64 b (s.learn now) (.tuple #[]) w) := by
  have HG := Lib.hid (u64_gap hn ⟨hs.k0, hs.k1⟩ hk)
  have HL := Lib.hid (Bk.learn_fwd hk)
  obtain ⟨h0, h1, h2, h3, f2, f3⟩ := hB.facts
  have g1 := hs.r0; have g2 := hs.r1; have g3 := hs.b0; have g4 := hs.b1; have g5 := hs.t0; have g6 := hs.t1; have g7 := hs.k0; have g8 := hs.k1
  have n1 := hn.1; have n2 := hn.2
  have hk' : ¬ now ≤ s.known := by omega
  have HB := Lib.hid hB
  clear hB
  go_enter Try.func28, Try.ntmps28
  go_wp2
  go_quiet (fail)
  go_wp2
  · go_end0
    have hr : s.rate = 0 := by rename_i h; simpa using h
    rw [HL.out, Bk.full_still hs hr]
    exact BPost.mk ((HB.out.set3 now).drewN _) rfl (((Off.refl _ _).setAt _ _).drewN _)
  · go_end0
    rename_i hr hg
    have hr' : s.rate ≠ 0 := by simpa using hr
    rw [HG.out] at hg
    rw [HL.out, Bk.full_up hs hr' (by omega) hk]
    exact BPost.mk (((HB.out.set3 now).drewN _).set2 _) rfl ((((Off.refl _ _).setAt _ _).drewN _).setAt _ _)
  · go_region
    all_goals go_wp2
    all_goals go_end0
    all_goals rename_i h
    all_goals rename_i hr hg
    all_goals
      rw [HG.out] at hg h
      have hf := Bk.full_some hs (by omega) hk
      have e1 : wrap64 (now - s.known) = now - s.known := IntWalk.wrap64_in _ (by omega)
      rw [e1] at h
      have e2 : wrap64 ((now - s.known) * s.rate) = (now - s.known) * s.rate := IntWalk.wrap64_in _ (by omega)
      rw [e2] at h
      have e3 : wrap64 (s.tokens + (now - s.known) * s.rate) = s.tokens + (now - s.known) * s.rate := IntWalk.wrap64_in _ (by omega)
      rw [e3] at h
    · rw [HG.out, e1, e2, e3, HL.out, Bk.full, if_neg (by omega)]
      exact BPost.mk (((HB.out.set3 now).drewN _).set2 _) rfl ((((Off.refl _ _).setAt _ _).drewN _).setAt _ _)
    · rw [HL.out, Bk.full, if_pos (by omega)]
      exact BPost.mk (((HB.out.set3 now).drewN _).set2 _) rfl ((((Off.refl _ _).setAt _ _).drewN _).setAt _ _)

theorem learn_any (b : Nat) (s : Bk) (now : Int) (w : World) (hB : BAt 64 w b s) (hs : s.Ok) (hn : I64 now) :
    Calls Try.prog 28 #[.pointer (some ⟨b, 0, none⟩), .int .i64 now] w (BPost 64 b (s.learn now) (.tuple #[]) w) := by
  by_cases hk : now ≤ s.known
  · exact learn_back b s now w hB hk
  · exact learn_fwd b s now w hB hs hn (by omega)

/-! the document's bucket -/
set_option maxHeartbeats 400000 in
theorem rlearn_back (b : Nat) (s : Bk) (now : Int) (w : World) (hB : BAt 61 w b s) (hk : now ≤ s.known) :
    Calls Try.prog 29 #[.pointer (some ⟨b, 0, none⟩), .int .i64 now] w (BPost 61 b (s.learn now) (.tuple #[]) w) := by
  obtain ⟨h0, h1, h2, h3, f2, f3⟩ := hB.facts
  go_enter Try.func29, Try.ntmps29
  go_wp2
  refine bodyPost_ret (results_none rfl _ _ _) rfl ?_
  exact BPost.mk hB (Bk.learn_back hk).symm (Off.refl _ _)

set_option maxHeartbeats 400000 in
theorem rlearn_fwd (b : Nat) (s : Bk) (now : Int) (w : World) (hB : BAt 61 w b s) (hs : s.Ok) (hn : I64 now) (hk : s.known < now) :
    Calls Try.prog 29 #[.pointer (some ⟨b, 0, none⟩), .int .i64 now] w (BPost 61 b (s.learn now) (.tuple #[]) w) := by
  have HG := Lib.hid (u64_gap hn ⟨hs.k0, hs.k1⟩ hk)
  have HL := Lib.hid (Bk.learn_fwd hk)
  obtain ⟨h0, h1, h2, h3, f2, f3⟩ := hB.facts
  have g1 := hs.r0; have g2 := hs.r1; have g3 := hs.b0; have g4 := hs.b1; have g5 := hs.t0; have g6 := hs.t1; have g7 := hs.k0; have g8 := hs.k1
  have n1 := hn.1; have n2 := hn.2
  have hk' : ¬ now ≤ s.known := by omega
  have HB := Lib.hid hB
  clear hB
  go_enter Try.func29, Try.ntmps29
  go_wp2
  all_goals go_region
  all_goals go_wp2
  all_goals go_end0
  all_goals rename_i h
  all_goals rename_i hg
  all_goals rw [HG.out] at hg
  · have e := Bk.ref_way hs (x := 2097152) (by omega) (by omega)
    have r := Bk.full_ref' hs (now := now) (x := 2097152) (.inl ⟨rfl, hg⟩)
    rw [e] at h ⊢
    rw [if_neg (by omega)] at r
    rw [HL.out, r]
    exact BPost.mk (((HB.out.set2 _).set3 now).drew) rfl ((((Off.refl _ _).setAt _ _).setAt _ _).drew)
  · have e := Bk.ref_way hs (x := 2097152) (by omega) (by omega)
    have r := Bk.full_ref' hs (now := now) (x := 2097152) (.inl ⟨rfl, hg⟩)
    rw [e] at h
    rw [if_pos (by omega)] at r
    rw [HL.out, r]
    exact BPost.mk (((HB.out.set2 _).set3 now).drew) rfl ((((Off.refl _ _).setAt _ _).setAt _ _).drew)
  · have e := Bk.ref_way hs (x := now - s.known) (by omega) (by omega)
    have r := Bk.full_ref' hs (now := now) (x := now - s.known) (.inr ⟨rfl, hg⟩)
    rw [HG.out, e] at h ⊢
    rw [if_neg (by omega)] at r
    rw [HL.out, r]
    exact BPost.mk (((HB.out.set2 _).set3 now).drew) rfl ((((Off.refl _ _).setAt _ _).setAt _ _).drew)
  · have e := Bk.ref_way hs (x := now - s.known) (by omega) (by omega)
    have r := Bk.full_ref' hs (now := now) (x := now - s.known) (.inr ⟨rfl, hg⟩)
    rw [HG.out, e] at h
    rw [if_pos (by omega)] at r
    rw [HL.out, r]
    exact BPost.mk (((HB.out.set2 _).set3 now).drew) rfl ((((Off.refl _ _).setAt _ _).setAt _ _).drew)

theorem rlearn_any (b : Nat) (s : Bk) (now : Int) (w : World) (hB : BAt 61 w b s) (hs : s.Ok) (hn : I64 now) :
    Calls Try.prog 29 #[.pointer (some ⟨b, 0, none⟩), .int .i64 now] w (BPost 61 b (s.learn now) (.tuple #[]) w) := by
  by_cases hk : now ≤ s.known
  · exact rlearn_back b s now w hB hk
  · exact rlearn_fwd b s now w hB hs hn (by omega)

theorem BPost.of {T : TypeId} {w w1 : World} {b : Nat} {s s' : Bk} {v : Value} {w' : World} (o : Off (· = b) w w1) (h : BAt T w' b s) (hs : s = s') (k : Off (· = b) w1 w') : BPost T b s' v w (.returned v) w' :=
  ⟨rfl, hs ▸ h, o.step k fun _ _ h => h⟩

end Go.Proofs.Ytepibimlmfhceaa
