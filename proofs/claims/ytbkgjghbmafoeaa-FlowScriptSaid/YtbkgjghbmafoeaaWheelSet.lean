/- The walks over a wheel's Set and Drop. Conditions: the wheel lies whole in memory. -/
import Derived.Test.YtbkgjghbmafoeaaWheelAt
namespace Go.Proofs.Ytbkgjghbmafoeaa
open Go.RowKit
open Go.ChangeMaps (setBlock)

/-- P13.1. -/
def SetR (L : List Tm) (id at_ : Int) (L' : List Tm) (e : Int) : Prop :=
  ((∃ y ∈ L, y.1 = id) ∨ L.length < 256) ∧ L' = ins (id, at_) (del id L) ∧ e = 0 ∨ (∀ y ∈ L, y.1 ≠ id) ∧ L.length = 256 ∧ L' = L ∧ e = 120

def WSet (wb : Nat) (S : Nat → Prop) (L : List Tm) (id at_ : Int) (w : World) (e : Ending) (w' : World) : Prop :=
  ∃ S' L' er, e = .returned (.int .i64 er) ∧ SetR L id at_ L' er ∧ Whl w' wb S' L' ∧ Off S w w' ∧ ∀ i, S' i → S i ∨ w.heap.size ≤ i

/-- One's time is another. -/
def put (i : Nat) (t : Int) (h : Hp) : Hp := fun k => if k = i then { h i with at_ := t } else h k

theorem put_id (i : Nat) (t : Int) (h : Hp) (k : Nat) : (put i t h k).id = (h k).id := by unfold put; split <;> simp_all
theorem put_o (i : Nat) (t : Int) (h : Hp) (k : Nat) : (put i t h k).o = (h k).o := by unfold put; split <;> simp_all

theorem Off.blkSet {w : World} {b : Nat} {T : TypeId} {cs : Array Value} (h : Blk w b T cs) (i : Nat) (v : Value) : Off (· = b) w (w.setCell ⟨b, i, none⟩ v) := (Off.refl _ _).setAt i v

set_option maxRecDepth 100000 in
set_option maxHeartbeats 2000000 in
theorem wset_some {w : World} {wb r : Nat} {v : Value} {n : Nat} {h : Hp} {kes : List (KEnt Int)} {clock : Nat} {L : List Tm} (id at_ : Int) (H : WhAt w wb r v n h kes clock L) {i : Nat} (hi : i < n) (hid : (h i).id = id) :
    Calls Try.prog 28 #[.pointer (some ⟨wb, 0, none⟩), .int .i64 id, .int .i64 at_] w (WSet wb (WhOwn wb r v n h) L id at_ w) := by
  have hlk := wh_lookup H id
  have hks : klook id kes = some (.pointer (some ⟨(h i).o, 0, none⟩)) := (H.look id _).2 ⟨i, hi, hid, rfl⟩
  rw [hks] at hlk
  have c1 : w.cell? ⟨wb, 1, none⟩ = some (.map (some r)) := H.row.top.cell 1
  have hD := H.row.one i hi
  have d1 : w.cell? ⟨(h i).o, 1, none⟩ = some (.int .i64 (h i).at_) := hD.cell 1
  have f1 : w.frozen? ⟨(h i).o, 1, none⟩ = false := hD.free 1
  have hO1 : Off (· = (h i).o) w (w.setCell ⟨(h i).o, 1, none⟩ (.int .i64 at_)) := (Off.refl _ _).setAt 1 _
  have hne : ∀ k, k < n → k ≠ i → (h k).o ≠ (h i).o := fun k hk hki e => hki (H.rea.o k i hk hi e)
  have hD1 : Blk (w.setCell ⟨(h i).o, 1, none⟩ (.int .i64 at_)) (h i).o 93 #[.int .i64 (h i).id, .int .i64 at_, .int .i64 i] := hD.setCell 1 _
  have H1 : WRow (w.setCell ⟨(h i).o, 1, none⟩ (.int .i64 at_)) wb r v n (put i at_ h) := by
    refine ⟨hO1.blk H.row.top (blk_ne H.row.top hD (by decide)), ?_, fun k hk => ?_⟩
    · have : hptrs n (put i at_ h) = hptrs n h := List.map_congr_left fun k _ => by rw [put_o]
      rw [this]
      exact ownsRow_off H.row.row hO1 (fun g hg => by obtain ⟨cur, hc⟩ := ownsRow_blk H.row.row hg; exact blk_ne hc hD (by decide))
    · by_cases hki : k = i
      · subst hki; simp only [put, if_true]; exact hD1
      · simp only [put, hki, if_false]
        exact hO1.blk (H.row.one k hk) (hne k hk hki)
  obtain ⟨g, cap, rfl, HA⟩ := H1.hat (by omega)
  have R1 : Rea n n (put i at_ h) (put i at_ h) := Rea.refl (fun a b ha hb e => H.rea.id a b ha hb (by rw [put_id, put_id] at e; exact e)) (fun a b ha hb e => H.rea.o a b ha hb (by rw [put_o, put_o] at e; exact e))
  have U1 : HAny (put i at_ h) n i := H.heap.put (Nat.le_refl _) hi (fun k hk hki => by simp [put, hki])
  have e2 : (w.setCell ⟨(h i).o, 1, none⟩ (.int .i64 at_)).cell? ⟨(h i).o, 2, none⟩ = some (.int .i64 i) := hD1.cell 2
  have hmap1 : MapAt ik (w.setCell ⟨(h i).o, 1, none⟩ (.int .i64 at_)) r kes clock := H.map.off hO1 (fun e => H.map.not_blk hD e.symm)
  have hfew := H.few
  have hHid := Lib.hid hid
  clear hid hks
  go_enter Try.func28, Try.ntmps28
  go_wp2_with fail
  clear hlk c1 d1 f1
  generalize w.setCell ⟨(h i).o, 1, none⟩ (.int .i64 at_) = w1 at *
  have hol := hD1.lt
  go_region_with (first | (go_at_call 42; refine (fix_any i (HA.still (Off.refl _ _).drew) R1 U1 hi (by omega)).mono ?_; rintro e w2 ⟨rfl, h2, H2, R2, hH2, hO2⟩))
  go_wp2
  go_ret
  have hRep := H.rep.put (h' := put i at_ h) H.rea.id hi at_ (fun k _ hki => by simp [put, hki]) ⟨by simp [put], by simp [put]⟩
  rw [hHid.out] at hRep
  have hmap2 : MapAt ik w2 r kes clock := (hmap1.drew).off hO2 (fun e => by
    rcases e with e | ⟨k, hk, e⟩
    · obtain ⟨cur, hb, _⟩ := HA.row
      exact hmap1.not_blk hb e.symm
    · exact hmap1.not_blk (HA.one k hk) e.symm)
  have hown : ∀ k, HOwn g n (put i at_ h) k → WhOwn wb r (.slice (some ⟨g, 0, none⟩) n cap) n h k := by
    rintro k (e | ⟨j, hj, e⟩)
    · exact .inl (.inr (.inl (by rw [e]; rfl)))
    · rw [put_o] at e; exact .inl (.inr (.inr ⟨j, hj, e⟩))
  have hO : Off (WhOwn wb r (.slice (some ⟨g, 0, none⟩) n cap) n h) w w2 :=
    ((hO1.mono (S' := WhOwn wb r (.slice (some ⟨g, 0, none⟩) n cap) n h) (fun k _ e => .inl (.inr (.inr ⟨i, hi, e⟩)))).drew).step hO2 (fun k _ e => hown k e)
  refine ⟨WhOwn wb r (.slice (some ⟨g, 0, none⟩) n cap) n h2, _, 0, rfl, .inl ⟨.inl ((H.rep.look id).2 ⟨i, hi, hHid.out⟩), rfl, rfl⟩,
    ⟨r, _, n, h2, kes, clock, ⟨H2.wrow, hH2, Rea.refl R2.id R2.o, hmap2, H.keys, ?_, hRep.rea R2, H.few⟩, fun _ => Iff.rfl⟩, hO, ?_⟩
  · intro id' u
    rw [H.look id' u, ← look_rea R2 id' u]
    constructor
    · rintro ⟨k, hk, h1, h2⟩; exact ⟨k, hk, by rw [put_id]; exact h1, by rw [put_o]; exact h2⟩
    · rintro ⟨k, hk, h1, h2⟩; exact ⟨k, hk, by rw [put_id] at h1; exact h1, by rw [put_o] at h2; exact h2⟩
  · rintro k ((e | e | ⟨j, hj, e⟩) | e)
    · exact .inl (.inl (.inl e))
    · exact .inl (.inl (.inr (.inl e)))
    · exact .inl (hown k ((HOwn.rea R2 k).1 (.inr ⟨j, hj, e⟩)))
    · exact .inl (.inr e)

set_option maxRecDepth 100000 in
set_option maxHeartbeats 2000000 in
theorem wset_full {w : World} {wb r : Nat} {v : Value} {n : Nat} {h : Hp} {kes : List (KEnt Int)} {clock : Nat} {L : List Tm} (id at_ : Int) (H : WhAt w wb r v n h kes clock L) (hno : ∀ i, i < n → (h i).id ≠ id) (hn : n = 256) :
    Calls Try.prog 28 #[.pointer (some ⟨wb, 0, none⟩), .int .i64 id, .int .i64 at_] w (WSet wb (WhOwn wb r v n h) L id at_ w) := by
  have hlk := wh_lookup H id
  have hks : klook id kes = none := by
    cases hk : klook id kes with
    | none => rfl
    | some u => obtain ⟨i, hi, he, _⟩ := (H.look id u).1 hk; exact absurd he (hno i hi)
  rw [hks] at hlk
  have c1 : w.cell? ⟨wb, 1, none⟩ = some (.map (some r)) := H.row.top.cell 1
  have c0 : w.cell? ⟨wb, 0, none⟩ = some v := H.row.top.cell 0
  have hfin : WSet wb (WhOwn wb r v n h) L id at_ w (.returned (.int .i64 120)) w :=
    ⟨_, _, _, rfl, .inr ⟨fun y hy e => by obtain ⟨i, hi, hie⟩ := (H.rep.look id).1 ⟨y, hy, e⟩; exact hno i hi hie, by rw [H.rep.len, hn], rfl, rfl⟩, ⟨r, v, n, h, kes, clock, H, fun _ => Iff.rfl⟩, Off.refl _ _, fun _ k => .inl k⟩
  obtain ⟨a, cap, hv, _⟩ := ownsRow_form H.row.row
  rw [hv, hn] at c0
  clear H hno hks
  go_enter Try.func28, Try.ntmps28
  go_wp2_with fail
  go_ret
  exact hfin

set_option maxRecDepth 100000 in
set_option maxHeartbeats 2000000 in
theorem wset_new {w : World} {wb r : Nat} {v : Value} {n : Nat} {h : Hp} {kes : List (KEnt Int)} {clock : Nat} {L : List Tm} (id at_ : Int) (H : WhAt w wb r v n h kes clock L) (hno : ∀ i, i < n → (h i).id ≠ id) (hn : n < 256) :
    Calls Try.prog 28 #[.pointer (some ⟨wb, 0, none⟩), .int .i64 id, .int .i64 at_] w (WSet wb (WhOwn wb r v n h) L id at_ w) := by
  have hlk := wh_lookup H id
  have hks : klook id kes = none := by
    cases hk : klook id kes with
    | none => rfl
    | some u => obtain ⟨i, hi, he, _⟩ := (H.look id u).1 hk; exact absurd he (hno i hi)
  rw [hks] at hlk
  have c1 : w.cell? ⟨wb, 1, none⟩ = some (.map (some r)) := H.row.top.cell 1
  have c0 : w.cell? ⟨wb, 0, none⟩ = some v := H.row.top.cell 0
  obtain ⟨a, cap, hv, _⟩ := ownsRow_form H.row.row
  subst hv
  have hnI : ¬ (n : Int) = 256 := by omega
  have hO1 := (Off.refl (fun _ => False) w).alloc (.cells #[.int .i64 id, .int .i64 at_, .int .i64 0] 93)
  have hD1 := Blk.new w 93 #[.int .i64 id, .int .i64 at_, .int .i64 0]
  have H1 := H.off hO1 (fun _ _ k => k)
  have e1 : (w.alloc (.cells #[.int .i64 id, .int .i64 at_, .int .i64 0] 93)).cell? ⟨wb, 1, none⟩ = some (.map (some r)) := H1.row.top.cell 1
  have hst := run_store_new (P := Try.prog) (KeyTy.ints Try.underlying3) Try.underlying85 H1.map id (.pointer (some ⟨w.heap.size, 0, none⟩)) hks
  have hset := H1.map.set (es' := kes ++ [(⟨id, .pointer (some ⟨w.heap.size, 0, none⟩), clock⟩ : KEnt Int)]) (clock' := clock + 1)
  have hKS := Lib.hid hks
  clear hks
  generalize hOb : (Obj.map ((kes ++ [(⟨id, .pointer (some ⟨w.heap.size, 0, none⟩), clock⟩ : KEnt Int)]).map (KEnt.raw ik)).toArray (clock + 1)) = O at hst hset
  clear hOb
  go_enter Try.func28, Try.ntmps28
  go_wp2_with fail
  have hO2 : Off (· = r) (w.alloc (.cells #[.int .i64 id, .int .i64 at_, .int .i64 0] 93)) (setBlock (w.alloc (.cells #[.int .i64 id, .int .i64 at_, .int .i64 0] 93)) r O) := (Off.refl _ _).setBlock _ fun _ => rfl
  have hnr : ∀ i, WOwn wb (.slice a n cap) n h i → i ≠ r := by
    rintro i (e | e | ⟨k, hk, e⟩)
    · rw [e]; exact H.map.not_blk H.row.top
    · obtain ⟨cur, hc⟩ := ownsRow_blk H.row.row e; exact H.map.not_blk hc
    · rw [e]; exact H.map.not_blk (H.row.one k hk)
  have hD2 := hO2.blk hD1 (fun e => H1.map.not_blk hD1 e)
  have H2 : WRow (setBlock (w.alloc (.cells #[.int .i64 id, .int .i64 at_, .int .i64 0] 93)) r O) wb r (.slice a n cap) n h := H1.row.off hO2 (fun i hi e => hnr i hi e)
  have hdo : ∀ i, i < n → (h i).o ≠ w.heap.size := fun i hi => by have := (H.row.one i hi).lt; omega
  refine (hpush_any ⟨id, at_, w.heap.size⟩ H2 H.rea H.heap hD2 hdo hno (by omega)).mono ?_
  rintro e w3 ⟨g, cap3, h3, rfl, H3, R3, hH3, hO3, hg⟩
  go_wp2
  go_ret
  have hsz : (setBlock (w.alloc (.cells #[.int .i64 id, .int .i64 at_, .int .i64 0] 93)) r O).heap.size = w.heap.size + 1 := by rw [setBlock_size]; simp
  have hrl := H.map.lt
  have hmem : ∀ e, (∃ i, i < n + 1 ∧ h3 i = e) ↔ (e = (⟨id, at_, w.heap.size⟩ : DE) ∨ ∃ i, i < n ∧ h i = e) := fun e => by
    rw [R3.mem e]
    constructor
    · rintro ⟨i, hi, rfl⟩
      by_cases hin : i = n
      · left; simp [ext, hin]
      · right; exact ⟨i, by omega, by simp [ext, hin]⟩
    · rintro (rfl | ⟨i, hi, rfl⟩)
      · exact ⟨n, by omega, by simp [ext]⟩
      · exact ⟨i, by omega, by have : i ≠ n := by omega
                               simp [ext, this]⟩
  have hdel : del id L = L := del_none fun y hy e => by obtain ⟨i, hi, hie⟩ := (H.rep.look id).1 ⟨y, hy, e⟩; exact hno i hi hie
  have hRep := H.rep.add (h' := h3) ⟨id, at_, w.heap.size⟩ hno hmem
  have hown3 : ∀ k, (∃ j, j < n + 1 ∧ k = (h3 j).o) → (∃ j, j < n ∧ k = (h j).o) ∨ k = w.heap.size := by
    rintro k ⟨j, hj, e⟩
    rcases (hmem (h3 j)).1 ⟨j, hj, rfl⟩ with e' | ⟨i, hi, e'⟩
    · right; rw [e, e']
    · left; exact ⟨i, hi, by rw [e, ← e']⟩
  have hrg : r ≠ g := by
    rcases hg with hg | hg
    · exact fun e => hnr g (.inr (.inl hg)) e.symm
    · omega
  have hmap3 : MapAt ik w3 r (kes ++ [(⟨id, .pointer (some ⟨w.heap.size, 0, none⟩), clock⟩ : KEnt Int)]) (clock + 1) := hset.off hO3 (fun e => by
    rcases e with e | e
    · exact hnr r e rfl
    · omega)
  have hO : Off (WhOwn wb r (.slice a n cap) n h) w w3 := by
    refine ((hO1.mono (S' := WhOwn wb r (.slice a n cap) n h) fun _ _ k => k.elim).step hO2 fun i _ e => .inr e).step hO3 fun i hi e => ?_
    rcases e with e | e
    · exact .inl e
    · omega
  refine ⟨WhOwn wb r (.slice (some ⟨g, 0, none⟩) (n + 1) cap3) (n + 1) h3, _, 0, rfl, .inl ⟨.inr (by rw [H.rep.len]; exact hn), rfl, rfl⟩,
    ⟨r, _, n + 1, h3, _, clock + 1, ⟨H3.wrow, hH3, Rea.refl R3.id R3.o, hmap3, ?_, ?_, by rw [hdel]; exact hRep, by omega⟩, fun _ => Iff.rfl⟩, hO, ?_⟩
  · rw [List.map_append]
    have := klook_keys hKS.out
    rw [List.nodup_append]
    refine ⟨H.keys, by simp, ?_⟩
    intro x hx y hy e
    simp only [List.map_cons, List.map_nil, List.mem_singleton] at hy
    exact this (by rw [← hy, ← e]; exact hx)
  · intro id' u
    rw [klook_add _ _ _ _ _ hKS.out]
    by_cases hid : id' = id
    · subst hid
      rw [if_pos rfl]
      constructor
      · intro e
        simp only [Option.some.injEq] at e
        obtain ⟨i, hi, he⟩ := (hmem ⟨id', at_, w.heap.size⟩).2 (.inl rfl)
        exact ⟨i, hi, by rw [he], by rw [he]; exact e.symm⟩
      · rintro ⟨i, hi, h1, h2⟩
        rcases (hmem (h3 i)).1 ⟨i, hi, rfl⟩ with e | ⟨j, hj, e⟩
        · rw [h2, e]
        · exact absurd (by rw [e]; exact h1) (hno j hj)
    · rw [if_neg hid, H.look id' u]
      constructor
      · rintro ⟨i, hi, h1, h2⟩
        obtain ⟨j, hj, he⟩ := (hmem (h i)).2 (.inr ⟨i, hi, rfl⟩)
        exact ⟨j, hj, by rw [he]; exact h1, by rw [he]; exact h2⟩
      · rintro ⟨i, hi, h1, h2⟩
        rcases (hmem (h3 i)).1 ⟨i, hi, rfl⟩ with e | ⟨j, hj, e⟩
        · rw [e] at h1; exact absurd h1.symm hid
        · exact ⟨j, hj, by rw [e]; exact h1, by rw [e]; exact h2⟩
  · rintro k ((e | e | e) | e)
    · exact .inl (.inl (.inl e))
    · have hgk : g = k := by simpa [Value.ownBlock] using e
      subst hgk
      rcases hg with hg | hg
      · exact .inl (.inl (.inr (.inl hg)))
      · right; omega
    · rcases hown3 k e with e | e
      · exact .inl (.inl (.inr (.inr e)))
      · right; omega
    · exact .inl (.inr e)

theorem wset_any {w : World} {wb : Nat} {S : Nat → Prop} {L : List Tm} (id at_ : Int) (H : Whl w wb S L) :
    Calls Try.prog 28 #[.pointer (some ⟨wb, 0, none⟩), .int .i64 id, .int .i64 at_] w (WSet wb S L id at_ w) := by
  obtain ⟨r, v, n, h, kes, clock, H, hS⟩ := H
  obtain rfl : S = WhOwn wb r v n h := funext fun i => propext (hS i)
  by_cases hx : ∃ i, i < n ∧ (h i).id = id
  · obtain ⟨i, hi, hid⟩ := hx
    exact wset_some id at_ H hi hid
  · have hno : ∀ i, i < n → (h i).id ≠ id := fun i hi e => hx ⟨i, hi, e⟩
    by_cases hn : n < 256
    · exact wset_new id at_ H hno hn
    · exact wset_full id at_ H hno (by have := H.few; omega)
end Go.Proofs.Ytbkgjghbmafoeaa
