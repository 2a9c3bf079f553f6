/- The walks over a wheel's Drop and Due. Conditions: the wheel lies whole in memory. -/
import Derived.Test.YtbkgjghbmafoeaaWheelSet
namespace Go.Proofs.Ytbkgjghbmafoeaa
open Go.RowKit
open Go.ChangeMaps (setBlock)

def DropR (L : List Tm) (id : Int) (L' : List Tm) (b : Bool) : Prop :=
  L' = del id L ∧ (b = true ∧ (∃ y ∈ L, y.1 = id) ∨ b = false ∧ ∀ y ∈ L, y.1 ≠ id)

def WDrop (wb : Nat) (S : Nat → Prop) (L : List Tm) (id : Int) (w : World) (e : Ending) (w' : World) : Prop :=
  ∃ S' L' b, e = .returned (.bool b) ∧ DropR L id L' b ∧ Whl w' wb S' L' ∧ Off S w w' ∧ ∀ i, S' i → S i

/-- The wheel behind a Remove or a Pop, and a delete. -/
theorem WhAt.gone {w w2 w3 : World} {wb r g cap n i : Nat} {h h2 : Hp} {kes : List (KEnt Int)} {clock : Nat} {L : List Tm} (H : WhAt w wb r (.slice (some ⟨g, 0, none⟩) (n + 1) cap) (n + 1) h kes clock L) (hi : i < n + 1)
    (H2 : HAt w2 wb r g cap n h2) (hH2 : Heap h2 n) (R2 : Rea (n + 1) (n + 1) h h2) (hl : h2 n = h i)
    (hO3 : Off (· = r) w2 w3) (hm3 : MapAt ik w3 r (kdel (h i).id kes) clock) (hr2 : MapAt ik w2 r kes clock) :
    WhAt w3 wb r (.slice (some ⟨g, 0, none⟩) n cap) n h2 (kdel (h i).id kes) clock (del (h i).id L) ∧ ∀ k, WhOwn wb r (.slice (some ⟨g, 0, none⟩) n cap) n h2 k → WhOwn wb r (.slice (some ⟨g, 0, none⟩) (n + 1) cap) (n + 1) h k := by
  refine ⟨⟨?_, hH2, Rea.refl (fun a b ha hb => R2.id a b (by omega) (by omega)) (fun a b ha hb => R2.o a b (by omega) (by omega)), hm3, H.keys.sublist ((kdel_sub _ _).map _), ?_, H.rep.gone hi R2 hl, by have := H.few; omega⟩, ?_⟩
  · refine H2.wrow.off hO3 ?_
    rintro k (e | e | ⟨j, hj, e⟩)
    · rw [e]; exact hr2.not_blk H2.top
    · obtain ⟨cur, hb, _⟩ := H2.row
      have hgk : g = k := by simpa [Value.ownBlock] using e
      rw [← hgk]; exact hr2.not_blk hb
    · rw [e]; exact hr2.not_blk (H2.one j hj)
  · intro id u
    rw [klook_kdel _ _ H.keys]
    by_cases hid : id = (h i).id
    · rw [if_pos hid]
      constructor
      · intro e; cases e
      · rintro ⟨j, hj, h1, _⟩
        have := R2.id j n (by omega) (by omega) (by rw [hl, h1, hid])
        omega
    · rw [if_neg hid, H.look id u]
      constructor
      · rintro ⟨j, hj, h1, h2'⟩
        obtain ⟨k, hk, he⟩ := (R2.mem (h j)).2 ⟨j, hj, rfl⟩
        refine ⟨k, ?_, by rw [he]; exact h1, by rw [he]; exact h2'⟩
        have : k ≠ n := fun e => hid (by rw [← h1, ← he, e, hl])
        omega
      · rintro ⟨j, hj, h1, h2'⟩
        obtain ⟨k, hk, he⟩ := (R2.mem (h2 j)).1 ⟨j, by omega, rfl⟩
        exact ⟨k, hk, by rw [he]; exact h1, by rw [he]; exact h2'⟩
  · rintro k ((e | e | ⟨j, hj, e⟩) | e)
    · exact .inl (.inl e)
    · exact .inl (.inr (.inl e))
    · obtain ⟨l, hl', he⟩ := (R2.mem (h2 j)).1 ⟨j, by omega, rfl⟩
      exact .inl (.inr (.inr ⟨l, hl', by rw [he]; exact e⟩))
    · exact .inr e

theorem WhAt.not_r {w : World} {wb r : Nat} {v : Value} {n : Nat} {h : Hp} {kes : List (KEnt Int)} {clock : Nat} {L : List Tm} (H : WhAt w wb r v n h kes clock L) : ∀ i, WOwn wb v n h i → i ≠ r := by
  rintro i (e | e | ⟨k, hk, e⟩)
  · rw [e]; exact H.map.not_blk H.row.top
  · obtain ⟨cur, hc⟩ := ownsRow_blk H.row.row e; exact H.map.not_blk hc
  · rw [e]; exact H.map.not_blk (H.row.one k hk)

set_option maxRecDepth 100000 in
set_option maxHeartbeats 2000000 in
theorem wdrop_some {w : World} {wb r : Nat} {v : Value} {n : Nat} {h : Hp} {kes : List (KEnt Int)} {clock : Nat} {L : List Tm} (id : Int) (H : WhAt w wb r v n h kes clock L) {i : Nat} (hi : i < n) (hid : (h i).id = id) :
    Calls Try.prog 34 #[.pointer (some ⟨wb, 0, none⟩), .int .i64 id] w (WDrop wb (WhOwn wb r v n h) L id w) := by
  obtain ⟨m, rfl⟩ : ∃ m, n = m + 1 := ⟨n - 1, by omega⟩
  have hlk := wh_lookup H id
  have hks : klook id kes = some (.pointer (some ⟨(h i).o, 0, none⟩)) := (H.look id _).2 ⟨i, hi, hid, rfl⟩
  rw [hks] at hlk
  have c1 : w.cell? ⟨wb, 1, none⟩ = some (.map (some r)) := H.row.top.cell 1
  have hD := H.row.one i hi
  have e2 : w.cell? ⟨(h i).o, 2, none⟩ = some (.int .i64 i) := hD.cell 2
  obtain ⟨g, cap, rfl, HA⟩ := H.row.hat (by omega)
  have hfew := H.few
  have hHid := Lib.hid hid
  clear hid hks
  go_enter Try.func34, Try.ntmps34
  go_wp2_with fail
  clear hlk c1
  go_region_with (first | (go_at_call 47; refine (hremove_any i (HA.still (Off.refl _ _).drew) H.rea H.heap hi rfl (by omega)).mono ?_; rintro e w2 ⟨h2, rfl, H2, hH2, R2, hl, hO2, _⟩))
  have hown : ∀ k, (k = wb ∨ HOwn g (m + 1) h k) → WOwn wb (.slice (some ⟨g, 0, none⟩) (m + 1) cap) (m + 1) h k := by
    rintro k (e | e | ⟨j, hj, e⟩)
    · exact .inl e
    · exact .inr (.inl (by rw [e]; rfl))
    · exact .inr (.inr ⟨j, hj, e⟩)
  have hm2 : MapAt ik w2 r kes clock := H.map.drew.off hO2 (fun e => H.not_r r (hown r e) rfl)
  have hdl := fun t2 ty => run_delete (P := Try.prog) (KeyTy.ints Try.underlying3) Try.underlying85 hm2 id t2 ty
  have hset := hm2.set (es' := kdel id kes) (clock' := clock)
  generalize (Obj.map ((kdel id kes).map (KEnt.raw ik)).toArray clock) = O at hdl hset
  have d1 : w2.cell? ⟨wb, 1, none⟩ = some (.map (some r)) := H2.top.cell 1
  go_wp2
  go_ret
  have hO3 : Off (· = r) w2 (setBlock w2 r O) := (Off.refl _ _).setBlock _ fun _ => rfl
  obtain ⟨HG, hS⟩ := H.gone hi H2 hH2 R2 hl hO3 (by rw [hHid.out]; exact hset) hm2
  rw [hHid.out] at HG
  refine ⟨_, _, true, rfl, ⟨rfl, .inl ⟨rfl, (H.rep.look id).2 ⟨i, hi, hHid.out⟩⟩⟩, ⟨r, _, m, h2, _, clock, HG, fun _ => Iff.rfl⟩, ?_, hS⟩
  exact (((Off.refl (WhOwn wb r (.slice (some ⟨g, 0, none⟩) (m + 1) cap) (m + 1) h) w).drew).step hO2 (fun k _ e => .inl (hown k e))).step hO3 (fun k _ e => .inr e)

set_option maxHeartbeats 2000000 in
theorem wdrop_none {w : World} {wb r : Nat} {v : Value} {n : Nat} {h : Hp} {kes : List (KEnt Int)} {clock : Nat} {L : List Tm} (id : Int) (H : WhAt w wb r v n h kes clock L) (hno : ∀ i, i < n → (h i).id ≠ id) :
    Calls Try.prog 34 #[.pointer (some ⟨wb, 0, none⟩), .int .i64 id] w (WDrop wb (WhOwn wb r v n h) L id w) := by
  have hlk := wh_lookup H id
  have hks : klook id kes = none := by
    cases hk : klook id kes with
    | none => rfl
    | some u => obtain ⟨i, hi, he, _⟩ := (H.look id u).1 hk; exact absurd he (hno i hi)
  rw [hks] at hlk
  have c1 : w.cell? ⟨wb, 1, none⟩ = some (.map (some r)) := H.row.top.cell 1
  have hab : ∀ y ∈ L, y.1 ≠ id := fun y hy e => by obtain ⟨i, hi, hie⟩ := (H.rep.look id).1 ⟨y, hy, e⟩; exact hno i hi hie
  have hfin : WDrop wb (WhOwn wb r v n h) L id w (.returned (.bool false)) w :=
    ⟨_, _, _, rfl, ⟨(del_none hab).symm, .inr ⟨rfl, hab⟩⟩, ⟨r, v, n, h, kes, clock, H, fun _ => Iff.rfl⟩, Off.refl _ _, fun _ k => k⟩
  clear H hno hks hab
  go_enter Try.func34, Try.ntmps34
  go_wp2_with fail
  go_ret
  exact hfin

theorem wdrop_any {w : World} {wb : Nat} {S : Nat → Prop} {L : List Tm} (id : Int) (H : Whl w wb S L) :
    Calls Try.prog 34 #[.pointer (some ⟨wb, 0, none⟩), .int .i64 id] w (WDrop wb S L id w) := by
  obtain ⟨r, v, n, h, kes, clock, H, hS⟩ := H
  obtain rfl : S = WhOwn wb r v n h := funext fun i => propext (hS i)
  by_cases hx : ∃ i, i < n ∧ (h i).id = id
  · obtain ⟨i, hi, hid⟩ := hx
    exact wdrop_some id H hi hid
  · exact wdrop_none id H (fun i hi e => hx ⟨i, hi, e⟩)
end Go.Proofs.Ytbkgjghbmafoeaa
