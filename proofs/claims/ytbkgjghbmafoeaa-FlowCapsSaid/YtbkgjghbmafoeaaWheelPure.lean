/- The plain law of a wheel: a sorted list of ids and times. No program in sight. -/
import Derived.Test.YtbkgjghbmafoeaaHeapPure
namespace Go.Proofs.Ytbkgjghbmafoeaa
open Go.RowKit

abbrev Tm := Int × Int

/-- x comes ahead of y: (id, time). -/
def tlt (x y : Tm) : Prop := x.2 < y.2 ∨ (x.2 = y.2 ∧ x.1 < y.1)
instance (x y : Tm) : Decidable (tlt x y) := inferInstanceAs (Decidable (_ ∨ _))

def ins (x : Tm) : List Tm → List Tm
  | [] => [x]
  | y :: ys => if tlt y x then y :: ins x ys else x :: y :: ys

def del (id : Int) (L : List Tm) : List Tm := L.filter fun y => decide (y.1 ≠ id)

/-- Sorted; each id once. -/
structure Srt (L : List Tm) : Prop where
  up : L.Pairwise tlt
  ids : (L.map (·.1)).Nodup

theorem mem_ins {x y : Tm} : ∀ {L : List Tm}, y ∈ ins x L ↔ y = x ∨ y ∈ L
  | [] => by simp [ins]
  | z :: L => by
    simp only [ins]
    split
    · rw [List.mem_cons, List.mem_cons, mem_ins (L := L)]
      constructor
      · rintro (h | h | h) <;> simp [h]
      · rintro (h | h | h) <;> simp [h]
    · rw [List.mem_cons]

theorem ins_length {x : Tm} : ∀ {L : List Tm}, (ins x L).length = L.length + 1
  | [] => rfl
  | z :: L => by
    simp only [ins]
    split
    · simp [ins_length (L := L)]
    · simp

theorem ins_perm {x : Tm} : ∀ {L : List Tm}, (ins x L).Perm (x :: L)
  | [] => List.Perm.refl _
  | z :: L => by
    simp only [ins]
    split
    · exact ((ins_perm (L := L)).cons z).trans (List.Perm.swap x z L)
    · exact List.Perm.refl _

theorem tlt_trans {x y z : Tm} (h : tlt x y) (k : tlt y z) : tlt x z := by unfold tlt at *; omega

theorem Srt.ins {x : Tm} {L : List Tm} (h : Srt L) (hx : ∀ y ∈ L, y.1 ≠ x.1) : Srt (ins x L) := by
  refine ⟨?_, ?_⟩
  · have hup := h.up
    clear h
    induction L with
    | nil => simp [Proofs.Ytbkgjghbmafoeaa.ins]
    | cons z L ih =>
      rw [List.pairwise_cons] at hup
      simp only [Proofs.Ytbkgjghbmafoeaa.ins]
      split
      · rename_i hz
        rw [List.pairwise_cons]
        refine ⟨fun y hy => ?_, ih (fun y hy => hx y (List.mem_cons_of_mem _ hy)) hup.2⟩
        rcases mem_ins.1 hy with rfl | hy
        · exact hz
        · exact hup.1 y hy
      · rename_i hz
        have hxz : tlt x z := by
          have := hx z List.mem_cons_self
          unfold tlt at hz ⊢; omega
        rw [List.pairwise_cons]
        refine ⟨fun y hy => ?_, List.pairwise_cons.2 hup⟩
        rcases List.mem_cons.1 hy with rfl | hy
        · exact hxz
        · exact tlt_trans hxz (hup.1 y hy)
  · have hp := (ins_perm (x := x) (L := L)).map (·.1)
    rw [hp.nodup_iff, List.map_cons, List.nodup_cons]
    refine ⟨fun hm => ?_, h.ids⟩
    obtain ⟨y, hy, hye⟩ := List.mem_map.1 hm
    exact hx y hy hye

theorem Srt.sub {L L' : List Tm} (h : Srt L) (k : L'.Sublist L) : Srt L' := ⟨h.up.sublist k, h.ids.sublist (k.map _)⟩

theorem Srt.del {L : List Tm} (h : Srt L) (id : Int) : Srt (del id L) := h.sub List.filter_sublist

theorem mem_del {id : Int} {L : List Tm} {y : Tm} : y ∈ del id L ↔ y ∈ L ∧ y.1 ≠ id := by simp [del]

theorem del_none {id : Int} {L : List Tm} (h : ∀ y ∈ L, y.1 ≠ id) : del id L = L := List.filter_eq_self.2 fun y hy => by simpa using h y hy

/-- The same members: the same list. -/
theorem Srt.eq : ∀ {L L' : List Tm}, Srt L → Srt L' → (∀ y, y ∈ L ↔ y ∈ L') → L = L'
  | [], [], _, _, _ => rfl
  | [], y :: L', _, _, h => by have := (h y).2 List.mem_cons_self; cases this
  | y :: L, [], _, _, h => by have := (h y).1 List.mem_cons_self; cases this
  | x :: L, y :: L', h1, h2, h => by
    have u1 := List.pairwise_cons.1 h1.up
    have u2 := List.pairwise_cons.1 h2.up
    have hxy : x = y := by
      rcases List.mem_cons.1 ((h x).1 List.mem_cons_self) with e | e
      · exact e
      · rcases List.mem_cons.1 ((h y).2 List.mem_cons_self) with e' | e'
        · exact e'.symm
        · have a := u2.1 x e
          have b := u1.1 y e'
          unfold tlt at a b; omega
    subst hxy
    have : L = L' := Srt.eq (h1.sub (List.sublist_cons_self x L)) (h2.sub (List.sublist_cons_self x L')) (fun z => by
      constructor
      · intro hz
        rcases List.mem_cons.1 ((h z).1 (List.mem_cons_of_mem _ hz)) with e | e
        · subst e; have := u1.1 z hz; unfold tlt at this; omega
        · exact e
      · intro hz
        rcases List.mem_cons.1 ((h z).2 (List.mem_cons_of_mem _ hz)) with e | e
        · subst e; have := u2.1 z hz; unfold tlt at this; omega
        · exact e)
    rw [this]

theorem Srt.nil : Srt [] := ⟨List.Pairwise.nil, by simp⟩

/-- The heap holds the list. -/
structure Rep (n : Nat) (h : Hp) (L : List Tm) : Prop where
  srt : Srt L
  mem : ∀ x : Tm, x ∈ L ↔ ∃ i, i < n ∧ ((h i).id, (h i).at_) = x
  len : L.length = n

theorem Rep.nil (h : Hp) : Rep 0 h [] := ⟨Srt.nil, fun x => by simp, rfl⟩

theorem Rep.look {n : Nat} {h : Hp} {L : List Tm} (R : Rep n h L) (id : Int) : (∃ y ∈ L, y.1 = id) ↔ ∃ i, i < n ∧ (h i).id = id := by
  constructor
  · rintro ⟨y, hy, rfl⟩
    obtain ⟨i, hi, rfl⟩ := (R.mem y).1 hy
    exact ⟨i, hi, rfl⟩
  · rintro ⟨i, hi, rfl⟩
    exact ⟨_, (R.mem _).2 ⟨i, hi, rfl⟩, rfl⟩

/-- The root is the first. -/
theorem Rep.first {n : Nat} {h : Hp} {x : Tm} {L : List Tm} (R : Rep n h (x :: L)) (hH : Heap h n) : 0 < n ∧ ((h 0).id, (h 0).at_) = x := by
  have hn : 0 < n := by rw [← R.len]; simp
  refine ⟨hn, ?_⟩
  obtain ⟨i, hi, hx⟩ := (R.mem x).1 List.mem_cons_self
  have hroot := hH.root i hi
  have h0 := (R.mem ((h 0).id, (h 0).at_)).2 ⟨0, hn, rfl⟩
  rcases List.mem_cons.1 h0 with e | e
  · exact e
  · have := (List.pairwise_cons.1 R.srt.up).1 _ e
    subst hx
    unfold DE.le at hroot
    unfold tlt at this
    simp only at this
    omega

/-- One more. -/
theorem Rep.add {n : Nat} {h h' : Hp} {L : List Tm} (R : Rep n h L) (d : DE) (hd : ∀ i, i < n → (h i).id ≠ d.id) (hm : ∀ e, (∃ i, i < n + 1 ∧ h' i = e) ↔ (e = d ∨ ∃ i, i < n ∧ h i = e)) : Rep (n + 1) h' (ins (d.id, d.at_) L) := by
  have hx : ∀ y ∈ L, y.1 ≠ d.id := fun y hy => by
    obtain ⟨i, hi, rfl⟩ := (R.mem y).1 hy
    exact hd i hi
  refine ⟨R.srt.ins hx, fun x => ?_, by rw [ins_length, R.len]⟩
  rw [mem_ins]
  constructor
  · rintro (rfl | hy)
    · obtain ⟨i, hi, he⟩ := (hm d).2 (.inl rfl)
      exact ⟨i, hi, by rw [he]⟩
    · obtain ⟨i, hi, rfl⟩ := (R.mem x).1 hy
      obtain ⟨j, hj, he⟩ := (hm (h i)).2 (.inr ⟨i, hi, rfl⟩)
      exact ⟨j, hj, by rw [he]⟩
  · rintro ⟨i, hi, rfl⟩
    rcases (hm (h' i)).1 ⟨i, hi, rfl⟩ with e | ⟨j, hj, e⟩
    · left; rw [e]
    · right; exact (R.mem _).2 ⟨j, hj, by rw [e]⟩

theorem del_length {id : Int} : ∀ {L : List Tm}, (L.map (·.1)).Nodup → (∃ y ∈ L, y.1 = id) → (del id L).length + 1 = L.length
  | [], _, h => by obtain ⟨y, hy, _⟩ := h; cases hy
  | z :: L, hnd, hex => by
    simp only [List.map_cons, List.nodup_cons] at hnd
    by_cases hz : z.1 = id
    · have : del id L = L := del_none fun y hy e => hnd.1 (by rw [hz, ← e]; exact List.mem_map_of_mem hy)
      have h2 : del id (z :: L) = del id L := by simp [del, hz]
      rw [h2, this]; rfl
    · have h2 : del id (z :: L) = z :: del id L := by simp [del, hz]
      obtain ⟨y, hy, hye⟩ := hex
      rcases List.mem_cons.1 hy with e | e
      · subst e; exact absurd hye hz
      · rw [h2, List.length_cons, List.length_cons, ← del_length hnd.2 ⟨y, e, hye⟩]

/-- One less. -/
theorem Rep.gone {n i : Nat} {h h' : Hp} {L : List Tm} (R : Rep (n + 1) h L) (hi : i < n + 1)
    (R' : Rea (n + 1) (n + 1) h h') (hl : h' n = h i) : Rep n h' (del (h i).id L) := by
  have hmem : ∀ x : Tm, x ∈ del (h i).id L ↔ ∃ j, j < n ∧ ((h' j).id, (h' j).at_) = x := fun x => by
    rw [mem_del]
    constructor
    · rintro ⟨hx, hne⟩
      obtain ⟨j, hj, rfl⟩ := (R.mem x).1 hx
      obtain ⟨k, hk, he⟩ := (R'.mem (h j)).2 ⟨j, hj, rfl⟩
      refine ⟨k, ?_, by rw [he]⟩
      have : k ≠ n := fun e => hne (by rw [← he, e, hl])
      omega
    · rintro ⟨j, hj, rfl⟩
      obtain ⟨k, hk, he⟩ := (R'.mem (h' j)).1 ⟨j, by omega, rfl⟩
      refine ⟨(R.mem _).2 ⟨k, hk, by rw [he]⟩, fun e => ?_⟩
      have := R'.id j n (by omega) (by omega) (by rw [hl]; exact e)
      omega
  refine ⟨R.srt.del _, hmem, ?_⟩
  have := del_length R.srt.ids ((R.look _).2 ⟨i, hi, rfl⟩)
  have := R.len
  omega

/-- One's time is another. -/
theorem Rep.put {n i : Nat} {h h' : Hp} {L : List Tm} (R : Rep n h L) (hid : ∀ a b, a < n → b < n → (h a).id = (h b).id → a = b) (hi : i < n) (t : Int)
    (he : ∀ k, k < n → k ≠ i → h' k = h k) (hi' : (h' i).id = (h i).id ∧ (h' i).at_ = t) : Rep n h' (ins ((h i).id, t) (del (h i).id L)) := by
  have hx : ∀ y ∈ del (h i).id L, y.1 ≠ (h i).id := fun y hy => (mem_del.1 hy).2
  have hlen := del_length R.srt.ids ((R.look _).2 ⟨i, hi, rfl⟩)
  refine ⟨(R.srt.del _).ins hx, fun x => ?_, by rw [ins_length, hlen, R.len]⟩
  rw [mem_ins, mem_del]
  constructor
  · rintro (rfl | ⟨hm, hne⟩)
    · exact ⟨i, hi, by rw [hi'.1, hi'.2]⟩
    · obtain ⟨k, hk, rfl⟩ := (R.mem x).1 hm
      have hki : k ≠ i := fun e => hne (by rw [e])
      exact ⟨k, hk, by rw [he k hk hki]⟩
  · rintro ⟨k, hk, rfl⟩
    by_cases hki : k = i
    · subst hki; left; rw [hi'.1, hi'.2]
    · right
      rw [he k hk hki]
      exact ⟨(R.mem _).2 ⟨k, hk, rfl⟩, fun e => hki (hid k i hk hi e)⟩

end Go.Proofs.Ytbkgjghbmafoeaa
