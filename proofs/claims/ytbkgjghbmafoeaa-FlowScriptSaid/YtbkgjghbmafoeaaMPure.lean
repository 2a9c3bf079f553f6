/- The plain law of a heap: what sifting up and down keeps, and what it brings about. No program in sight. · The plain law of a wheel: a sorted list of ids and times. No program in sight. · The plain law of a table of flows: a list by rising numbers. No program in sight. · The plain law of a walk over the numbers from 1 to 48. No program in sight. -/
import Derived.IntWalk
namespace Go.Proofs.Ytbkgjghbmafoeaa
open Go.RowKit

/-- A deadline: its id, its time, its block. -/
structure DE where
  id : Int
  at_ : Int
  o : Nat

def DE.lt (a b : DE) : Bool := decide (a.at_ < b.at_) || (a.at_ == b.at_ && decide (a.id < b.id))
def DE.le (a b : DE) : Prop := a.at_ < b.at_ ∨ (a.at_ = b.at_ ∧ a.id ≤ b.id)

theorem DE.lt_iff {a b : DE} : DE.lt a b = true ↔ (a.at_ < b.at_ ∨ (a.at_ = b.at_ ∧ a.id < b.id)) := by simp [DE.lt]
theorem DE.le_of_lt {a b : DE} (h : DE.lt a b = true) : DE.le a b := by rw [DE.lt_iff] at h; unfold DE.le; omega
theorem DE.le_of_not {a b : DE} (h : DE.lt a b = false) : DE.le b a := by
  have : ¬ DE.lt a b = true := by simp [h]
  rw [DE.lt_iff] at this; unfold DE.le; omega
theorem DE.le_trans {a b c : DE} (h : DE.le a b) (k : DE.le b c) : DE.le a c := by unfold DE.le at *; omega
theorem DE.le_refl (a : DE) : DE.le a a := by unfold DE.le; omega

abbrev Hp := Nat → DE

def sw (i j : Nat) (h : Hp) : Hp := fun k => if k = i then h j else if k = j then h i else h k

theorem sw_l (i j : Nat) (h : Hp) : sw i j h i = h j := by simp [sw]
theorem sw_r (i j : Nat) (h : Hp) : sw i j h j = h i := by unfold sw; split <;> simp_all
theorem sw_n {i j k : Nat} (h : Hp) (hi : k ≠ i) (hj : k ≠ j) : sw i j h k = h k := by simp [sw, hi, hj]
theorem sw_self (i : Nat) (h : Hp) : sw i i h = h := by funext k; unfold sw; split <;> simp_all

def Heap (h : Hp) (n : Nat) : Prop := ∀ k, 0 < k → k < n → DE.le (h ((k - 1) / 2)) (h k)
/-- A heap but for the edge above j. -/
def HUp (h : Hp) (n j : Nat) : Prop :=
  (∀ k, 0 < k → k < n → k ≠ j → DE.le (h ((k - 1) / 2)) (h k)) ∧ (0 < j → ∀ k, 0 < k → k < n → (k - 1) / 2 = j → DE.le (h ((j - 1) / 2)) (h k))
/-- A heap but for the edges beneath i. -/
def HDown (h : Hp) (n i : Nat) : Prop :=
  (∀ k, 0 < k → k < n → (k - 1) / 2 ≠ i → DE.le (h ((k - 1) / 2)) (h k)) ∧ (0 < i → ∀ k, 0 < k → k < n → (k - 1) / 2 = i → DE.le (h ((i - 1) / 2)) (h k))
/-- A heap but for the edges at i. -/
def HAny (h : Hp) (n i : Nat) : Prop :=
  (∀ k, 0 < k → k < n → k ≠ i → (k - 1) / 2 ≠ i → DE.le (h ((k - 1) / 2)) (h k)) ∧ (0 < i → ∀ k, 0 < k → k < n → (k - 1) / 2 = i → DE.le (h ((i - 1) / 2)) (h k))

theorem HDown.any {h : Hp} {n i : Nat} (H : HDown h n i) : HAny h n i := ⟨fun k a b _ d => H.1 k a b d, H.2⟩

theorem HUp.step {h : Hp} {n j : Nat} (H : HUp h n j) (hj : 0 < j) (hn : j < n) (hl : DE.lt (h j) (h ((j - 1) / 2)) = true) : HUp (sw ((j - 1) / 2) j h) n ((j - 1) / 2) := by
  generalize hp : (j - 1) / 2 = p at *
  have hpj : p < j := by omega
  have hle := DE.le_of_lt hl
  refine ⟨fun k hk hkn hkp => ?_, fun hp0 k hk hkn hkp => ?_⟩
  · by_cases hkj : k = j
    · subst hkj; rw [hp, sw_l, sw_r]; exact hle
    · rw [sw_n h hkp hkj]
      by_cases h1 : (k - 1) / 2 = p
      · rw [h1, sw_l]; exact DE.le_trans hle (by have := H.1 k hk hkn hkj; rw [h1] at this; exact this)
      · by_cases h2 : (k - 1) / 2 = j
        · rw [h2, sw_r]; exact hp ▸ (H.2 hj k hk hkn h2)
        · rw [sw_n h h1 h2]; exact H.1 k hk hkn hkj
  · have hpp : (p - 1) / 2 < p := by omega
    rw [sw_n h (by omega) (by omega)]
    have hup := H.1 p hp0 (by omega) (by omega)
    by_cases hkj : k = j
    · subst hkj; rw [sw_r]; exact hup
    · rw [sw_n h (by omega) hkj]
      exact DE.le_trans hup (by have := H.1 k hk hkn hkj; rw [hkp] at this; exact this)

theorem HUp.stop {h : Hp} {n j : Nat} (H : HUp h n j) (hs : j = 0 ∨ DE.lt (h j) (h ((j - 1) / 2)) = false) : Heap h n := fun k hk hkn => by
  by_cases hkj : k = j
  · subst hkj
    rcases hs with rfl | hs
    · omega
    · exact DE.le_of_not hs
  · exact H.1 k hk hkn hkj

theorem HAny.step {h : Hp} {n i j : Nat} (H : HAny h n i) (hj : 0 < j) (hn : j < n) (hi : (j - 1) / 2 = i) (hl : DE.lt (h j) (h i) = true)
    (hmin : ∀ k, 0 < k → k < n → (k - 1) / 2 = i → DE.le (h j) (h k)) : HDown (sw i j h) n j := by
  have hij : i < j := by omega
  refine ⟨fun k hk hkn hkp => ?_, fun _ k hk hkn hkp => ?_⟩
  · by_cases hkj : k = j
    · subst hkj; rw [hi, sw_l, sw_r]; exact DE.le_of_lt hl
    · by_cases hki : k = i
      · subst hki
        rw [sw_l, sw_n h (by omega) (by omega)]
        exact H.2 hk j hj hn hi
      · rw [sw_n h hki hkj]
        by_cases h1 : (k - 1) / 2 = i
        · rw [h1, sw_l]; exact hmin k hk hkn h1
        · rw [sw_n h h1 hkp]; exact H.1 k hk hkn hki h1
  · rw [hi, sw_l, sw_n h (by omega) (by omega)]
    have := H.1 k hk hkn (by omega) (by omega)
    rw [hkp] at this; exact this

/-- Nothing beneath i is less: where nothing was moved. -/
theorem HAny.stay {h : Hp} {n i : Nat} (H : HAny h n i) (hs : ∀ k, 0 < k → k < n → (k - 1) / 2 = i → DE.le (h i) (h k)) : HUp h n i :=
  ⟨fun k hk hkn hki => by
    by_cases h1 : (k - 1) / 2 = i
    · rw [h1]; exact hs k hk hkn h1
    · exact H.1 k hk hkn hki h1, H.2⟩

theorem HDown.stop {h : Hp} {n i : Nat} (H : HDown h n i) (hs : ∀ k, 0 < k → k < n → (k - 1) / 2 = i → DE.le (h i) (h k)) : Heap h n := fun k hk hkn => by
  by_cases h1 : (k - 1) / 2 = i
  · rw [h1]; exact hs k hk hkn h1
  · exact H.1 k hk hkn h1

/-- The children of i: 2 i + 1 and 2 i + 2. -/
theorem child {k i : Nat} (hk : 0 < k) (h : (k - 1) / 2 = i) : k = 2 * i + 1 ∨ k = 2 * i + 2 := by omega

theorem Heap.root {h : Hp} {n : Nat} (H : Heap h n) : ∀ k, k < n → DE.le (h 0) (h k) := by
  intro k
  induction k using Nat.strongRecOn with
  | ind k ih =>
    intro hk
    by_cases h0 : k = 0
    · subst h0; exact DE.le_refl _
    · exact DE.le_trans (ih ((k - 1) / 2) (by omega) (by omega)) (H k (by omega) hk)

/-- Who is replaced leaves a heap but for the edges at its place. -/
theorem Heap.put {h h' : Hp} {n m i : Nat} (H : Heap h n) (hm : m ≤ n) (hn : i < n) (he : ∀ k, k < m → k ≠ i → h' k = h k) : HAny h' m i :=
  ⟨fun k hk hkm hki hkp => by rw [he k hkm hki, he _ (by omega) hkp]; exact H k hk (by omega),
   fun hi k hk hkm hkp => by
    by_cases him : i < m
    · rw [he _ (by omega) (by omega), he k hkm (by omega)]
      have h1 := H i hi hn
      have h2 := H k hk (by omega)
      rw [hkp] at h2
      exact DE.le_trans h1 h2
    · omega⟩

theorem Heap.few {h : Hp} {n m : Nat} (H : Heap h n) (hm : m ≤ n) : Heap h m := fun k hk hkm => H k hk (by omega)

theorem Heap.add {h h' : Hp} {n : Nat} (H : Heap h n) (he : ∀ k, k < n → h' k = h k) : HUp h' (n + 1) n :=
  ⟨fun k hk hkm hki => by rw [he k (by omega), he _ (by omega)]; exact H k hk (by omega), fun hi k hk hkm hkp => by omega⟩

/-- The same deadlines in other places; those from m on at theirs. -/
structure Rea (N m : Nat) (h0 h : Hp) : Prop where
  id : ∀ i j, i < N → j < N → (h i).id = (h j).id → i = j
  o : ∀ i j, i < N → j < N → (h i).o = (h j).o → i = j
  mem : ∀ e, (∃ i, i < N ∧ h i = e) ↔ (∃ i, i < N ∧ h0 i = e)
  top : ∀ k, m ≤ k → h k = h0 k

theorem sw_back (i j : Nat) (h : Hp) (k : Nat) : ∃ l, sw i j h k = h l ∧ l = (if k = i then j else if k = j then i else k) := by
  refine ⟨_, ?_, rfl⟩
  unfold sw
  split
  · rfl
  · split <;> rfl

theorem Rea.sw {N m i j : Nat} {h0 h : Hp} (R : Rea N m h0 h) (hi : i < m) (hj : j < m) (hm : m ≤ N) : Rea N m h0 (sw i j h) where
  id := fun a b ha hb he => by
    obtain ⟨x, hx, hx'⟩ := sw_back i j h a
    obtain ⟨y, hy, hy'⟩ := sw_back i j h b
    rw [hx, hy] at he
    have := R.id x y (by rw [hx']; split; omega; split <;> omega) (by rw [hy']; split; omega; split <;> omega) he
    rw [hx', hy'] at this
    split at this <;> split at this <;> (try split at this) <;> (try split at this) <;> omega
  o := fun a b ha hb he => by
    obtain ⟨x, hx, hx'⟩ := sw_back i j h a
    obtain ⟨y, hy, hy'⟩ := sw_back i j h b
    rw [hx, hy] at he
    have := R.o x y (by rw [hx']; split; omega; split <;> omega) (by rw [hy']; split; omega; split <;> omega) he
    rw [hx', hy'] at this
    split at this <;> split at this <;> (try split at this) <;> (try split at this) <;> omega
  mem := fun e => by
    rw [← R.mem e]
    constructor
    · rintro ⟨k, hk, rfl⟩
      obtain ⟨x, hx, hx'⟩ := sw_back i j h k
      exact ⟨x, by rw [hx']; split; omega; split <;> omega, hx.symm⟩
    · rintro ⟨k, hk, rfl⟩
      by_cases h1 : k = i
      · subst h1; exact ⟨j, by omega, sw_r _ _ _⟩
      · by_cases h2 : k = j
        · subst h2; exact ⟨i, by omega, sw_l _ _ _⟩
        · exact ⟨k, hk, sw_n h h1 h2⟩
  top := fun k hk => by rw [sw_n h (by omega) (by omega)]; exact R.top k hk

theorem Rea.refl {N m : Nat} {h : Hp} (h1 : ∀ i j, i < N → j < N → (h i).id = (h j).id → i = j) (h2 : ∀ i j, i < N → j < N → (h i).o = (h j).o → i = j) : Rea N m h h :=
  ⟨h1, h2, fun _ => Iff.rfl, fun _ _ => rfl⟩

theorem Rea.trans {N m : Nat} {h0 h1 h2 : Hp} (R : Rea N m h0 h1) (S : Rea N m h1 h2) : Rea N m h0 h2 :=
  ⟨S.id, S.o, fun e => (S.mem e).trans (R.mem e), fun k hk => (S.top k hk).trans (R.top k hk)⟩

end Go.Proofs.Ytbkgjghbmafoeaa
namespace Go.Proofs.Ytbkgjghbmafoeaa
open Go.RowKit

abbrev Tm := Int × Int

/-- x comes ahead of y: (id, time). -/
def tlt (x y : Tm) : Prop := x.2 < y.2 ∨ (x.2 = y.2 ∧ x.1 < y.1)
instance (x y : Tm) : Decidable (tlt x y) := inferInstanceAs (Decidable (_ ∨ _))

def ins (x : Tm) : List Tm → List Tm
  | [] => [x]
  | y :: ys => if tlt y x then y :: ins x ys else x :: y :: ys

def del (id : Int) (L : List Tm) : List Tm := L.filter fun y => decide (y.1 ≠ id)

/-- Sorted; each id once. -/
structure Srt (L : List Tm) : Prop where
  up : L.Pairwise tlt
  ids : (L.map (·.1)).Nodup

theorem mem_ins {x y : Tm} : ∀ {L : List Tm}, y ∈ ins x L ↔ y = x ∨ y ∈ L
  | [] => by simp [ins]
  | z :: L => by
    simp only [ins]
    split
    · rw [List.mem_cons, List.mem_cons, mem_ins (L := L)]
      constructor
      · rintro (h | h | h) <;> simp [h]
      · rintro (h | h | h) <;> simp [h]
    · rw [List.mem_cons]

theorem ins_length {x : Tm} : ∀ {L : List Tm}, (ins x L).length = L.length + 1
  | [] => rfl
  | z :: L => by
    simp only [ins]
    split
    · simp [ins_length (L := L)]
    · simp

theorem ins_perm {x : Tm} : ∀ {L : List Tm}, (ins x L).Perm (x :: L)
  | [] => List.Perm.refl _
  | z :: L => by
    simp only [ins]
    split
    · exact ((ins_perm (L := L)).cons z).trans (List.Perm.swap x z L)
    · exact List.Perm.refl _

theorem tlt_trans {x y z : Tm} (h : tlt x y) (k : tlt y z) : tlt x z := by unfold tlt at *; omega

theorem Srt.ins {x : Tm} {L : List Tm} (h : Srt L) (hx : ∀ y ∈ L, y.1 ≠ x.1) : Srt (ins x L) := by
  refine ⟨?_, ?_⟩
  · have hup := h.up
    clear h
    induction L with
    | nil => simp [Proofs.Ytbkgjghbmafoeaa.ins]
    | cons z L ih =>
      rw [List.pairwise_cons] at hup
      simp only [Proofs.Ytbkgjghbmafoeaa.ins]
      split
      · rename_i hz
        rw [List.pairwise_cons]
        refine ⟨fun y hy => ?_, ih (fun y hy => hx y (List.mem_cons_of_mem _ hy)) hup.2⟩
        rcases mem_ins.1 hy with rfl | hy
        · exact hz
        · exact hup.1 y hy
      · rename_i hz
        have hxz : tlt x z := by
          have := hx z List.mem_cons_self
          unfold tlt at hz ⊢; omega
        rw [List.pairwise_cons]
        refine ⟨fun y hy => ?_, List.pairwise_cons.2 hup⟩
        rcases List.mem_cons.1 hy with rfl | hy
        · exact hxz
        · exact tlt_trans hxz (hup.1 y hy)
  · have hp := (ins_perm (x := x) (L := L)).map (·.1)
    rw [hp.nodup_iff, List.map_cons, List.nodup_cons]
    refine ⟨fun hm => ?_, h.ids⟩
    obtain ⟨y, hy, hye⟩ := List.mem_map.1 hm
    exact hx y hy hye

theorem Srt.sub {L L' : List Tm} (h : Srt L) (k : L'.Sublist L) : Srt L' := ⟨h.up.sublist k, h.ids.sublist (k.map _)⟩

theorem Srt.del {L : List Tm} (h : Srt L) (id : Int) : Srt (del id L) := h.sub List.filter_sublist

theorem mem_del {id : Int} {L : List Tm} {y : Tm} : y ∈ del id L ↔ y ∈ L ∧ y.1 ≠ id := by simp [del]

theorem del_none {id : Int} {L : List Tm} (h : ∀ y ∈ L, y.1 ≠ id) : del id L = L := List.filter_eq_self.2 fun y hy => by simpa using h y hy

/-- The same members: the same list. -/
theorem Srt.eq : ∀ {L L' : List Tm}, Srt L → Srt L' → (∀ y, y ∈ L ↔ y ∈ L') → L = L'
  | [], [], _, _, _ => rfl
  | [], y :: L', _, _, h => by have := (h y).2 List.mem_cons_self; cases this
  | y :: L, [], _, _, h => by have := (h y).1 List.mem_cons_self; cases this
  | x :: L, y :: L', h1, h2, h => by
    have u1 := List.pairwise_cons.1 h1.up
    have u2 := List.pairwise_cons.1 h2.up
    have hxy : x = y := by
      rcases List.mem_cons.1 ((h x).1 List.mem_cons_self) with e | e
      · exact e
      · rcases List.mem_cons.1 ((h y).2 List.mem_cons_self) with e' | e'
        · exact e'.symm
        · have a := u2.1 x e
          have b := u1.1 y e'
          unfold tlt at a b; omega
    subst hxy
    have : L = L' := Srt.eq (h1.sub (List.sublist_cons_self x L)) (h2.sub (List.sublist_cons_self x L')) (fun z => by
      constructor
      · intro hz
        rcases List.mem_cons.1 ((h z).1 (List.mem_cons_of_mem _ hz)) with e | e
        · subst e; have := u1.1 z hz; unfold tlt at this; omega
        · exact e
      · intro hz
        rcases List.mem_cons.1 ((h z).2 (List.mem_cons_of_mem _ hz)) with e | e
        · subst e; have := u2.1 z hz; unfold tlt at this; omega
        · exact e)
    rw [this]

theorem Srt.nil : Srt [] := ⟨List.Pairwise.nil, by simp⟩

/-- The heap holds the list. -/
structure Rep (n : Nat) (h : Hp) (L : List Tm) : Prop where
  srt : Srt L
  mem : ∀ x : Tm, x ∈ L ↔ ∃ i, i < n ∧ ((h i).id, (h i).at_) = x
  len : L.length = n

theorem Rep.nil (h : Hp) : Rep 0 h [] := ⟨Srt.nil, fun x => by simp, rfl⟩

theorem Rep.look {n : Nat} {h : Hp} {L : List Tm} (R : Rep n h L) (id : Int) : (∃ y ∈ L, y.1 = id) ↔ ∃ i, i < n ∧ (h i).id = id := by
  constructor
  · rintro ⟨y, hy, rfl⟩
    obtain ⟨i, hi, rfl⟩ := (R.mem y).1 hy
    exact ⟨i, hi, rfl⟩
  · rintro ⟨i, hi, rfl⟩
    exact ⟨_, (R.mem _).2 ⟨i, hi, rfl⟩, rfl⟩

/-- The root is the first. -/
theorem Rep.first {n : Nat} {h : Hp} {x : Tm} {L : List Tm} (R : Rep n h (x :: L)) (hH : Heap h n) : 0 < n ∧ ((h 0).id, (h 0).at_) = x := by
  have hn : 0 < n := by rw [← R.len]; simp
  refine ⟨hn, ?_⟩
  obtain ⟨i, hi, hx⟩ := (R.mem x).1 List.mem_cons_self
  have hroot := hH.root i hi
  have h0 := (R.mem ((h 0).id, (h 0).at_)).2 ⟨0, hn, rfl⟩
  rcases List.mem_cons.1 h0 with e | e
  · exact e
  · have := (List.pairwise_cons.1 R.srt.up).1 _ e
    subst hx
    unfold DE.le at hroot
    unfold tlt at this
    simp only at this
    omega

/-- One more. -/
theorem Rep.add {n : Nat} {h h' : Hp} {L : List Tm} (R : Rep n h L) (d : DE) (hd : ∀ i, i < n → (h i).id ≠ d.id) (hm : ∀ e, (∃ i, i < n + 1 ∧ h' i = e) ↔ (e = d ∨ ∃ i, i < n ∧ h i = e)) : Rep (n + 1) h' (ins (d.id, d.at_) L) := by
  have hx : ∀ y ∈ L, y.1 ≠ d.id := fun y hy => by
    obtain ⟨i, hi, rfl⟩ := (R.mem y).1 hy
    exact hd i hi
  refine ⟨R.srt.ins hx, fun x => ?_, by rw [ins_length, R.len]⟩
  rw [mem_ins]
  constructor
  · rintro (rfl | hy)
    · obtain ⟨i, hi, he⟩ := (hm d).2 (.inl rfl)
      exact ⟨i, hi, by rw [he]⟩
    · obtain ⟨i, hi, rfl⟩ := (R.mem x).1 hy
      obtain ⟨j, hj, he⟩ := (hm (h i)).2 (.inr ⟨i, hi, rfl⟩)
      exact ⟨j, hj, by rw [he]⟩
  · rintro ⟨i, hi, rfl⟩
    rcases (hm (h' i)).1 ⟨i, hi, rfl⟩ with e | ⟨j, hj, e⟩
    · left; rw [e]
    · right; exact (R.mem _).2 ⟨j, hj, by rw [e]⟩

theorem del_length {id : Int} : ∀ {L : List Tm}, (L.map (·.1)).Nodup → (∃ y ∈ L, y.1 = id) → (del id L).length + 1 = L.length
  | [], _, h => by obtain ⟨y, hy, _⟩ := h; cases hy
  | z :: L, hnd, hex => by
    simp only [List.map_cons, List.nodup_cons] at hnd
    by_cases hz : z.1 = id
    · have : del id L = L := del_none fun y hy e => hnd.1 (by rw [hz, ← e]; exact List.mem_map_of_mem hy)
      have h2 : del id (z :: L) = del id L := by simp [del, hz]
      rw [h2, this]; rfl
    · have h2 : del id (z :: L) = z :: del id L := by simp [del, hz]
      obtain ⟨y, hy, hye⟩ := hex
      rcases List.mem_cons.1 hy with e | e
      · subst e; exact absurd hye hz
      · rw [h2, List.length_cons, List.length_cons, ← del_length hnd.2 ⟨y, e, hye⟩]

/-- One less. -/
theorem Rep.gone {n i : Nat} {h h' : Hp} {L : List Tm} (R : Rep (n + 1) h L) (hi : i < n + 1)
    (R' : Rea (n + 1) (n + 1) h h') (hl : h' n = h i) : Rep n h' (del (h i).id L) := by
  have hmem : ∀ x : Tm, x ∈ del (h i).id L ↔ ∃ j, j < n ∧ ((h' j).id, (h' j).at_) = x := fun x => by
    rw [mem_del]
    constructor
    · rintro ⟨hx, hne⟩
      obtain ⟨j, hj, rfl⟩ := (R.mem x).1 hx
      obtain ⟨k, hk, he⟩ := (R'.mem (h j)).2 ⟨j, hj, rfl⟩
      refine ⟨k, ?_, by rw [he]⟩
      have : k ≠ n := fun e => hne (by rw [← he, e, hl])
      omega
    · rintro ⟨j, hj, rfl⟩
      obtain ⟨k, hk, he⟩ := (R'.mem (h' j)).1 ⟨j, by omega, rfl⟩
      refine ⟨(R.mem _).2 ⟨k, hk, by rw [he]⟩, fun e => ?_⟩
      have := R'.id j n (by omega) (by omega) (by rw [hl]; exact e)
      omega
  refine ⟨R.srt.del _, hmem, ?_⟩
  have := del_length R.srt.ids ((R.look _).2 ⟨i, hi, rfl⟩)
  have := R.len
  omega

/-- One's time is another. -/
theorem Rep.put {n i : Nat} {h h' : Hp} {L : List Tm} (R : Rep n h L) (hid : ∀ a b, a < n → b < n → (h a).id = (h b).id → a = b) (hi : i < n) (t : Int)
    (he : ∀ k, k < n → k ≠ i → h' k = h k) (hi' : (h' i).id = (h i).id ∧ (h' i).at_ = t) : Rep n h' (ins ((h i).id, t) (del (h i).id L)) := by
  have hx : ∀ y ∈ del (h i).id L, y.1 ≠ (h i).id := fun y hy => (mem_del.1 hy).2
  have hlen := del_length R.srt.ids ((R.look _).2 ⟨i, hi, rfl⟩)
  refine ⟨(R.srt.del _).ins hx, fun x => ?_, by rw [ins_length, hlen, R.len]⟩
  rw [mem_ins, mem_del]
  constructor
  · rintro (rfl | ⟨hm, hne⟩)
    · exact ⟨i, hi, by rw [hi'.1, hi'.2]⟩
    · obtain ⟨k, hk, rfl⟩ := (R.mem x).1 hm
      have hki : k ≠ i := fun e => hne (by rw [e])
      exact ⟨k, hk, by rw [he k hk hki]⟩
  · rintro ⟨k, hk, rfl⟩
    by_cases hki : k = i
    · subst hki; left; rw [hi'.1, hi'.2]
    · right
      rw [he k hk hki]
      exact ⟨(R.mem _).2 ⟨k, hk, rfl⟩, fun e => hki (hid k i hk hi e)⟩

end Go.Proofs.Ytbkgjghbmafoeaa
namespace Go.Proofs.Ytbkgjghbmafoeaa
open Go.RowKit

/-- A key: protocol; source and destination, two words each; their ports. -/
abbrev FKey := Int × Int × Int × Int × Int × Int × Int

instance instD2 : DecidableEq (Int × Int) := inferInstance
instance instD3 : DecidableEq (Int × Int × Int) := inferInstance
instance instD4 : DecidableEq (Int × Int × Int × Int) := inferInstance
instance instD5 : DecidableEq (Int × Int × Int × Int × Int) := inferInstance
instance instD6 : DecidableEq (Int × Int × Int × Int × Int × Int) := inferInstance
instance instKey : DecidableEq FKey := inferInstanceAs (DecidableEq (Int × Int × Int × Int × Int × Int × Int))
instance instT1 : DecidableEq (FKey × Int × Int × Int × Int × Int) := inferInstance
instance instT2 : DecidableEq (FKey × FKey × Int × Int × Int × Int × Int) := inferInstance

def turned (k : FKey) : FKey := (k.1, k.2.2.2.1, k.2.2.2.2.1, k.2.1, k.2.2.1, k.2.2.2.2.2.2, k.2.2.2.2.2.1)
theorem turned_turned (k : FKey) : turned (turned k) = k := rfl

structure Fl where
  id : Int
  opn : FKey
  bck : FKey
  inn : Int
  out : Int
  rule : Int
  state : Int
  ends : Int

def Fl.tup (f : Fl) : Int × FKey × FKey × Int × Int × Int × Int × Int := (f.id, f.opn, f.bck, f.inn, f.out, f.rule, f.state, f.ends)
theorem Fl.tup_inj {f g : Fl} (h : f.tup = g.tup) : f = g := by
  cases f; cases g; simp only [Fl.tup, Prod.mk.injEq] at h
  obtain ⟨h1, h2, h3, h4, h5, h6, h7, h8⟩ := h
  subst h1 h2 h3 h4 h5 h6 h7 h8; rfl
instance instT3 : DecidableEq (Int × FKey × FKey × Int × Int × Int × Int × Int) := inferInstance
instance instFl : DecidableEq Fl := fun f g => decidable_of_iff (f.tup = g.tup) ⟨Fl.tup_inj, fun h => by rw [h]⟩

/-- Of the state, whether it may go. -/
def Fl.weak (f : Fl) : Prop := f.state = 0 ∨ f.state = 2
instance (f : Fl) : Decidable f.weak := inferInstanceAs (Decidable (_ ∨ _))

def ft (f : Fl) : Tm := (f.id, f.ends)

/-- Which flow has the key; whether it is its Back. -/
def fnd : List Fl → FKey → Option (Fl × Bool)
  | [], _ => none
  | f :: L, k => if f.opn = k then some (f, false) else if f.bck = k then some (f, true) else fnd L k

def tkn (L : List Fl) (k : FKey) : Bool := (fnd L k).isSome

theorem fnd_none {k : FKey} : ∀ {L : List Fl}, fnd L k = none ↔ ∀ f ∈ L, f.opn ≠ k ∧ f.bck ≠ k
  | [] => by simp [fnd]
  | f :: L => by
    simp only [fnd]
    split
    · rename_i h; simp [h]
    · rename_i h
      split
      · rename_i h2; simp [h2]
      · rename_i h2
        rw [fnd_none]; simp [h, h2]

theorem fnd_some {k : FKey} {x : Fl × Bool} : ∀ {L : List Fl}, fnd L k = some x → x.1 ∈ L ∧ (x.2 = false ∧ x.1.opn = k ∨ x.2 = true ∧ x.1.bck = k)
  | [], h => by simp [fnd] at h
  | f :: L, h => by
    simp only [fnd] at h
    split at h
    · rename_i e; simp only [Option.some.injEq] at h; subst h; exact ⟨List.mem_cons_self, .inl ⟨rfl, e⟩⟩
    · split at h
      · rename_i e; simp only [Option.some.injEq] at h; subst h; exact ⟨List.mem_cons_self, .inr ⟨rfl, e⟩⟩
      · obtain ⟨h1, h2⟩ := fnd_some h; exact ⟨List.mem_cons_of_mem _ h1, h2⟩

theorem tkn_iff {L : List Fl} {k : FKey} : tkn L k = true ↔ ∃ f ∈ L, f.opn = k ∨ f.bck = k := by
  unfold tkn
  cases h : fnd L k with
  | none =>
    have := fnd_none.1 h
    simp only [Option.isSome_none, Bool.false_eq_true, false_iff, not_exists, not_and]
    rintro f hf (e | e)
    · exact (this f hf).1 e
    · exact (this f hf).2 e
  | some x =>
    obtain ⟨h1, h2⟩ := fnd_some h
    simp only [Option.isSome_some, true_iff]
    exact ⟨x.1, h1, by rcases h2 with h2 | h2 <;> simp [h2.2]⟩

theorem tkn_false {L : List Fl} {k : FKey} : tkn L k = false ↔ ∀ f ∈ L, f.opn ≠ k ∧ f.bck ≠ k := by
  rw [← fnd_none]; unfold tkn; cases fnd L k <;> simp

/-- By rising numbers from 1 to 48; no key belongs to two. -/
structure FOk (L : List Fl) : Prop where
  ids : L.Pairwise fun a b => a.id < b.id
  rng : ∀ f ∈ L, 1 ≤ f.id ∧ f.id ≤ 48
  ob : ∀ f ∈ L, ∀ g ∈ L, f.opn ≠ g.bck
  oo : ∀ f ∈ L, ∀ g ∈ L, f.opn = g.opn → f = g
  bb : ∀ f ∈ L, ∀ g ∈ L, f.bck = g.bck → f = g

theorem FOk.nil : FOk [] := ⟨List.Pairwise.nil, by simp, by simp, by simp, by simp⟩

theorem FOk.sub {L M : List Fl} (h : FOk L) (k : M.Sublist L) : FOk M :=
  ⟨h.ids.sublist k, fun f hf => h.rng f (k.subset hf), fun f hf g hg => h.ob f (k.subset hf) g (k.subset hg), fun f hf g hg => h.oo f (k.subset hf) g (k.subset hg), fun f hf g hg => h.bb f (k.subset hf) g (k.subset hg)⟩

theorem FOk.tail {f : Fl} {L : List Fl} (h : FOk (f :: L)) : FOk L := h.sub (List.sublist_cons_self f L)

theorem ids_inj : ∀ {L : List Fl}, L.Pairwise (fun a b => a.id < b.id) → ∀ f ∈ L, ∀ g ∈ L, f.id = g.id → f = g
  | [], _, f, hf, _, _, _ => by cases hf
  | x :: L, h, f, hf, g, hg, e => by
    have hp := List.pairwise_cons.1 h
    rcases List.mem_cons.1 hf with e1 | hf' <;> rcases List.mem_cons.1 hg with e2 | hg'
    · rw [e1, e2]
    · have := hp.1 g hg'; rw [e1] at e; omega
    · have := hp.1 f hf'; rw [e2] at e; omega
    · exact ids_inj hp.2 f hf' g hg' e

theorem FOk.inj {L : List Fl} (h : FOk L) {f g : Fl} (hf : f ∈ L) (hg : g ∈ L) (e : f.id = g.id) : f = g := ids_inj h.ids f hf g hg e

theorem len_le_of_ids {lo hi : Int} : ∀ {L : List Fl}, L.Pairwise (fun a b => a.id < b.id) → (∀ f ∈ L, lo ≤ f.id ∧ f.id ≤ hi) → (L.length : Int) ≤ max 0 (hi - lo + 1)
  | [], _, _ => by simp; omega
  | x :: L, h, hr => by
    have hp := List.pairwise_cons.1 h
    have hx := hr x List.mem_cons_self
    have := len_le_of_ids (lo := x.id + 1) (hi := hi) hp.2 (fun f hf => ⟨by have := hp.1 f hf; omega, (hr f (List.mem_cons_of_mem _ hf)).2⟩)
    simp only [List.length_cons]; omega

theorem FOk.few {L : List Fl} (h : FOk L) : L.length ≤ 48 := by
  have := len_le_of_ids h.ids h.rng; omega

theorem FOk.fnd_opn {L : List Fl} (h : FOk L) {f : Fl} (hf : f ∈ L) : fnd L f.opn = some (f, false) := by
  cases hq : fnd L f.opn with
  | none => exact absurd rfl ((fnd_none.1 hq) f hf).1
  | some x =>
    obtain ⟨h1, h2⟩ := fnd_some hq
    rcases h2 with ⟨h2, h3⟩ | ⟨h2, h3⟩
    · obtain ⟨g, b⟩ := x
      simp only at h1 h2 h3
      subst h2
      rw [h.oo g h1 f hf h3]
    · exact absurd h3.symm (h.ob f hf x.1 h1)

theorem FOk.fnd_bck {L : List Fl} (h : FOk L) {f : Fl} (hf : f ∈ L) : fnd L f.bck = some (f, true) := by
  cases hq : fnd L f.bck with
  | none => exact absurd rfl ((fnd_none.1 hq) f hf).2
  | some x =>
    obtain ⟨h1, h2⟩ := fnd_some hq
    rcases h2 with ⟨h2, h3⟩ | ⟨h2, h3⟩
    · exact absurd h3 (h.ob x.1 h1 f hf)
    · obtain ⟨g, b⟩ := x
      simp only at h1 h2 h3
      subst h2
      rw [h.bb g h1 f hf h3]

/-! ### Drop -/
def dropF (id : Int) (L : List Fl) : List Fl := L.filter fun f => decide (f.id ≠ id)

theorem mem_dropF {id : Int} {L : List Fl} {f : Fl} : f ∈ dropF id L ↔ f ∈ L ∧ f.id ≠ id := by simp [dropF]
theorem FOk.drop {L : List Fl} (h : FOk L) (id : Int) : FOk (dropF id L) := h.sub List.filter_sublist

theorem dropF_none {id : Int} {L : List Fl} (h : ∀ f ∈ L, f.id ≠ id) : dropF id L = L := List.filter_eq_self.2 fun f hf => by simpa using h f hf

theorem dropF_length {L : List Fl} (h : L.Pairwise fun a b => a.id < b.id) {g : Fl} (hg : g ∈ L) : (dropF g.id L).length + 1 = L.length := by
  induction L with
  | nil => cases hg
  | cons x L ih =>
    have hp := List.pairwise_cons.1 h
    rcases List.mem_cons.1 hg with rfl | hg
    · have : dropF g.id L = L := dropF_none fun f hf => by have := hp.1 f hf; omega
      have h2 : dropF g.id (g :: L) = dropF g.id L := by simp [dropF]
      rw [h2, this]; rfl
    · have hne : x.id ≠ g.id := by have := hp.1 g hg; omega
      have h2 : dropF g.id (x :: L) = x :: dropF g.id L := by simp [dropF, hne]
      rw [h2, List.length_cons, List.length_cons, ← ih hp.2 hg]

theorem ft_dropF (id : Int) (L : List Fl) : (dropF id L).map ft = del id (L.map ft) := by
  unfold dropF del; rw [List.filter_map]; rfl

theorem fnd_dropF {L : List Fl} (h : FOk L) {g : Fl} (hg : g ∈ L) (k : FKey) : fnd (dropF g.id L) k = if k = g.opn ∨ k = g.bck then none else fnd L k := by
  by_cases hk : k = g.opn ∨ k = g.bck
  · rw [if_pos hk, fnd_none]
    intro f hf
    obtain ⟨hf, hne⟩ := mem_dropF.1 hf
    rcases hk with rfl | rfl
    · exact ⟨fun e => hne (by rw [h.oo f hf g hg e]), fun e => h.ob g hg f hf e.symm⟩
    · exact ⟨fun e => h.ob f hf g hg e, fun e => hne (by rw [h.bb f hf g hg e])⟩
  · rw [if_neg hk]
    simp only [not_or] at hk
    cases hq : fnd L k with
    | none => rw [fnd_none] at hq ⊢; exact fun f hf => hq f (mem_dropF.1 hf).1
    | some x =>
      obtain ⟨h1, h2⟩ := fnd_some hq
      have hne : x.1.id ≠ g.id := fun e => by
        have := h.inj h1 hg e
        rcases h2 with ⟨_, h3⟩ | ⟨_, h3⟩
        · exact hk.1 (by rw [← h3, this])
        · exact hk.2 (by rw [← h3, this])
      have hm : x.1 ∈ dropF g.id L := mem_dropF.2 ⟨h1, hne⟩
      obtain ⟨y, b⟩ := x
      rcases h2 with ⟨h2, h3⟩ | ⟨h2, h3⟩
      · simp only at h2 h3 hm; subst h2; rw [← h3]; exact (h.drop g.id).fnd_opn hm
      · simp only at h2 h3 hm; subst h2; rw [← h3]; exact (h.drop g.id).fnd_bck hm

/-! ### Set -/
def turnF (id st en : Int) (f : Fl) : Fl := if f.id = id then { f with state := st, ends := en } else f
def setF (id st en : Int) (L : List Fl) : List Fl := L.map (turnF id st en)

theorem turnF_id (id st en : Int) (f : Fl) : (turnF id st en f).id = f.id := by unfold turnF; split <;> rfl
theorem turnF_opn (id st en : Int) (f : Fl) : (turnF id st en f).opn = f.opn := by unfold turnF; split <;> rfl
theorem turnF_bck (id st en : Int) (f : Fl) : (turnF id st en f).bck = f.bck := by unfold turnF; split <;> rfl

theorem FOk.set {L : List Fl} (h : FOk L) (id st en : Int) : FOk (setF id st en L) := by
  refine ⟨?_, ?_, ?_, ?_, ?_⟩
  · unfold setF; rw [List.pairwise_map]; exact h.ids.imp fun {a b} k => by rw [turnF_id, turnF_id]; exact k
  · intro f hf
    obtain ⟨g, hg, rfl⟩ := List.mem_map.1 hf
    rw [turnF_id]; exact h.rng g hg
  · intro f hf g hg
    obtain ⟨f', hf', rfl⟩ := List.mem_map.1 hf
    obtain ⟨g', hg', rfl⟩ := List.mem_map.1 hg
    rw [turnF_opn, turnF_bck]; exact h.ob f' hf' g' hg'
  · intro f hf g hg e
    obtain ⟨f', hf', rfl⟩ := List.mem_map.1 hf
    obtain ⟨g', hg', rfl⟩ := List.mem_map.1 hg
    rw [turnF_opn, turnF_opn] at e
    rw [h.oo f' hf' g' hg' e]
  · intro f hf g hg e
    obtain ⟨f', hf', rfl⟩ := List.mem_map.1 hf
    obtain ⟨g', hg', rfl⟩ := List.mem_map.1 hg
    rw [turnF_bck, turnF_bck] at e
    rw [h.bb f' hf' g' hg' e]

theorem fnd_setF (id st en : Int) (k : FKey) : ∀ (L : List Fl), fnd (setF id st en L) k = (fnd L k).map fun x => (turnF id st en x.1, x.2)
  | [] => rfl
  | f :: L => by
    simp only [setF, List.map_cons, fnd, turnF_opn, turnF_bck]
    split
    · rfl
    · split
      · rfl
      · exact fnd_setF id st en k L

theorem setF_none {id st en : Int} {L : List Fl} (h : ∀ f ∈ L, f.id ≠ id) : setF id st en L = L := by
  unfold setF
  conv => rhs; rw [← List.map_id L]
  exact List.map_congr_left fun f hf => by simp [turnF, h f hf]

/-! ### Room -/
/-- The least number from n on that none has (of a list by rising numbers from n on). -/
def free : Int → List Fl → Int
  | n, [] => n
  | n, f :: L => if f.id = n then free (n + 1) L else n

/-- f with that number, in its place. -/
def insF (f : Fl) : Int → List Fl → List Fl
  | n, [] => [{ f with id := n }]
  | n, g :: L => if g.id = n then g :: insF f (n + 1) L else { f with id := n } :: g :: L

theorem free_ge : ∀ {L : List Fl} {n : Int}, n ≤ free n L
  | [], n => Int.le_refl n
  | f :: L, n => by
    simp only [free]
    split
    · have := free_ge (L := L) (n := n + 1); omega
    · exact Int.le_refl n

theorem free_le : ∀ {L : List Fl} {n : Int}, free n L ≤ n + L.length
  | [], n => by simp [free]
  | f :: L, n => by
    simp only [free]
    split
    · have := free_le (L := L) (n := n + 1); simp; omega
    · simp; omega

theorem free_not : ∀ {L : List Fl} {n : Int}, L.Pairwise (fun a b => a.id < b.id) → (∀ f ∈ L, n ≤ f.id) → ∀ f ∈ L, f.id ≠ free n L
  | [], _, _, _, f, hf => by cases hf
  | x :: L, n, h, hn, f, hf => by
    have hp := List.pairwise_cons.1 h
    simp only [free]
    split
    · rename_i hx
      have hge := free_ge (L := L) (n := n + 1)
      rcases List.mem_cons.1 hf with rfl | hf
      · omega
      · exact free_not hp.2 (fun g hg => by have := hp.1 g hg; omega) f hf
    · rename_i hx
      have := hn x List.mem_cons_self
      rcases List.mem_cons.1 hf with rfl | hf
      · exact hx
      · have := hp.1 f hf; omega

theorem free_below : ∀ {L : List Fl} {n m : Int}, n ≤ m → m < free n L → ∃ f ∈ L, f.id = m
  | [], n, m, h1, h2 => by simp only [free] at h2; omega
  | x :: L, n, m, h1, h2 => by
    simp only [free] at h2
    split at h2
    · rename_i hx
      by_cases hm : m = n
      · exact ⟨x, List.mem_cons_self, by omega⟩
      · obtain ⟨f, hf, he⟩ := free_below (L := L) (n := n + 1) (m := m) (by omega) h2
        exact ⟨f, List.mem_cons_of_mem _ hf, he⟩
    · omega

theorem mem_insF {f g : Fl} : ∀ {L : List Fl} {n : Int}, g ∈ insF f n L ↔ g = { f with id := free n L } ∨ g ∈ L
  | [], n => by simp [insF, free]
  | x :: L, n => by
    simp only [insF, free]
    split
    · rw [List.mem_cons, List.mem_cons, mem_insF (L := L)]
      constructor
      · rintro (h | h | h) <;> simp [h]
      · rintro (h | h | h) <;> simp [h]
    · rw [List.mem_cons]

theorem insF_length {f : Fl} : ∀ {L : List Fl} {n : Int}, (insF f n L).length = L.length + 1
  | [], _ => rfl
  | x :: L, n => by
    simp only [insF]
    split
    · simp [insF_length (L := L)]
    · simp

theorem insF_perm {f : Fl} : ∀ {L : List Fl} {n : Int}, (insF f n L).Perm ({ f with id := free n L } :: L)
  | [], _ => List.Perm.refl _
  | x :: L, n => by
    simp only [insF, free]
    split
    · exact ((insF_perm (L := L)).cons x).trans (List.Perm.swap _ _ _)
    · exact List.Perm.refl _

theorem insF_ids {f : Fl} : ∀ {L : List Fl} {n : Int}, L.Pairwise (fun a b => a.id < b.id) → (∀ g ∈ L, n ≤ g.id) → (insF f n L).Pairwise fun a b => a.id < b.id
  | [], _, _, _ => by simp [insF]
  | x :: L, n, h, hn => by
    have hp := List.pairwise_cons.1 h
    simp only [insF]
    split
    · rename_i hx
      refine List.pairwise_cons.2 ⟨fun g hg => ?_, insF_ids hp.2 (fun g hg => by have := hp.1 g hg; omega)⟩
      rcases mem_insF.1 hg with rfl | hg
      · have := free_ge (L := L) (n := n + 1); simp only; omega
      · exact hp.1 g hg
    · rename_i hx
      refine List.pairwise_cons.2 ⟨fun g hg => ?_, h⟩
      have := hn x List.mem_cons_self
      rcases List.mem_cons.1 hg with rfl | hg
      · simp only; omega
      · have := hp.1 g hg; simp only; omega

theorem FOk.ins {L : List Fl} (h : FOk L) {f : Fl} (ho : tkn L f.opn = false) (hb : tkn L f.bck = false) (hne : f.opn ≠ f.bck) (hl : L.length < 48) : FOk (insF f 1 L) := by
  have ho := tkn_false.1 ho
  have hb := tkn_false.1 hb
  have hge := free_ge (L := L) (n := 1)
  have hle := free_le (L := L) (n := 1)
  refine ⟨insF_ids h.ids (fun g hg => (h.rng g hg).1), fun g hg => ?_, fun g hg k hk => ?_, fun g hg k hk e => ?_, fun g hg k hk e => ?_⟩
  · rcases mem_insF.1 hg with rfl | hg
    · simp only; omega
    · exact h.rng g hg
  · rcases mem_insF.1 hg with rfl | hg <;> rcases mem_insF.1 hk with rfl | hk
    · exact hne
    · exact fun e => (ho k hk).2 e.symm
    · exact fun e => (hb g hg).1 e
    · exact h.ob g hg k hk
  · rcases mem_insF.1 hg with rfl | hg <;> rcases mem_insF.1 hk with rfl | hk
    · rfl
    · exact absurd e.symm (ho k hk).1
    · exact absurd e (ho g hg).1
    · exact h.oo g hg k hk e
  · rcases mem_insF.1 hg with rfl | hg <;> rcases mem_insF.1 hk with rfl | hk
    · rfl
    · exact absurd e.symm (hb k hk).2
    · exact absurd e (hb g hg).2
    · exact h.bb g hg k hk e

theorem fnd_insF {L : List Fl} (h : FOk L) {f : Fl} (ho : tkn L f.opn = false) (hb : tkn L f.bck = false) (hne : f.opn ≠ f.bck) (hl : L.length < 48) (k : FKey) :
    fnd (insF f 1 L) k = if k = f.opn then some ({ f with id := free 1 L }, false) else if k = f.bck then some ({ f with id := free 1 L }, true) else fnd L k := by
  have hk := h.ins ho hb hne hl
  have hm : ({ f with id := free 1 L } : Fl) ∈ insF f 1 L := mem_insF.2 (.inl rfl)
  by_cases h1 : k = f.opn
  · rw [if_pos h1, h1]; exact hk.fnd_opn hm
  · rw [if_neg h1]
    by_cases h2 : k = f.bck
    · rw [if_pos h2, h2]; exact hk.fnd_bck hm
    · rw [if_neg h2]
      cases hq : fnd L k with
      | none =>
        rw [fnd_none] at hq ⊢
        intro g hg
        rcases mem_insF.1 hg with rfl | hg
        · exact ⟨fun e => h1 e.symm, fun e => h2 e.symm⟩
        · exact hq g hg
      | some x =>
        obtain ⟨h3, h4⟩ := fnd_some hq
        obtain ⟨y, b⟩ := x
        rcases h4 with ⟨h4, h5⟩ | ⟨h4, h5⟩
        · simp only at h3 h4 h5; subst h4; rw [← h5]; exact hk.fnd_opn (mem_insF.2 (.inr h3))
        · simp only at h3 h4 h5; subst h4; rw [← h5]; exact hk.fnd_bck (mem_insF.2 (.inr h3))

/-! ### Who goes -/
def beats (f : Fl) : Option Fl → Bool
  | none => true
  | some g => decide (f.ends < g.ends)
def vic1 (b : Option Fl) (f : Fl) : Option Fl := if f.weak ∧ beats f b = true then some f else b
def vic (L : List Fl) : Option Fl := L.foldl vic1 none

theorem vic1_cases (b : Option Fl) (f : Fl) : vic1 b f = b ∨ (vic1 b f = some f ∧ f.weak) := by
  unfold vic1; split
  · rename_i h; exact .inr ⟨rfl, h.1⟩
  · exact .inl rfl

theorem vic_fold : ∀ (L : List Fl) (b : Option Fl) (f : Fl), L.foldl vic1 b = some f → b = some f ∨ (f ∈ L ∧ f.weak)
  | [], b, f, h => .inl h
  | x :: L, b, f, h => by
    rcases vic_fold L (vic1 b x) f h with h | h
    · rcases vic1_cases b x with e | ⟨e, hw⟩
      · rw [e] at h; exact .inl h
      · rw [e] at h; simp only [Option.some.injEq] at h; subst h; exact .inr ⟨List.mem_cons_self, hw⟩
    · exact .inr ⟨List.mem_cons_of_mem _ h.1, h.2⟩

theorem vic_mem {L : List Fl} {f : Fl} (h : vic L = some f) : f ∈ L ∧ f.weak := (vic_fold L none f h).resolve_left (by simp)

theorem vic_fold_some : ∀ (L : List Fl) (g : Fl), ∃ f, L.foldl vic1 (some g) = some f
  | [], g => ⟨g, rfl⟩
  | x :: L, g => by
    rcases vic1_cases (some g) x with e | ⟨e, _⟩
    · rw [List.foldl_cons, e]; exact vic_fold_some L g
    · rw [List.foldl_cons, e]; exact vic_fold_some L x

theorem vic_none : ∀ {L : List Fl}, vic L = none → ∀ f ∈ L, ¬ f.weak
  | [], _, f, hf => by cases hf
  | x :: L, h, f, hf => by
    unfold vic at h
    rw [List.foldl_cons] at h
    by_cases hw : x.weak
    · have : vic1 none x = some x := by simp [vic1, hw, beats]
      rw [this] at h
      obtain ⟨y, hy⟩ := vic_fold_some L x
      rw [hy] at h; cases h
    · have : vic1 none x = none := by simp [vic1, hw]
      rw [this] at h
      rcases List.mem_cons.1 hf with rfl | hf
      · exact hw
      · exact vic_none h f hf

/-! ### Add -/
/-- P14.2: the number, who went, the error, what is there then. -/
def addF (L : List Fl) (f : Fl) : Int × Int × Int × List Fl :=
  if tkn L f.opn = true ∨ tkn L f.bck = true ∨ f.opn = f.bck then (0, 0, 63, L)
  else if L.length = 48 then
    match vic L with
    | none => (0, 0, 120, L)
    | some g => (free 1 (dropF g.id L), g.id, 0, insF f 1 (dropF g.id L))
  else (free 1 L, 0, 0, insF f 1 L)

theorem FOk.add {L : List Fl} (h : FOk L) (f : Fl) : FOk (addF L f).2.2.2 := by
  unfold addF
  split
  · exact h
  · rename_i hn
    simp only [not_or, Bool.not_eq_true] at hn
    split
    · split
      · exact h
      · rename_i g hg
        have hm := (vic_mem hg).1
        have hl := dropF_length h.ids hm
        have := h.few
        refine (h.drop g.id).ins (tkn_false.2 fun x hx => ?_) (tkn_false.2 fun x hx => ?_) hn.2.2 (by omega)
        · exact tkn_false.1 hn.1 x (mem_dropF.1 hx).1
        · exact tkn_false.1 hn.2.1 x (mem_dropF.1 hx).1
    · have := h.few
      exact h.ins hn.1 hn.2.1 hn.2.2 (by omega)

/-! ### What is due -/
def liveF (now : Int) (L : List Fl) : List Fl := L.filter fun f => decide (¬ f.ends ≤ now)
theorem FOk.live {L : List Fl} (h : FOk L) (now : Int) : FOk (liveF now L) := h.sub List.filter_sublist
end Go.Proofs.Ytbkgjghbmafoeaa
namespace Go.Proofs.Ytbkgjghbmafoeaa
open Go.RowKit

/-- Those whose number is at most k. -/
def upto (k : Int) (L : List Fl) : List Fl := L.filter fun f => decide (f.id ≤ k)

theorem upto_zero {L : List Fl} (h : FOk L) : upto 0 L = [] := by
  unfold upto; rw [List.filter_eq_nil_iff]
  intro f hf; have := h.rng f hf; simp; omega
theorem upto_all {L : List Fl} (h : FOk L) {k : Int} (hk : 48 ≤ k) : upto k L = L := List.filter_eq_self.2 fun f hf => by
  have := h.rng f hf; simp; omega

theorem upto_same {k : Int} {L : List Fl} (h : ∀ f ∈ L, f.id ≠ k + 1) : upto (k + 1) L = upto k L := by
  unfold upto
  refine List.filter_congr fun f hf => ?_
  have := h f hf
  rw [Bool.eq_iff_iff]; simp; omega

theorem upto_snoc {k : Int} : ∀ {L : List Fl}, L.Pairwise (fun a b => a.id < b.id) → ∀ {f : Fl}, f ∈ L → f.id = k + 1 → upto (k + 1) L = upto k L ++ [f]
  | [], _, f, hf, _ => by cases hf
  | x :: L, h, f, hf, he => by
    have hp := List.pairwise_cons.1 h
    rcases List.mem_cons.1 hf with rfl | hf
    · have h1 : upto (k + 1) L = [] := by
        unfold upto; rw [List.filter_eq_nil_iff]; intro g hg; have := hp.1 g hg; simp; omega
      have h2 : upto k L = [] := by
        unfold upto; rw [List.filter_eq_nil_iff]; intro g hg; have := hp.1 g hg; simp; omega
      have h3 : upto (k + 1) (f :: L) = f :: upto (k + 1) L := by unfold upto; rw [List.filter_cons, if_pos (by simp; omega)]
      have h4 : upto k (f :: L) = upto k L := by unfold upto; rw [List.filter_cons, if_neg (by simp; omega)]
      rw [h3, h4, h1, h2]; rfl
    · have hx : x.id ≤ k := by have := hp.1 f hf; omega
      have h3 : upto (k + 1) (x :: L) = x :: upto (k + 1) L := by unfold upto; rw [List.filter_cons, if_pos (by simp; omega)]
      have h4 : upto k (x :: L) = x :: upto k L := by unfold upto; rw [List.filter_cons, if_pos (by simp; omega)]
      rw [h3, h4, upto_snoc hp.2 hf he]; rfl

theorem mem_upto {k : Int} {L : List Fl} {f : Fl} : f ∈ upto k L ↔ f ∈ L ∧ f.id ≤ k := by simp [upto]

def best (k : Int) (L : List Fl) : Option Fl := vic (upto k L)
def idOf : Option Fl → Int
  | none => 0
  | some f => f.id

theorem best_none {k : Int} {L : List Fl} (h : ∀ f ∈ L, f.id ≠ k + 1) : best (k + 1) L = best k L := by unfold best; rw [upto_same h]
theorem best_snoc {k : Int} {L : List Fl} (h : FOk L) {f : Fl} (hf : f ∈ L) (he : f.id = k + 1) : best (k + 1) L = vic1 (best k L) f := by
  unfold best vic; rw [upto_snoc h.ids hf he, List.foldl_append]; rfl
theorem best_mem {k : Int} {L : List Fl} {f : Fl} (h : best k L = some f) : f ∈ L := (mem_upto.1 (vic_mem h).1).1
end Go.Proofs.Ytbkgjghbmafoeaa
