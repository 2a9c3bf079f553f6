/- The plain law of a heap: what sifting up and down keeps, and what it brings about. No program in sight. -/
import Derived.IntWalk
namespace Go.Proofs.Ytbkgjghbmafoeaa
open Go.RowKit

/-- A deadline: its id, its time, its block. -/
structure DE where
  id : Int
  at_ : Int
  o : Nat

def DE.lt (a b : DE) : Bool := decide (a.at_ < b.at_) || (a.at_ == b.at_ && decide (a.id < b.id))
def DE.le (a b : DE) : Prop := a.at_ < b.at_ ∨ (a.at_ = b.at_ ∧ a.id ≤ b.id)

theorem DE.lt_iff {a b : DE} : DE.lt a b = true ↔ (a.at_ < b.at_ ∨ (a.at_ = b.at_ ∧ a.id < b.id)) := by simp [DE.lt]
theorem DE.le_of_lt {a b : DE} (h : DE.lt a b = true) : DE.le a b := by rw [DE.lt_iff] at h; unfold DE.le; omega
theorem DE.le_of_not {a b : DE} (h : DE.lt a b = false) : DE.le b a := by
  have : ¬ DE.lt a b = true := by simp [h]
  rw [DE.lt_iff] at this; unfold DE.le; omega
theorem DE.le_trans {a b c : DE} (h : DE.le a b) (k : DE.le b c) : DE.le a c := by unfold DE.le at *; omega
theorem DE.le_refl (a : DE) : DE.le a a := by unfold DE.le; omega

abbrev Hp := Nat → DE

def sw (i j : Nat) (h : Hp) : Hp := fun k => if k = i then h j else if k = j then h i else h k

theorem sw_l (i j : Nat) (h : Hp) : sw i j h i = h j := by simp [sw]
theorem sw_r (i j : Nat) (h : Hp) : sw i j h j = h i := by unfold sw; split <;> simp_all
theorem sw_n {i j k : Nat} (h : Hp) (hi : k ≠ i) (hj : k ≠ j) : sw i j h k = h k := by simp [sw, hi, hj]
theorem sw_self (i : Nat) (h : Hp) : sw i i h = h := by funext k; unfold sw; split <;> simp_all

def Heap (h : Hp) (n : Nat) : Prop := ∀ k, 0 < k → k < n → DE.le (h ((k - 1) / 2)) (h k)
/-- A heap but for the edge above j. -/
def HUp (h : Hp) (n j : Nat) : Prop :=
  (∀ k, 0 < k → k < n → k ≠ j → DE.le (h ((k - 1) / 2)) (h k)) ∧ (0 < j → ∀ k, 0 < k → k < n → (k - 1) / 2 = j → DE.le (h ((j - 1) / 2)) (h k))
/-- A heap but for the edges beneath i. -/
def HDown (h : Hp) (n i : Nat) : Prop :=
  (∀ k, 0 < k → k < n → (k - 1) / 2 ≠ i → DE.le (h ((k - 1) / 2)) (h k)) ∧ (0 < i → ∀ k, 0 < k → k < n → (k - 1) / 2 = i → DE.le (h ((i - 1) / 2)) (h k))
/-- A heap but for the edges at i. -/
def HAny (h : Hp) (n i : Nat) : Prop :=
  (∀ k, 0 < k → k < n → k ≠ i → (k - 1) / 2 ≠ i → DE.le (h ((k - 1) / 2)) (h k)) ∧ (0 < i → ∀ k, 0 < k → k < n → (k - 1) / 2 = i → DE.le (h ((i - 1) / 2)) (h k))

theorem HDown.any {h : Hp} {n i : Nat} (H : HDown h n i) : HAny h n i := ⟨fun k a b _ d => H.1 k a b d, H.2⟩

theorem HUp.step {h : Hp} {n j : Nat} (H : HUp h n j) (hj : 0 < j) (hn : j < n) (hl : DE.lt (h j) (h ((j - 1) / 2)) = true) : HUp (sw ((j - 1) / 2) j h) n ((j - 1) / 2) := by
  generalize hp : (j - 1) / 2 = p at *
  have hpj : p < j := by omega
  have hle := DE.le_of_lt hl
  refine ⟨fun k hk hkn hkp => ?_, fun hp0 k hk hkn hkp => ?_⟩
  · by_cases hkj : k = j
    · subst hkj; rw [hp, sw_l, sw_r]; exact hle
    · rw [sw_n h hkp hkj]
      by_cases h1 : (k - 1) / 2 = p
      · rw [h1, sw_l]; exact DE.le_trans hle (by have := H.1 k hk hkn hkj; rw [h1] at this; exact this)
      · by_cases h2 : (k - 1) / 2 = j
        · rw [h2, sw_r]; exact hp ▸ (H.2 hj k hk hkn h2)
        · rw [sw_n h h1 h2]; exact H.1 k hk hkn hkj
  · have hpp : (p - 1) / 2 < p := by omega
    rw [sw_n h (by omega) (by omega)]
    have hup := H.1 p hp0 (by omega) (by omega)
    by_cases hkj : k = j
    · subst hkj; rw [sw_r]; exact hup
    · rw [sw_n h (by omega) hkj]
      exact DE.le_trans hup (by have := H.1 k hk hkn hkj; rw [hkp] at this; exact this)

theorem HUp.stop {h : Hp} {n j : Nat} (H : HUp h n j) (hs : j = 0 ∨ DE.lt (h j) (h ((j - 1) / 2)) = false) : Heap h n := fun k hk hkn => by
  by_cases hkj : k = j
  · subst hkj
    rcases hs with rfl | hs
    · omega
    · exact DE.le_of_not hs
  · exact H.1 k hk hkn hkj

theorem HAny.step {h : Hp} {n i j : Nat} (H : HAny h n i) (hj : 0 < j) (hn : j < n) (hi : (j - 1) / 2 = i) (hl : DE.lt (h j) (h i) = true)
    (hmin : ∀ k, 0 < k → k < n → (k - 1) / 2 = i → DE.le (h j) (h k)) : HDown (sw i j h) n j := by
  have hij : i < j := by omega
  refine ⟨fun k hk hkn hkp => ?_, fun _ k hk hkn hkp => ?_⟩
  · by_cases hkj : k = j
    · subst hkj; rw [hi, sw_l, sw_r]; exact DE.le_of_lt hl
    · by_cases hki : k = i
      · subst hki
        rw [sw_l, sw_n h (by omega) (by omega)]
        exact H.2 hk j hj hn hi
      · rw [sw_n h hki hkj]
        by_cases h1 : (k - 1) / 2 = i
        · rw [h1, sw_l]; exact hmin k hk hkn h1
        · rw [sw_n h h1 hkp]; exact H.1 k hk hkn hki h1
  · rw [hi, sw_l, sw_n h (by omega) (by omega)]
    have := H.1 k hk hkn (by omega) (by omega)
    rw [hkp] at this; exact this

/-- Nothing beneath i is less: where nothing was moved. -/
theorem HAny.stay {h : Hp} {n i : Nat} (H : HAny h n i) (hs : ∀ k, 0 < k → k < n → (k - 1) / 2 = i → DE.le (h i) (h k)) : HUp h n i :=
  ⟨fun k hk hkn hki => by
    by_cases h1 : (k - 1) / 2 = i
    · rw [h1]; exact hs k hk hkn h1
    · exact H.1 k hk hkn hki h1, H.2⟩

theorem HDown.stop {h : Hp} {n i : Nat} (H : HDown h n i) (hs : ∀ k, 0 < k → k < n → (k - 1) / 2 = i → DE.le (h i) (h k)) : Heap h n := fun k hk hkn => by
  by_cases h1 : (k - 1) / 2 = i
  · rw [h1]; exact hs k hk hkn h1
  · exact H.1 k hk hkn h1

/-- The children of i: 2 i + 1 and 2 i + 2. -/
theorem child {k i : Nat} (hk : 0 < k) (h : (k - 1) / 2 = i) : k = 2 * i + 1 ∨ k = 2 * i + 2 := by omega

theorem Heap.root {h : Hp} {n : Nat} (H : Heap h n) : ∀ k, k < n → DE.le (h 0) (h k) := by
  intro k
  induction k using Nat.strongRecOn with
  | ind k ih =>
    intro hk
    by_cases h0 : k = 0
    · subst h0; exact DE.le_refl _
    · exact DE.le_trans (ih ((k - 1) / 2) (by omega) (by omega)) (H k (by omega) hk)

/-- Who is replaced leaves a heap but for the edges at its place. -/
theorem Heap.put {h h' : Hp} {n m i : Nat} (H : Heap h n) (hm : m ≤ n) (hn : i < n) (he : ∀ k, k < m → k ≠ i → h' k = h k) : HAny h' m i :=
  ⟨fun k hk hkm hki hkp => by rw [he k hkm hki, he _ (by omega) hkp]; exact H k hk (by omega),
   fun hi k hk hkm hkp => by
    by_cases him : i < m
    · rw [he _ (by omega) (by omega), he k hkm (by omega)]
      have h1 := H i hi hn
      have h2 := H k hk (by omega)
      rw [hkp] at h2
      exact DE.le_trans h1 h2
    · omega⟩

theorem Heap.few {h : Hp} {n m : Nat} (H : Heap h n) (hm : m ≤ n) : Heap h m := fun k hk hkm => H k hk (by omega)

theorem Heap.add {h h' : Hp} {n : Nat} (H : Heap h n) (he : ∀ k, k < n → h' k = h k) : HUp h' (n + 1) n :=
  ⟨fun k hk hkm hki => by rw [he k (by omega), he _ (by omega)]; exact H k hk (by omega), fun hi k hk hkm hkp => by omega⟩

/-- The same deadlines in other places; those from m on at theirs. -/
structure Rea (N m : Nat) (h0 h : Hp) : Prop where
  id : ∀ i j, i < N → j < N → (h i).id = (h j).id → i = j
  o : ∀ i j, i < N → j < N → (h i).o = (h j).o → i = j
  mem : ∀ e, (∃ i, i < N ∧ h i = e) ↔ (∃ i, i < N ∧ h0 i = e)
  top : ∀ k, m ≤ k → h k = h0 k

theorem sw_back (i j : Nat) (h : Hp) (k : Nat) : ∃ l, sw i j h k = h l ∧ l = (if k = i then j else if k = j then i else k) := by
  refine ⟨_, ?_, rfl⟩
  unfold sw
  split
  · rfl
  · split <;> rfl

theorem Rea.sw {N m i j : Nat} {h0 h : Hp} (R : Rea N m h0 h) (hi : i < m) (hj : j < m) (hm : m ≤ N) : Rea N m h0 (sw i j h) where
  id := fun a b ha hb he => by
    obtain ⟨x, hx, hx'⟩ := sw_back i j h a
    obtain ⟨y, hy, hy'⟩ := sw_back i j h b
    rw [hx, hy] at he
    have := R.id x y (by rw [hx']; split; omega; split <;> omega) (by rw [hy']; split; omega; split <;> omega) he
    rw [hx', hy'] at this
    split at this <;> split at this <;> (try split at this) <;> (try split at this) <;> omega
  o := fun a b ha hb he => by
    obtain ⟨x, hx, hx'⟩ := sw_back i j h a
    obtain ⟨y, hy, hy'⟩ := sw_back i j h b
    rw [hx, hy] at he
    have := R.o x y (by rw [hx']; split; omega; split <;> omega) (by rw [hy']; split; omega; split <;> omega) he
    rw [hx', hy'] at this
    split at this <;> split at this <;> (try split at this) <;> (try split at this) <;> omega
  mem := fun e => by
    rw [← R.mem e]
    constructor
    · rintro ⟨k, hk, rfl⟩
      obtain ⟨x, hx, hx'⟩ := sw_back i j h k
      exact ⟨x, by rw [hx']; split; omega; split <;> omega, hx.symm⟩
    · rintro ⟨k, hk, rfl⟩
      by_cases h1 : k = i
      · subst h1; exact ⟨j, by omega, sw_r _ _ _⟩
      · by_cases h2 : k = j
        · subst h2; exact ⟨i, by omega, sw_l _ _ _⟩
        · exact ⟨k, hk, sw_n h h1 h2⟩
  top := fun k hk => by rw [sw_n h (by omega) (by omega)]; exact R.top k hk

theorem Rea.refl {N m : Nat} {h : Hp} (h1 : ∀ i j, i < N → j < N → (h i).id = (h j).id → i = j) (h2 : ∀ i j, i < N → j < N → (h i).o = (h j).o → i = j) : Rea N m h h :=
  ⟨h1, h2, fun _ => Iff.rfl, fun _ _ => rfl⟩

theorem Rea.trans {N m : Nat} {h0 h1 h2 : Hp} (R : Rea N m h0 h1) (S : Rea N m h1 h2) : Rea N m h0 h2 :=
  ⟨S.id, S.o, fun e => (S.mem e).trans (R.mem e), fun k hk => (S.top k hk).trans (R.top k hk)⟩

end Go.Proofs.Ytbkgjghbmafoeaa
