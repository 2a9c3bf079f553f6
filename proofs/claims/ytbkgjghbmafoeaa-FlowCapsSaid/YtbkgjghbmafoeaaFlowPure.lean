/- The plain law of a table of flows: a list by rising numbers. No program in sight. -/
import Derived.Test.YtbkgjghbmafoeaaWheelPure
namespace Go.Proofs.Ytbkgjghbmafoeaa
open Go.RowKit

/-- A key: protocol; source and destination, two words each; their ports. -/
abbrev FKey := Int × Int × Int × Int × Int × Int × Int

instance instD2 : DecidableEq (Int × Int) := inferInstance
instance instD3 : DecidableEq (Int × Int × Int) := inferInstance
instance instD4 : DecidableEq (Int × Int × Int × Int) := inferInstance
instance instD5 : DecidableEq (Int × Int × Int × Int × Int) := inferInstance
instance instD6 : DecidableEq (Int × Int × Int × Int × Int × Int) := inferInstance
instance instKey : DecidableEq FKey := inferInstanceAs (DecidableEq (Int × Int × Int × Int × Int × Int × Int))
instance instT1 : DecidableEq (FKey × Int × Int × Int × Int × Int) := inferInstance
instance instT2 : DecidableEq (FKey × FKey × Int × Int × Int × Int × Int) := inferInstance

def turned (k : FKey) : FKey := (k.1, k.2.2.2.1, k.2.2.2.2.1, k.2.1, k.2.2.1, k.2.2.2.2.2.2, k.2.2.2.2.2.1)
theorem turned_turned (k : FKey) : turned (turned k) = k := rfl

structure Fl where
  id : Int
  opn : FKey
  bck : FKey
  inn : Int
  out : Int
  rule : Int
  state : Int
  ends : Int

def Fl.tup (f : Fl) : Int × FKey × FKey × Int × Int × Int × Int × Int := (f.id, f.opn, f.bck, f.inn, f.out, f.rule, f.state, f.ends)
theorem Fl.tup_inj {f g : Fl} (h : f.tup = g.tup) : f = g := by
  cases f; cases g; simp only [Fl.tup, Prod.mk.injEq] at h
  obtain ⟨h1, h2, h3, h4, h5, h6, h7, h8⟩ := h
  subst h1 h2 h3 h4 h5 h6 h7 h8; rfl
instance instT3 : DecidableEq (Int × FKey × FKey × Int × Int × Int × Int × Int) := inferInstance
instance instFl : DecidableEq Fl := fun f g => decidable_of_iff (f.tup = g.tup) ⟨Fl.tup_inj, fun h => by rw [h]⟩

/-- Of the state, whether it may go. -/
def Fl.weak (f : Fl) : Prop := f.state = 0 ∨ f.state = 2
instance (f : Fl) : Decidable f.weak := inferInstanceAs (Decidable (_ ∨ _))

def ft (f : Fl) : Tm := (f.id, f.ends)

/-- Which flow has the key; whether it is its Back. -/
def fnd : List Fl → FKey → Option (Fl × Bool)
  | [], _ => none
  | f :: L, k => if f.opn = k then some (f, false) else if f.bck = k then some (f, true) else fnd L k

def tkn (L : List Fl) (k : FKey) : Bool := (fnd L k).isSome

theorem fnd_none {k : FKey} : ∀ {L : List Fl}, fnd L k = none ↔ ∀ f ∈ L, f.opn ≠ k ∧ f.bck ≠ k
  | [] => by simp [fnd]
  | f :: L => by
    simp only [fnd]
    split
    · rename_i h; simp [h]
    · rename_i h
      split
      · rename_i h2; simp [h2]
      · rename_i h2
        rw [fnd_none]; simp [h, h2]

theorem fnd_some {k : FKey} {x : Fl × Bool} : ∀ {L : List Fl}, fnd L k = some x → x.1 ∈ L ∧ (x.2 = false ∧ x.1.opn = k ∨ x.2 = true ∧ x.1.bck = k)
  | [], h => by simp [fnd] at h
  | f :: L, h => by
    simp only [fnd] at h
    split at h
    · rename_i e; simp only [Option.some.injEq] at h; subst h; exact ⟨List.mem_cons_self, .inl ⟨rfl, e⟩⟩
    · split at h
      · rename_i e; simp only [Option.some.injEq] at h; subst h; exact ⟨List.mem_cons_self, .inr ⟨rfl, e⟩⟩
      · obtain ⟨h1, h2⟩ := fnd_some h; exact ⟨List.mem_cons_of_mem _ h1, h2⟩

theorem tkn_iff {L : List Fl} {k : FKey} : tkn L k = true ↔ ∃ f ∈ L, f.opn = k ∨ f.bck = k := by
  unfold tkn
  cases h : fnd L k with
  | none =>
    have := fnd_none.1 h
    simp only [Option.isSome_none, Bool.false_eq_true, false_iff, not_exists, not_and]
    rintro f hf (e | e)
    · exact (this f hf).1 e
    · exact (this f hf).2 e
  | some x =>
    obtain ⟨h1, h2⟩ := fnd_some h
    simp only [Option.isSome_some, true_iff]
    exact ⟨x.1, h1, by rcases h2 with h2 | h2 <;> simp [h2.2]⟩

theorem tkn_false {L : List Fl} {k : FKey} : tkn L k = false ↔ ∀ f ∈ L, f.opn ≠ k ∧ f.bck ≠ k := by
  rw [← fnd_none]; unfold tkn; cases fnd L k <;> simp

/-- By rising numbers from 1 to 48; no key belongs to two. -/
structure FOk (L : List Fl) : Prop where
  ids : L.Pairwise fun a b => a.id < b.id
  rng : ∀ f ∈ L, 1 ≤ f.id ∧ f.id ≤ 48
  ob : ∀ f ∈ L, ∀ g ∈ L, f.opn ≠ g.bck
  oo : ∀ f ∈ L, ∀ g ∈ L, f.opn = g.opn → f = g
  bb : ∀ f ∈ L, ∀ g ∈ L, f.bck = g.bck → f = g

theorem FOk.nil : FOk [] := ⟨List.Pairwise.nil, by simp, by simp, by simp, by simp⟩

theorem FOk.sub {L M : List Fl} (h : FOk L) (k : M.Sublist L) : FOk M :=
  ⟨h.ids.sublist k, fun f hf => h.rng f (k.subset hf), fun f hf g hg => h.ob f (k.subset hf) g (k.subset hg), fun f hf g hg => h.oo f (k.subset hf) g (k.subset hg), fun f hf g hg => h.bb f (k.subset hf) g (k.subset hg)⟩

theorem FOk.tail {f : Fl} {L : List Fl} (h : FOk (f :: L)) : FOk L := h.sub (List.sublist_cons_self f L)

theorem ids_inj : ∀ {L : List Fl}, L.Pairwise (fun a b => a.id < b.id) → ∀ f ∈ L, ∀ g ∈ L, f.id = g.id → f = g
  | [], _, f, hf, _, _, _ => by cases hf
  | x :: L, h, f, hf, g, hg, e => by
    have hp := List.pairwise_cons.1 h
    rcases List.mem_cons.1 hf with e1 | hf' <;> rcases List.mem_cons.1 hg with e2 | hg'
    · rw [e1, e2]
    · have := hp.1 g hg'; rw [e1] at e; omega
    · have := hp.1 f hf'; rw [e2] at e; omega
    · exact ids_inj hp.2 f hf' g hg' e

theorem FOk.inj {L : List Fl} (h : FOk L) {f g : Fl} (hf : f ∈ L) (hg : g ∈ L) (e : f.id = g.id) : f = g := ids_inj h.ids f hf g hg e

theorem len_le_of_ids {lo hi : Int} : ∀ {L : List Fl}, L.Pairwise (fun a b => a.id < b.id) → (∀ f ∈ L, lo ≤ f.id ∧ f.id ≤ hi) → (L.length : Int) ≤ max 0 (hi - lo + 1)
  | [], _, _ => by simp; omega
  | x :: L, h, hr => by
    have hp := List.pairwise_cons.1 h
    have hx := hr x List.mem_cons_self
    have := len_le_of_ids (lo := x.id + 1) (hi := hi) hp.2 (fun f hf => ⟨by have := hp.1 f hf; omega, (hr f (List.mem_cons_of_mem _ hf)).2⟩)
    simp only [List.length_cons]; omega

theorem FOk.few {L : List Fl} (h : FOk L) : L.length ≤ 48 := by
  have := len_le_of_ids h.ids h.rng; omega

theorem FOk.fnd_opn {L : List Fl} (h : FOk L) {f : Fl} (hf : f ∈ L) : fnd L f.opn = some (f, false) := by
  cases hq : fnd L f.opn with
  | none => exact absurd rfl ((fnd_none.1 hq) f hf).1
  | some x =>
    obtain ⟨h1, h2⟩ := fnd_some hq
    rcases h2 with ⟨h2, h3⟩ | ⟨h2, h3⟩
    · obtain ⟨g, b⟩ := x
      simp only at h1 h2 h3
      subst h2
      rw [h.oo g h1 f hf h3]
    · exact absurd h3.symm (h.ob f hf x.1 h1)

theorem FOk.fnd_bck {L : List Fl} (h : FOk L) {f : Fl} (hf : f ∈ L) : fnd L f.bck = some (f, true) := by
  cases hq : fnd L f.bck with
  | none => exact absurd rfl ((fnd_none.1 hq) f hf).2
  | some x =>
    obtain ⟨h1, h2⟩ := fnd_some hq
    rcases h2 with ⟨h2, h3⟩ | ⟨h2, h3⟩
    · exact absurd h3 (h.ob x.1 h1 f hf)
    · obtain ⟨g, b⟩ := x
      simp only at h1 h2 h3
      subst h2
      rw [h.bb g h1 f hf h3]

/-! ### Drop -/
def dropF (id : Int) (L : List Fl) : List Fl := L.filter fun f => decide (f.id ≠ id)

theorem mem_dropF {id : Int} {L : List Fl} {f : Fl} : f ∈ dropF id L ↔ f ∈ L ∧ f.id ≠ id := by simp [dropF]
theorem FOk.drop {L : List Fl} (h : FOk L) (id : Int) : FOk (dropF id L) := h.sub List.filter_sublist

theorem dropF_none {id : Int} {L : List Fl} (h : ∀ f ∈ L, f.id ≠ id) : dropF id L = L := List.filter_eq_self.2 fun f hf => by simpa using h f hf

theorem dropF_length {L : List Fl} (h : L.Pairwise fun a b => a.id < b.id) {g : Fl} (hg : g ∈ L) : (dropF g.id L).length + 1 = L.length := by
  induction L with
  | nil => cases hg
  | cons x L ih =>
    have hp := List.pairwise_cons.1 h
    rcases List.mem_cons.1 hg with rfl | hg
    · have : dropF g.id L = L := dropF_none fun f hf => by have := hp.1 f hf; omega
      have h2 : dropF g.id (g :: L) = dropF g.id L := by simp [dropF]
      rw [h2, this]; rfl
    · have hne : x.id ≠ g.id := by have := hp.1 g hg; omega
      have h2 : dropF g.id (x :: L) = x :: dropF g.id L := by simp [dropF, hne]
      rw [h2, List.length_cons, List.length_cons, ← ih hp.2 hg]

theorem ft_dropF (id : Int) (L : List Fl) : (dropF id L).map ft = del id (L.map ft) := by
  unfold dropF del; rw [List.filter_map]; rfl

theorem fnd_dropF {L : List Fl} (h : FOk L) {g : Fl} (hg : g ∈ L) (k : FKey) : fnd (dropF g.id L) k = if k = g.opn ∨ k = g.bck then none else fnd L k := by
  by_cases hk : k = g.opn ∨ k = g.bck
  · rw [if_pos hk, fnd_none]
    intro f hf
    obtain ⟨hf, hne⟩ := mem_dropF.1 hf
    rcases hk with rfl | rfl
    · exact ⟨fun e => hne (by rw [h.oo f hf g hg e]), fun e => h.ob g hg f hf e.symm⟩
    · exact ⟨fun e => h.ob f hf g hg e, fun e => hne (by rw [h.bb f hf g hg e])⟩
  · rw [if_neg hk]
    simp only [not_or] at hk
    cases hq : fnd L k with
    | none => rw [fnd_none] at hq ⊢; exact fun f hf => hq f (mem_dropF.1 hf).1
    | some x =>
      obtain ⟨h1, h2⟩ := fnd_some hq
      have hne : x.1.id ≠ g.id := fun e => by
        have := h.inj h1 hg e
        rcases h2 with ⟨_, h3⟩ | ⟨_, h3⟩
        · exact hk.1 (by rw [← h3, this])
        · exact hk.2 (by rw [← h3, this])
      have hm : x.1 ∈ dropF g.id L := mem_dropF.2 ⟨h1, hne⟩
      obtain ⟨y, b⟩ := x
      rcases h2 with ⟨h2, h3⟩ | ⟨h2, h3⟩
      · simp only at h2 h3 hm; subst h2; rw [← h3]; exact (h.drop g.id).fnd_opn hm
      · simp only at h2 h3 hm; subst h2; rw [← h3]; exact (h.drop g.id).fnd_bck hm

/-! ### Set -/
def turnF (id st en : Int) (f : Fl) : Fl := if f.id = id then { f with state := st, ends := en } else f
def setF (id st en : Int) (L : List Fl) : List Fl := L.map (turnF id st en)

theorem turnF_id (id st en : Int) (f : Fl) : (turnF id st en f).id = f.id := by unfold turnF; split <;> rfl
theorem turnF_opn (id st en : Int) (f : Fl) : (turnF id st en f).opn = f.opn := by unfold turnF; split <;> rfl
theorem turnF_bck (id st en : Int) (f : Fl) : (turnF id st en f).bck = f.bck := by unfold turnF; split <;> rfl

theorem FOk.set {L : List Fl} (h : FOk L) (id st en : Int) : FOk (setF id st en L) := by
  refine ⟨?_, ?_, ?_, ?_, ?_⟩
  · unfold setF; rw [List.pairwise_map]; exact h.ids.imp fun {a b} k => by rw [turnF_id, turnF_id]; exact k
  · intro f hf
    obtain ⟨g, hg, rfl⟩ := List.mem_map.1 hf
    rw [turnF_id]; exact h.rng g hg
  · intro f hf g hg
    obtain ⟨f', hf', rfl⟩ := List.mem_map.1 hf
    obtain ⟨g', hg', rfl⟩ := List.mem_map.1 hg
    rw [turnF_opn, turnF_bck]; exact h.ob f' hf' g' hg'
  · intro f hf g hg e
    obtain ⟨f', hf', rfl⟩ := List.mem_map.1 hf
    obtain ⟨g', hg', rfl⟩ := List.mem_map.1 hg
    rw [turnF_opn, turnF_opn] at e
    rw [h.oo f' hf' g' hg' e]
  · intro f hf g hg e
    obtain ⟨f', hf', rfl⟩ := List.mem_map.1 hf
    obtain ⟨g', hg', rfl⟩ := List.mem_map.1 hg
    rw [turnF_bck, turnF_bck] at e
    rw [h.bb f' hf' g' hg' e]

theorem fnd_setF (id st en : Int) (k : FKey) : ∀ (L : List Fl), fnd (setF id st en L) k = (fnd L k).map fun x => (turnF id st en x.1, x.2)
  | [] => rfl
  | f :: L => by
    simp only [setF, List.map_cons, fnd, turnF_opn, turnF_bck]
    split
    · rfl
    · split
      · rfl
      · exact fnd_setF id st en k L

theorem setF_none {id st en : Int} {L : List Fl} (h : ∀ f ∈ L, f.id ≠ id) : setF id st en L = L := by
  unfold setF
  conv => rhs; rw [← List.map_id L]
  exact List.map_congr_left fun f hf => by simp [turnF, h f hf]

/-! ### Room -/
/-- The least number from n on that none has (of a list by rising numbers from n on). -/
def free : Int → List Fl → Int
  | n, [] => n
  | n, f :: L => if f.id = n then free (n + 1) L else n

/-- f with that number, in its place. -/
def insF (f : Fl) : Int → List Fl → List Fl
  | n, [] => [{ f with id := n }]
  | n, g :: L => if g.id = n then g :: insF f (n + 1) L else { f with id := n } :: g :: L

theorem free_ge : ∀ {L : List Fl} {n : Int}, n ≤ free n L
  | [], n => Int.le_refl n
  | f :: L, n => by
    simp only [free]
    split
    · have := free_ge (L := L) (n := n + 1); omega
    · exact Int.le_refl n

theorem free_le : ∀ {L : List Fl} {n : Int}, free n L ≤ n + L.length
  | [], n => by simp [free]
  | f :: L, n => by
    simp only [free]
    split
    · have := free_le (L := L) (n := n + 1); simp; omega
    · simp; omega

theorem free_not : ∀ {L : List Fl} {n : Int}, L.Pairwise (fun a b => a.id < b.id) → (∀ f ∈ L, n ≤ f.id) → ∀ f ∈ L, f.id ≠ free n L
  | [], _, _, _, f, hf => by cases hf
  | x :: L, n, h, hn, f, hf => by
    have hp := List.pairwise_cons.1 h
    simp only [free]
    split
    · rename_i hx
      have hge := free_ge (L := L) (n := n + 1)
      rcases List.mem_cons.1 hf with rfl | hf
      · omega
      · exact free_not hp.2 (fun g hg => by have := hp.1 g hg; omega) f hf
    · rename_i hx
      have := hn x List.mem_cons_self
      rcases List.mem_cons.1 hf with rfl | hf
      · exact hx
      · have := hp.1 f hf; omega

theorem free_below : ∀ {L : List Fl} {n m : Int}, n ≤ m → m < free n L → ∃ f ∈ L, f.id = m
  | [], n, m, h1, h2 => by simp only [free] at h2; omega
  | x :: L, n, m, h1, h2 => by
    simp only [free] at h2
    split at h2
    · rename_i hx
      by_cases hm : m = n
      · exact ⟨x, List.mem_cons_self, by omega⟩
      · obtain ⟨f, hf, he⟩ := free_below (L := L) (n := n + 1) (m := m) (by omega) h2
        exact ⟨f, List.mem_cons_of_mem _ hf, he⟩
    · omega

theorem mem_insF {f g : Fl} : ∀ {L : List Fl} {n : Int}, g ∈ insF f n L ↔ g = { f with id := free n L } ∨ g ∈ L
  | [], n => by simp [insF, free]
  | x :: L, n => by
    simp only [insF, free]
    split
    · rw [List.mem_cons, List.mem_cons, mem_insF (L := L)]
      constructor
      · rintro (h | h | h) <;> simp [h]
      · rintro (h | h | h) <;> simp [h]
    · rw [List.mem_cons]

theorem insF_length {f : Fl} : ∀ {L : List Fl} {n : Int}, (insF f n L).length = L.length + 1
  | [], _ => rfl
  | x :: L, n => by
    simp only [insF]
    split
    · simp [insF_length (L := L)]
    · simp

theorem insF_perm {f : Fl} : ∀ {L : List Fl} {n : Int}, (insF f n L).Perm ({ f with id := free n L } :: L)
  | [], _ => List.Perm.refl _
  | x :: L, n => by
    simp only [insF, free]
    split
    · exact ((insF_perm (L := L)).cons x).trans (List.Perm.swap _ _ _)
    · exact List.Perm.refl _

theorem insF_ids {f : Fl} : ∀ {L : List Fl} {n : Int}, L.Pairwise (fun a b => a.id < b.id) → (∀ g ∈ L, n ≤ g.id) → (insF f n L).Pairwise fun a b => a.id < b.id
  | [], _, _, _ => by simp [insF]
  | x :: L, n, h, hn => by
    have hp := List.pairwise_cons.1 h
    simp only [insF]
    split
    · rename_i hx
      refine List.pairwise_cons.2 ⟨fun g hg => ?_, insF_ids hp.2 (fun g hg => by have := hp.1 g hg; omega)⟩
      rcases mem_insF.1 hg with rfl | hg
      · have := free_ge (L := L) (n := n + 1); simp only; omega
      · exact hp.1 g hg
    · rename_i hx
      refine List.pairwise_cons.2 ⟨fun g hg => ?_, h⟩
      have := hn x List.mem_cons_self
      rcases List.mem_cons.1 hg with rfl | hg
      · simp only; omega
      · have := hp.1 g hg; simp only; omega

theorem FOk.ins {L : List Fl} (h : FOk L) {f : Fl} (ho : tkn L f.opn = false) (hb : tkn L f.bck = false) (hne : f.opn ≠ f.bck) (hl : L.length < 48) : FOk (insF f 1 L) := by
  have ho := tkn_false.1 ho
  have hb := tkn_false.1 hb
  have hge := free_ge (L := L) (n := 1)
  have hle := free_le (L := L) (n := 1)
  refine ⟨insF_ids h.ids (fun g hg => (h.rng g hg).1), fun g hg => ?_, fun g hg k hk => ?_, fun g hg k hk e => ?_, fun g hg k hk e => ?_⟩
  · rcases mem_insF.1 hg with rfl | hg
    · simp only; omega
    · exact h.rng g hg
  · rcases mem_insF.1 hg with rfl | hg <;> rcases mem_insF.1 hk with rfl | hk
    · exact hne
    · exact fun e => (ho k hk).2 e.symm
    · exact fun e => (hb g hg).1 e
    · exact h.ob g hg k hk
  · rcases mem_insF.1 hg with rfl | hg <;> rcases mem_insF.1 hk with rfl | hk
    · rfl
    · exact absurd e.symm (ho k hk).1
    · exact absurd e (ho g hg).1
    · exact h.oo g hg k hk e
  · rcases mem_insF.1 hg with rfl | hg <;> rcases mem_insF.1 hk with rfl | hk
    · rfl
    · exact absurd e.symm (hb k hk).2
    · exact absurd e (hb g hg).2
    · exact h.bb g hg k hk e

theorem fnd_insF {L : List Fl} (h : FOk L) {f : Fl} (ho : tkn L f.opn = false) (hb : tkn L f.bck = false) (hne : f.opn ≠ f.bck) (hl : L.length < 48) (k : FKey) :
    fnd (insF f 1 L) k = if k = f.opn then some ({ f with id := free 1 L }, false) else if k = f.bck then some ({ f with id := free 1 L }, true) else fnd L k := by
  have hk := h.ins ho hb hne hl
  have hm : ({ f with id := free 1 L } : Fl) ∈ insF f 1 L := mem_insF.2 (.inl rfl)
  by_cases h1 : k = f.opn
  · rw [if_pos h1, h1]; exact hk.fnd_opn hm
  · rw [if_neg h1]
    by_cases h2 : k = f.bck
    · rw [if_pos h2, h2]; exact hk.fnd_bck hm
    · rw [if_neg h2]
      cases hq : fnd L k with
      | none =>
        rw [fnd_none] at hq ⊢
        intro g hg
        rcases mem_insF.1 hg with rfl | hg
        · exact ⟨fun e => h1 e.symm, fun e => h2 e.symm⟩
        · exact hq g hg
      | some x =>
        obtain ⟨h3, h4⟩ := fnd_some hq
        obtain ⟨y, b⟩ := x
        rcases h4 with ⟨h4, h5⟩ | ⟨h4, h5⟩
        · simp only at h3 h4 h5; subst h4; rw [← h5]; exact hk.fnd_opn (mem_insF.2 (.inr h3))
        · simp only at h3 h4 h5; subst h4; rw [← h5]; exact hk.fnd_bck (mem_insF.2 (.inr h3))

/-! ### Who goes -/
def beats (f : Fl) : Option Fl → Bool
  | none => true
  | some g => decide (f.ends < g.ends)
def vic1 (b : Option Fl) (f : Fl) : Option Fl := if f.weak ∧ beats f b = true then some f else b
def vic (L : List Fl) : Option Fl := L.foldl vic1 none

theorem vic1_cases (b : Option Fl) (f : Fl) : vic1 b f = b ∨ (vic1 b f = some f ∧ f.weak) := by
  unfold vic1; split
  · rename_i h; exact .inr ⟨rfl, h.1⟩
  · exact .inl rfl

theorem vic_fold : ∀ (L : List Fl) (b : Option Fl) (f : Fl), L.foldl vic1 b = some f → b = some f ∨ (f ∈ L ∧ f.weak)
  | [], b, f, h => .inl h
  | x :: L, b, f, h => by
    rcases vic_fold L (vic1 b x) f h with h | h
    · rcases vic1_cases b x with e | ⟨e, hw⟩
      · rw [e] at h; exact .inl h
      · rw [e] at h; simp only [Option.some.injEq] at h; subst h; exact .inr ⟨List.mem_cons_self, hw⟩
    · exact .inr ⟨List.mem_cons_of_mem _ h.1, h.2⟩

theorem vic_mem {L : List Fl} {f : Fl} (h : vic L = some f) : f ∈ L ∧ f.weak := (vic_fold L none f h).resolve_left (by simp)

theorem vic_fold_some : ∀ (L : List Fl) (g : Fl), ∃ f, L.foldl vic1 (some g) = some f
  | [], g => ⟨g, rfl⟩
  | x :: L, g => by
    rcases vic1_cases (some g) x with e | ⟨e, _⟩
    · rw [List.foldl_cons, e]; exact vic_fold_some L g
    · rw [List.foldl_cons, e]; exact vic_fold_some L x

theorem vic_none : ∀ {L : List Fl}, vic L = none → ∀ f ∈ L, ¬ f.weak
  | [], _, f, hf => by cases hf
  | x :: L, h, f, hf => by
    unfold vic at h
    rw [List.foldl_cons] at h
    by_cases hw : x.weak
    · have : vic1 none x = some x := by simp [vic1, hw, beats]
      rw [this] at h
      obtain ⟨y, hy⟩ := vic_fold_some L x
      rw [hy] at h; cases h
    · have : vic1 none x = none := by simp [vic1, hw]
      rw [this] at h
      rcases List.mem_cons.1 hf with rfl | hf
      · exact hw
      · exact vic_none h f hf

/-! ### Add -/
/-- P14.2: the number, who went, the error, what is there then. -/
def addF (L : List Fl) (f : Fl) : Int × Int × Int × List Fl :=
  if tkn L f.opn = true ∨ tkn L f.bck = true ∨ f.opn = f.bck then (0, 0, 63, L)
  else if L.length = 48 then
    match vic L with
    | none => (0, 0, 120, L)
    | some g => (free 1 (dropF g.id L), g.id, 0, insF f 1 (dropF g.id L))
  else (free 1 L, 0, 0, insF f 1 L)

theorem FOk.add {L : List Fl} (h : FOk L) (f : Fl) : FOk (addF L f).2.2.2 := by
  unfold addF
  split
  · exact h
  · rename_i hn
    simp only [not_or, Bool.not_eq_true] at hn
    split
    · split
      · exact h
      · rename_i g hg
        have hm := (vic_mem hg).1
        have hl := dropF_length h.ids hm
        have := h.few
        refine (h.drop g.id).ins (tkn_false.2 fun x hx => ?_) (tkn_false.2 fun x hx => ?_) hn.2.2 (by omega)
        · exact tkn_false.1 hn.1 x (mem_dropF.1 hx).1
        · exact tkn_false.1 hn.2.1 x (mem_dropF.1 hx).1
    · have := h.few
      exact h.ins hn.1 hn.2.1 hn.2.2 (by omega)

/-! ### What is due -/
def liveF (now : Int) (L : List Fl) : List Fl := L.filter fun f => decide (¬ f.ends ≤ now)
theorem FOk.live {L : List Fl} (h : FOk L) (now : Int) : FOk (liveF now L) := h.sub List.filter_sublist
end Go.Proofs.Ytbkgjghbmafoeaa
