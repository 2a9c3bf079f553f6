/- A table of flows in memory: its cells, its map, each flow's block. No conditions. -/
import Derived.Test.YtbkgjghbmafoeaaFlKey
import Derived.Test.YtbkgjghbmafoeaaWUse
import Derived.Deep.MidRow
namespace Go.Proofs.Ytbkgjghbmafoeaa
open Go.RowKit
open Go.ChangeMaps (setBlock)

/-- A key, written out. -/
abbrev keyW (k : FKey) : Value := .agg #[.int .i64 k.1, .int .u64 k.2.1, .int .u64 k.2.2.1, .int .u64 k.2.2.2.1, .int .u64 k.2.2.2.2.1, .int .i64 k.2.2.2.2.2.1, .int .i64 k.2.2.2.2.2.2]
theorem keyW_eq (k : FKey) : keyW k = keyV k := rfl

theorem keyc {w : World} {b o : Nat} {k : FKey} (h : w.rangeAt b o (keyL k)) :
    w.cell? ⟨b, o, none⟩ = some (.int .i64 k.1) ∧ w.cell? ⟨b, o + 1, none⟩ = some (.int .u64 k.2.1) ∧ w.cell? ⟨b, o + 2, none⟩ = some (.int .u64 k.2.2.1) ∧ w.cell? ⟨b, o + 3, none⟩ = some (.int .u64 k.2.2.2.1) ∧
    w.cell? ⟨b, o + 4, none⟩ = some (.int .u64 k.2.2.2.2.1) ∧ w.cell? ⟨b, o + 5, none⟩ = some (.int .i64 k.2.2.2.2.2.1) ∧ w.cell? ⟨b, o + 6, none⟩ = some (.int .i64 k.2.2.2.2.2.2) :=
  ⟨h 0 _ rfl, h 1 _ rfl, h 2 _ rfl, h 3 _ rfl, h 4 _ rfl, h 5 _ rfl, h 6 _ rfl⟩

def flL (f : Fl) : List Value := [.int .i64 f.id,
  .int .i64 f.opn.1, .int .u64 f.opn.2.1, .int .u64 f.opn.2.2.1, .int .u64 f.opn.2.2.2.1, .int .u64 f.opn.2.2.2.2.1, .int .i64 f.opn.2.2.2.2.2.1, .int .i64 f.opn.2.2.2.2.2.2,
  .int .i64 f.bck.1, .int .u64 f.bck.2.1, .int .u64 f.bck.2.2.1, .int .u64 f.bck.2.2.2.1, .int .u64 f.bck.2.2.2.2.1, .int .i64 f.bck.2.2.2.2.2.1, .int .i64 f.bck.2.2.2.2.2.2,
  .int .i64 f.inn, .int .i64 f.out, .int .i64 f.rule, .int .i64 f.state, .int .i64 f.ends]
abbrev flV (f : Fl) : Value := .agg (flL f).toArray
abbrev sideV (id : Int) (b : Bool) : Value := .agg #[.int .i64 id, .bool b]
abbrev ptrV (o : Option Nat) : Value := .pointer (o.map fun b => ⟨b, 0, none⟩)

theorem range_blk {w : World} {b T : Nat} {cs : Array Value} (h : Blk w b T cs) (o : Nat) (xs : List Value) (hx : ∀ j v, xs[j]? = some v → cs[o + j]? = some v) : w.rangeAt b o xs :=
  fun j v hj => by rw [h.cell]; exact hx j v hj

theorem load_fl {w : World} {b o : Nat} {f : Fl} (h : w.rangeAt b o (flL f)) : (Instr.loadAt 38 (.pointer (some ⟨b, o, none⟩))).run Try.prog w = .ok (flV f) w :=
  run_loadAt_mid w b o 38 (flL f) _ h (show Try.prog.underlying 38 = some (.struct (Try.prog.fieldsOf 38)) by kernel_rfl) rfl (by kernel_rfl)
theorem load_rf {w : World} {b o : Nat} {f : Fl} (h : w.rangeAt b o (flL f)) : (Instr.loadAt 42 (.pointer (some ⟨b, o, none⟩))).run Try.prog w = .ok (flV f) w :=
  run_loadAt_mid w b o 42 (flL f) _ h (show Try.prog.underlying 42 = some (.struct (Try.prog.fieldsOf 42)) by kernel_rfl) rfl (by kernel_rfl)
theorem load_key {w : World} {b o : Nat} {k : FKey} (h : w.rangeAt b o (keyL k)) : (Instr.loadAt 36 (.pointer (some ⟨b, o, none⟩))).run Try.prog w = .ok (keyV k) w :=
  run_loadAt_mid w b o 36 (keyL k) _ h Try.struct36 rfl (by kernel_rfl)

theorem range_opn {w : World} {b o : Nat} {f : Fl} (h : w.rangeAt b o (flL f)) : w.rangeAt b (o + 1) (keyL f.opn) := fun j v hj => by
  have hl : j < 7 := by
    rcases Nat.lt_or_ge j 7 with h' | h'
    · exact h'
    · rw [List.getElem?_eq_none (by simp [keyL]; omega)] at hj; cases hj
  have := h (1 + j) v
  rw [Nat.add_assoc]
  refine this ?_
  rw [← hj]
  match j, hl with
  | 0, _ | 1, _ | 2, _ | 3, _ | 4, _ | 5, _ | 6, _ => rfl
theorem range_bck {w : World} {b o : Nat} {f : Fl} (h : w.rangeAt b o (flL f)) : w.rangeAt b (o + 8) (keyL f.bck) := fun j v hj => by
  have hl : j < 7 := by
    rcases Nat.lt_or_ge j 7 with h' | h'
    · exact h'
    · rw [List.getElem?_eq_none (by simp [keyL]; omega)] at hj; cases hj
  have := h (8 + j) v
  rw [Nat.add_assoc]
  refine this ?_
  rw [← hj]
  match j, hl with
  | 0, _ | 1, _ | 2, _ | 3, _ | 4, _ | 5, _ | 6, _ => rfl

/-! ### The table's cells -/
def tblL (wb : Nat) (p : Nat → Option Nat) (r n : Nat) : List Value :=
  .pointer (some ⟨wb, 0, none⟩) :: ((List.range 49).map (fun i => ptrV (p i)) ++ [.map (some r), .int .i64 n])

theorem tblL_length (wb : Nat) (p : Nat → Option Nat) (r n : Nat) : (tblL wb p r n).length = 52 := by simp [tblL]
theorem tblL_flow (wb : Nat) (p : Nat → Option Nat) (r n : Nat) {i : Nat} (hi : i < 49) : (tblL wb p r n)[1 + i]? = some (ptrV (p i)) := by
  unfold tblL
  rw [Nat.add_comm, List.getElem?_cons_succ, List.getElem?_append_left (by simpa using hi)]
  simp [hi]
theorem tblL_map (wb : Nat) (p : Nat → Option Nat) (r n : Nat) : (tblL wb p r n)[50]? = some (.map (some r)) := rfl
theorem tblL_many (wb : Nat) (p : Nat → Option Nat) (r n : Nat) : (tblL wb p r n)[51]? = some (.int .i64 n) := rfl

def upd (p : Nat → Option Nat) (i : Nat) (v : Option Nat) : Nat → Option Nat := fun j => if j = i then v else p j

theorem tblL_set (wb : Nat) (p : Nat → Option Nat) (r n : Nat) {i : Nat} (hi : i < 49) (v : Option Nat) : (tblL wb p r n).set (1 + i) (ptrV v) = tblL wb (upd p i v) r n := by
  refine List.ext_getElem? fun j => ?_
  rw [List.getElem?_set]
  by_cases hj : 1 + i = j
  · subst hj
    rw [if_pos rfl, if_pos (by rw [tblL_length]; omega), tblL_flow _ _ _ _ hi]; simp [upd]
  · rw [if_neg hj]
    unfold tblL
    cases j with
    | zero => rfl
    | succ j =>
      rw [List.getElem?_cons_succ, List.getElem?_cons_succ]
      by_cases hl : j < 49
      · rw [List.getElem?_append_left (by simpa using hl), List.getElem?_append_left (by simpa using hl)]
        have : j ≠ i := by omega
        simp [hl, upd, this]
      · rw [List.getElem?_append_right (by simp; omega), List.getElem?_append_right (by simp; omega)]
        simp
theorem tblL_setMany (wb : Nat) (p : Nat → Option Nat) (r n m : Nat) : (tblL wb p r n).set 51 (.int .i64 m) = tblL wb p r m := rfl

/-- The table, its wheel aside. -/
structure TB (w : World) (tb wb r : Nat) (p : Nat → Option Nat) (kes : List (KEnt FKey)) (clock : Nat) (L : List Fl) : Prop where
  top : Blk w tb 76 (tblL wb p r L.length).toArray
  one : ∀ f ∈ L, ∃ o, p f.id.toNat = some o ∧ Blk w o 38 (flL f).toArray
  off_ : ∀ i : Nat, i < 49 → (∀ f ∈ L, f.id ≠ i) → p i = none
  map : MapAt keyV w r kes clock
  nd : (kes.map (·.key)).Nodup
  born : ∀ e ∈ kes, e.born < clock
  look : ∀ k, klook k kes = (fnd L k).map fun x => sideV x.1.id x.2
  ok : FOk L

def TBOwn (tb r : Nat) (p : Nat → Option Nat) (i : Nat) : Prop := i = tb ∨ i = r ∨ ∃ j o, j < 49 ∧ p j = some o ∧ i = o

namespace TB
variable {w w' : World} {tb wb r : Nat} {p : Nat → Option Nat} {kes : List (KEnt FKey)} {clock : Nat} {L : List Fl}

/-- A pointer that is there is a flow's. -/
theorem at_ (H : TB w tb wb r p kes clock L) {j o : Nat} (hj : j < 49) (hp : p j = some o) : ∃ f ∈ L, f.id = j ∧ Blk w o 38 (flL f).toArray := by
  apply Classical.byContradiction
  intro hn
  by_cases hx : ∃ f ∈ L, f.id = j
  · obtain ⟨f, hf, he⟩ := hx
    obtain ⟨o', ho, hb⟩ := H.one f hf
    rw [show f.id.toNat = j by omega, hp] at ho
    simp only [Option.some.injEq] at ho
    subst ho
    exact hn ⟨f, hf, he, hb⟩
  · have := H.off_ j hj (fun f hf e => hx ⟨f, hf, e⟩)
    rw [this] at hp; cases hp

theorem off {S : Nat → Prop} (H : TB w tb wb r p kes clock L) (k : Off S w w') (hn : ∀ i, TBOwn tb r p i → ¬ S i) : TB w' tb wb r p kes clock L :=
  { H with
    top := k.blk H.top (hn _ (.inl rfl))
    one := fun f hf => by
      obtain ⟨o, ho, hb⟩ := H.one f hf
      exact ⟨o, ho, k.blk hb (hn _ (.inr (.inr ⟨_, o, by have := H.ok.rng f hf; omega, ho, rfl⟩)))⟩
    map := H.map.off k (hn _ (.inr (.inl rfl))) }

theorem lt (H : TB w tb wb r p kes clock L) {i : Nat} (hi : TBOwn tb r p i) : i < w.heap.size := by
  rcases hi with rfl | rfl | ⟨j, o, hj, ho, rfl⟩
  · exact H.top.lt
  · exact H.map.lt
  · obtain ⟨f, _, _, hb⟩ := H.at_ hj ho; exact hb.lt

theorem apart {S : Nat → Prop} {T : List Tm} (H : TB w tb wb r p kes clock L) (W : Whl w wb S T) (hr : ¬ S r) : ∀ i, TBOwn tb r p i → ¬ S i := by
  rintro i (rfl | rfl | ⟨j, o, hj, ho, rfl⟩)
  · exact W.not_blk H.top (by decide) (by decide) (by decide)
  · exact hr
  · obtain ⟨f, _, _, hb⟩ := H.at_ hj ho
    exact W.not_blk hb (by decide) (by decide) (by decide)
end TB

/-- A table whose blocks are U, and which holds L. -/
def Tbl (w : World) (tb : Nat) (U : Nat → Prop) (L : List Fl) : Prop :=
  ∃ wb r S p kes clock T, TB w tb wb r p kes clock L ∧ Whl w wb S T ∧ T.Perm (L.map ft) ∧ ¬ S r ∧ ∀ i, U i ↔ TBOwn tb r p i ∨ S i

theorem Tbl.off {w w' : World} {tb : Nat} {U S : Nat → Prop} {L : List Fl} (H : Tbl w tb U L) (k : Off S w w') (hn : ∀ i, U i → ¬ S i) : Tbl w' tb U L := by
  obtain ⟨wb, r, S', p, kes, clock, T, H, W, hT, hr, hU⟩ := H
  exact ⟨wb, r, S', p, kes, clock, T, H.off k (fun i hi => hn i ((hU i).2 (.inl hi))), W.off k (fun i hi => hn i ((hU i).2 (.inr hi))), hT, hr, hU⟩

theorem Tbl.lt {w : World} {tb : Nat} {U : Nat → Prop} {L : List Fl} (H : Tbl w tb U L) {i : Nat} (hi : U i) : i < w.heap.size := by
  obtain ⟨wb, r, S', p, kes, clock, T, H, W, hT, hr, hU⟩ := H
  rcases (hU i).1 hi with h | h
  · exact H.lt h
  · exact W.lt h

theorem Tbl.ok {w : World} {tb : Nat} {U : Nat → Prop} {L : List Fl} (H : Tbl w tb U L) : FOk L := by
  obtain ⟨wb, r, S', p, kes, clock, T, H, W, hT, hr, hU⟩ := H
  exact H.ok

/-- A block of another kind is none of the table's. -/
theorem Tbl.not_blk {w : World} {tb : Nat} {U : Nat → Prop} {L : List Fl} (H : Tbl w tb U L) {b T : Nat} {cs : Array Value} (hb : Blk w b T cs) (h1 : T ≠ 89) (h2 : T ≠ 90) (h3 : T ≠ 93) (h4 : T ≠ 76) (h5 : T ≠ 38) : ¬ U b := by
  obtain ⟨wb, r, S', p, kes, clock, T', H, W, hT, hr, hU⟩ := H
  intro hi
  rcases (hU b).1 hi with (rfl | rfl | ⟨j, o, hj, ho, rfl⟩) | h
  · exact blk_ne hb H.top h4 rfl
  · exact H.map.not_blk hb rfl
  · obtain ⟨f, _, _, hb'⟩ := H.at_ hj ho; exact blk_ne hb hb' h5 rfl
  · exact W.not_blk hb h1 h2 h3 h

theorem zero78 (w : World) : (zeroValue 78).run Try.prog w = .ok (sideV 0 false) w := by kernel_rfl
end Go.Proofs.Ytbkgjghbmafoeaa
