/- A wheel in memory. No conditions. -/
import Derived.Test.YtbkgjghbmafoeaaMPure
import Derived.Test.YtbkgjghbmafoeaaPushWalk
import Derived.Test.YtbkgjghbmafoeaaKMap
namespace Go.Proofs.Ytbkgjghbmafoeaa
open Go.RowKit
open Go.ChangeMaps (setBlock)

section
variable {α : Type} [DecidableEq α]
theorem klook_add (k k' : α) (u : Value) (b : Nat) : ∀ (es : List (KEnt α)), klook k' es = none → klook k (es ++ [⟨k', u, b⟩]) = if k = k' then some u else klook k es
  | [], _ => by rw [List.nil_append, klook_cons]
  | e :: es, h => by
    rw [klook_cons] at h
    split at h
    · cases h
    · rename_i hne
      rw [List.cons_append, klook_cons, klook_add k k' u b es h, klook_cons]
      by_cases hk : k = e.key
      · have : ¬ k = k' := fun e' => hne (e' ▸ hk)
        simp [hk]; intro e'; exact absurd e'.symm (fun e'' => this (by rw [hk, e'']))
      · simp [hk]

theorem klook_absent {k : α} : ∀ {es : List (KEnt α)}, k ∉ es.map (·.key) → klook k es = none
  | [], _ => rfl
  | e :: es, h => by
    simp only [List.map_cons, List.mem_cons, not_or] at h
    rw [klook_cons, if_neg h.1]; exact klook_absent h.2

theorem klook_keys {k : α} : ∀ {es : List (KEnt α)}, klook k es = none → k ∉ es.map (·.key)
  | [], _ => by simp
  | e :: es, h => by
    rw [klook_cons] at h
    split at h
    · cases h
    · rename_i hne
      simp only [List.map_cons, List.mem_cons, not_or]
      exact ⟨hne, klook_keys h⟩

theorem klook_kdel (k k' : α) : ∀ {es : List (KEnt α)}, (es.map (·.key)).Nodup → klook k (kdel k' es) = if k = k' then none else klook k es
  | [], _ => by simp [kdel, klook, kfind]
  | e :: es, h => by
    simp only [List.map_cons, List.nodup_cons] at h
    simp only [kdel]
    by_cases he : k' = e.key
    · rw [if_pos he, klook_cons]
      by_cases hk : k = k'
      · rw [if_pos hk, hk, he]; exact klook_absent h.1
      · rw [if_neg hk, if_neg (fun e' => hk (e'.trans he.symm))]
    · rw [if_neg he, klook_cons, klook_kdel k k' h.2, klook_cons]
      by_cases hk : k = e.key
      · have : ¬ k = k' := fun e' => he (e'.symm.trans hk)
        simp only [hk, if_true]
        rw [if_neg (fun e' => he e'.symm)]
      · simp only [hk, if_false]

theorem kdel_sub (k : α) : ∀ (es : List (KEnt α)), (kdel k es).Sublist es
  | [] => List.Sublist.refl _
  | e :: es => by
    simp only [kdel]
    split
    · exact List.sublist_cons_self _ _
    · exact (kdel_sub k es).cons_cons _
end

abbrev ik : Int → Value := fun n => .int .i64 n

/-- A wheel: its row, its map; what it holds. -/
structure WhAt (w : World) (wb r : Nat) (v : Value) (n : Nat) (h : Hp) (kes : List (KEnt Int)) (clock : Nat) (L : List Tm) : Prop where
  row : WRow w wb r v n h
  heap : Heap h n
  rea : Rea n n h h
  map : MapAt ik w r kes clock
  keys : (kes.map (·.key)).Nodup
  look : ∀ id u, klook id kes = some u ↔ ∃ i, i < n ∧ (h i).id = id ∧ u = .pointer (some ⟨(h i).o, 0, none⟩)
  rep : Rep n h L
  few : n ≤ 256

def WhOwn (wb r : Nat) (v : Value) (n : Nat) (h : Hp) (i : Nat) : Prop := WOwn wb v n h i ∨ i = r

/-- A wheel whose blocks are S, and which holds L. -/
def Whl (w : World) (wb : Nat) (S : Nat → Prop) (L : List Tm) : Prop :=
  ∃ r v n h kes clock, WhAt w wb r v n h kes clock L ∧ ∀ i, S i ↔ WhOwn wb r v n h i

theorem WhAt.lt {w : World} {wb r : Nat} {v : Value} {n : Nat} {h : Hp} {kes : List (KEnt Int)} {clock : Nat} {L : List Tm} (H : WhAt w wb r v n h kes clock L) {i : Nat} (hi : WhOwn wb r v n h i) : i < w.heap.size := by
  rcases hi with (rfl | hi | ⟨k, hk, rfl⟩) | rfl
  · exact H.row.top.lt
  · exact ownsRow_lt H.row.row hi
  · exact (H.row.one k hk).lt
  · exact H.map.lt

theorem WhAt.off {w w' : World} {wb r : Nat} {v : Value} {n : Nat} {h : Hp} {kes : List (KEnt Int)} {clock : Nat} {L : List Tm} {S : Nat → Prop} (H : WhAt w wb r v n h kes clock L) (k : Off S w w') (hn : ∀ i, WhOwn wb r v n h i → ¬ S i) : WhAt w' wb r v n h kes clock L :=
  { H with row := H.row.off k (fun i hi => hn i (.inl hi)), map := H.map.off k (hn r (.inr rfl)) }

theorem Whl.off {w w' : World} {wb : Nat} {T S : Nat → Prop} {L : List Tm} (H : Whl w wb T L) (k : Off S w w') (hn : ∀ i, T i → ¬ S i) : Whl w' wb T L := by
  obtain ⟨r, v, n, h, kes, clock, H, hT⟩ := H
  exact ⟨r, v, n, h, kes, clock, H.off k (fun i hi => hn i ((hT i).2 hi)), hT⟩

theorem Whl.lt {w : World} {wb : Nat} {S : Nat → Prop} {L : List Tm} (H : Whl w wb S L) {i : Nat} (hi : S i) : i < w.heap.size := by
  obtain ⟨r, v, n, h, kes, clock, H, hS⟩ := H
  exact H.lt ((hS i).1 hi)

theorem Whl.few {w : World} {wb : Nat} {S : Nat → Prop} {L : List Tm} (H : Whl w wb S L) : L.length ≤ 256 ∧ Srt L := by
  obtain ⟨r, v, n, h, kes, clock, H, hS⟩ := H
  exact ⟨by rw [H.rep.len]; exact H.few, H.rep.srt⟩

/-- A block of another kind is none of the wheel's. -/
theorem Whl.not_blk {w : World} {wb : Nat} {S : Nat → Prop} {L : List Tm} (H : Whl w wb S L) {b T : Nat} {cs : Array Value} (hb : Blk w b T cs) (h1 : T ≠ 89) (h2 : T ≠ 90) (h3 : T ≠ 93) : ¬ S b := by
  obtain ⟨r, v, n, h, kes, clock, H, hS⟩ := H
  intro hi
  rcases (hS b).1 hi with (rfl | hg | ⟨k, hk, rfl⟩) | rfl
  · exact blk_ne hb H.row.top h1 rfl
  · obtain ⟨cur, hc⟩ := ownsRow_blk H.row.row hg; exact blk_ne hb hc h2 rfl
  · exact blk_ne hb (H.row.one k hk) h3 rfl
  · exact H.map.not_blk hb rfl

theorem Rep.rea {n : Nat} {h h' : Hp} {L : List Tm} (R : Rep n h L) (k : Rea n n h h') : Rep n h' L :=
  ⟨R.srt, fun x => by
    rw [R.mem x]
    constructor
    · rintro ⟨i, hi, rfl⟩
      obtain ⟨j, hj, he⟩ := (k.mem (h i)).2 ⟨i, hi, rfl⟩
      exact ⟨j, hj, by rw [he]⟩
    · rintro ⟨i, hi, rfl⟩
      obtain ⟨j, hj, he⟩ := (k.mem (h' i)).1 ⟨i, hi, rfl⟩
      exact ⟨j, hj, by rw [he]⟩, R.len⟩

theorem look_rea {n : Nat} {h h' : Hp} (k : Rea n n h h') (id : Int) (u : Value) : (∃ i, i < n ∧ (h i).id = id ∧ u = .pointer (some ⟨(h i).o, 0, none⟩)) ↔ ∃ i, i < n ∧ (h' i).id = id ∧ u = .pointer (some ⟨(h' i).o, 0, none⟩) := by
  constructor
  · rintro ⟨i, hi, h1, h2⟩
    obtain ⟨j, hj, he⟩ := (k.mem (h i)).2 ⟨i, hi, rfl⟩
    exact ⟨j, hj, by rw [he]; exact h1, by rw [he]; exact h2⟩
  · rintro ⟨i, hi, h1, h2⟩
    obtain ⟨j, hj, he⟩ := (k.mem (h' i)).1 ⟨i, hi, rfl⟩
    exact ⟨j, hj, by rw [he]; exact h1, by rw [he]; exact h2⟩

theorem zero90 (w : World) : (zeroValue 90).run Try.prog w = .ok (.pointer none) w := by kernel_rfl

theorem wh_lookup {w : World} {wb r : Nat} {v : Value} {n : Nat} {h : Hp} {kes : List (KEnt Int)} {clock : Nat} {L : List Tm} (H : WhAt w wb r v n h kes clock L) (id : Int) :
    (Instr.lookup 85 (.map (some r)) (.int .i64 id) true).run Try.prog w = .ok (.tuple #[(klook id kes).getD (.pointer none), .bool (klook id kes).isSome]) w :=
  run_lookup (KeyTy.ints Try.underlying3) Try.underlying85 zero90 H.map id

def WNew (w : World) (e : Ending) (w' : World) : Prop :=
  ∃ wb S, e = .returned (.pointer (some ⟨wb, 0, none⟩)) ∧ Whl w' wb S [] ∧ (∀ i, S i → w.heap.size ≤ i) ∧ S wb ∧ Off (fun _ => False) w w'

set_option maxHeartbeats 400000 in
theorem wnew_any (w : World) : Calls Try.prog 27 #[] w (WNew w) := by
  have hmm := @run_makeMap Try.prog
  go_enter Try.func27, Try.ntmps27
  go_wp2
  go_ret
  obtain ⟨h⟩ : Nonempty Hp := ⟨fun _ => ⟨0, 0, 0⟩⟩
  have top := Blk.new (w.alloc (.map #[] 0)) 89 #[.slice none 0 0, .map (some w.heap.size)]
  rw [show (w.alloc (.map #[] 0)).heap.size = w.heap.size + 1 by simp] at top
  refine ⟨w.heap.size + 1, WhOwn (w.heap.size + 1) w.heap.size (.slice none 0 0) 0 h, rfl, ⟨w.heap.size, .slice none 0 0, 0, h, [], 0, ⟨⟨top, ?_, ?_⟩, ?_, Rea.refl ?_ ?_, ?_, ?_, ?_, Rep.nil h, by omega⟩, fun _ => Iff.rfl⟩, ?_, .inl (.inl rfl), ((Off.refl _ _).alloc _).alloc _⟩
  · exact World.ownsRow_nil _ _ _ _
  · intro i hi; omega
  · intro k _ hk; omega
  · intro i j hi; omega
  · intro i j hi; omega
  · exact MapAt.alloc (show MapAt ik (w.alloc (.map #[] 0)) w.heap.size [] 0 from heap_alloc_new _ _) _
  · simp
  · intro id u
    constructor
    · intro k; simp [klook, kfind] at k
    · rintro ⟨i, hi, _⟩; omega
  · rintro i ((e | e | ⟨k, hk, _⟩) | e)
    · omega
    · simp [Value.ownBlock] at e
    · omega
    · omega

def WLen (n : Nat) (w : World) (e : Ending) (w' : World) : Prop := e = .returned (.int .i64 n) ∧ w' = w

set_option maxHeartbeats 400000 in
theorem wlen_any {w : World} {wb : Nat} {S : Nat → Prop} {L : List Tm} (H : Whl w wb S L) : Calls Try.prog 33 #[.pointer (some ⟨wb, 0, none⟩)] w (WLen L.length w) := by
  obtain ⟨r, v, n, h, kes, clock, H, hS⟩ := H
  obtain ⟨a, cap, hv, _⟩ := ownsRow_form H.row.row
  have c0 : w.cell? ⟨wb, 0, none⟩ = some v := H.row.top.cell 0
  subst hv
  have hl := H.rep.len
  subst hl
  go_enter Try.func33, Try.ntmps33
  go_wp2
  go_ret
  exact ⟨rfl, rfl⟩
end Go.Proofs.Ytbkgjghbmafoeaa
