/- Meters in memory: the struct, the map, each source's bucket and turn. No conditions. -/
import Derived.Test.YtepibimlmfhceaaAddr
import Derived.Test.YtepibimlmfhceaaBkWalkb
namespace Go.Proofs.Ytepibimlmfhceaa
open Go.RowKit
open Go.ChangeMaps (setBlock)

/-- A source's: its address, the block of its 'one', its bucket's block, its turn, its bucket; when its entry was laid. -/
structure Ent where
  a : Int × Int
  o : Nat
  bb : Nat
  turn : Int
  s : Bk
  born : Nat

def Ent.kent (e : Ent) : KEnt (Int × Int) := ⟨e.a, .pointer (some ⟨e.o, 0, none⟩), e.born⟩

structure MAt (w : World) (mb r : Nat) (rate burst turns : Int) (es : List Ent) (clock : Nat) : Prop where
  top : Blk w mb 68 #[.int .i64 rate, .int .i64 burst, .int .i64 turns, .map (some r)]
  map : MapAt addrV w r (es.map Ent.kent) clock
  one : ∀ e ∈ es, Blk w e.o 72 #[.pointer (some ⟨e.bb, 0, none⟩), .int .i64 e.turn]
  bk : ∀ e ∈ es, BAt 64 w e.bb e.s
  ok : ∀ e ∈ es, e.s.Ok
  bbs : (es.map (·.bb)).Nodup
  keys : (es.map (·.a)).Nodup
  turnsN : (es.map (·.turn)).Nodup
  turnLe : ∀ e ∈ es, 1 ≤ e.turn ∧ e.turn ≤ turns
  bornN : (es.map (·.born)).Nodup
  bornLt : ∀ e ∈ es, e.born < clock
  few : es.length ≤ 32

/-- The blocks of a meter. -/
def Own (mb r : Nat) (es : List Ent) (i : Nat) : Prop := i = mb ∨ i = r ∨ ∃ e ∈ es, i = e.o ∨ i = e.bb

theorem nodup_inj {α β : Type} {f : α → β} : ∀ {l : List α}, (l.map f).Nodup → ∀ {x y : α}, x ∈ l → y ∈ l → f x = f y → x = y
  | a :: l, h, x, y, hx, hy, he => by
    simp only [List.map_cons, List.nodup_cons] at h
    rcases List.mem_cons.1 hx with rfl | hx' <;> rcases List.mem_cons.1 hy with rfl | hy'
    · rfl
    · exact absurd (he ▸ List.mem_map_of_mem (f := f) hy') h.1
    · exact absurd (he ▸ List.mem_map_of_mem (f := f) hx') h.1
    · exact nodup_inj h.2 hx' hy' he

namespace MAt
variable {w w' : World} {mb r : Nat} {rate burst turns : Int} {es : List Ent} {clock : Nat}

theorem off {S : Nat → Prop} (h : MAt w mb r rate burst turns es clock) (k : Off S w w') (hn : ∀ i, Own mb r es i → ¬ S i) : MAt w' mb r rate burst turns es clock where
  top := k.blk h.top (hn _ (.inl rfl))
  map := h.map.off k (hn _ (.inr (.inl rfl)))
  one := fun e he => k.blk (h.one e he) (hn _ (.inr (.inr ⟨e, he, .inl rfl⟩)))
  bk := fun e he => k.blk (h.bk e he) (hn _ (.inr (.inr ⟨e, he, .inr rfl⟩)))
  ok := h.ok
  bbs := h.bbs
  keys := h.keys
  turnsN := h.turnsN
  turnLe := h.turnLe
  bornN := h.bornN
  bornLt := h.bornLt
  few := h.few

theorem own_lt (h : MAt w mb r rate burst turns es clock) {i : Nat} (hi : Own mb r es i) : i < w.heap.size := by
  rcases hi with rfl | rfl | ⟨e, he, rfl | rfl⟩
  · exact h.top.lt
  · exact h.map.lt
  · exact (h.one e he).lt
  · exact (h.bk e he).lt

theorem blk_ne {b b' : Nat} {T T' : TypeId} {cs cs' : Array Value} (h : Blk w b T cs) (h' : Blk w b' T' cs') (hT : T ≠ T') : b ≠ b' := by
  intro e; subst e; unfold Blk at h h'; rw [h] at h'; simp only [Option.some.injEq, Obj.cells.injEq] at h'; exact hT h'.2.1

theorem look_some (h : (es.map (·.a)).Nodup) {e : Ent} (he : e ∈ es) : klook e.a (es.map Ent.kent) = some (.pointer (some ⟨e.o, 0, none⟩)) := by
  induction es with
  | nil => cases he
  | cons x xs ih =>
    rw [List.map_cons, klook_cons]
    simp only [List.map_cons, List.nodup_cons] at h
    rcases List.mem_cons.1 he with rfl | hx
    · simp [Ent.kent]
    · have : e.a ≠ x.a := fun he' => h.1 (he' ▸ List.mem_map_of_mem (f := (·.a)) hx)
      simp only [Ent.kent, this, if_false]
      exact ih h.2 hx

theorem look_none {a : Int × Int} (h : ∀ e ∈ es, e.a ≠ a) : klook a (es.map Ent.kent) = none := by
  induction es with
  | nil => rfl
  | cons x xs ih =>
    rw [List.map_cons, klook_cons]
    have : a ≠ x.a := fun he => h x List.mem_cons_self he.symm
    simp only [Ent.kent, this, if_false]
    exact ih fun e he => h e (List.mem_cons_of_mem _ he)
end MAt

/-- The buckets turned, and nothing else. -/
def reS (g : Ent → Bk) (e : Ent) : Ent := { e with s := g e }

theorem reS_proj {β : Type} {g : Ent → Bk} (p : Ent → β) (hp : ∀ e, p (reS g e) = p e) (es : List Ent) : (es.map (reS g)).map p = es.map p := by
  rw [List.map_map]; exact List.map_congr_left fun e _ => hp e

theorem reS_id {g : Ent → Bk} {es : List Ent} (h : ∀ e ∈ es, g e = e.s) : es.map (reS g) = es := by
  conv => rhs; rw [← List.map_id es]
  exact List.map_congr_left fun e he => by simp [reS, h e he]

theorem own_reS {mb r : Nat} {g : Ent → Bk} (es : List Ent) (i : Nat) : Own mb r (es.map (reS g)) i ↔ Own mb r es i := by
  simp only [Own, List.mem_map]
  constructor
  · rintro (h | h | ⟨e, ⟨y, hy, rfl⟩, h⟩)
    · exact .inl h
    · exact .inr (.inl h)
    · exact .inr (.inr ⟨y, hy, h⟩)
  · rintro (h | h | ⟨y, hy, h⟩)
    · exact .inl h
    · exact .inr (.inl h)
    · exact .inr (.inr ⟨_, ⟨y, hy, rfl⟩, h⟩)

/-- The meters behind calls that turned buckets alone. -/
theorem MAt.turned {w w' : World} {mb r : Nat} {rate burst turns : Int} {es : List Ent} {clock : Nat} (h : MAt w mb r rate burst turns es clock) {g : Ent → Bk} {S : Nat → Prop}
    (hO : Off S w w') (hS : ∀ i, S i → ∃ e ∈ es, i = e.bb) (hB : ∀ e ∈ es, BAt 64 w' e.bb (g e)) (hs : ∀ e ∈ es, (g e).Ok) : MAt w' mb r rate burst turns (es.map (reS g)) clock where
  top := hO.blk h.top (fun k => by obtain ⟨e, he, hb⟩ := hS _ k; exact MAt.blk_ne h.top (h.bk e he) (by decide) hb)
  map := by
    rw [reS_proj (g := g) Ent.kent (fun _ => rfl)]
    exact h.map.off hO (fun k => by obtain ⟨e, he, hb⟩ := hS _ k; exact h.map.not_blk (h.bk e he) hb.symm)
  one := fun x hx => by
    obtain ⟨y, hy, rfl⟩ := List.mem_map.1 hx
    exact hO.blk (h.one y hy) (fun k => by obtain ⟨e, he, hb⟩ := hS _ k; exact MAt.blk_ne (h.one y hy) (h.bk e he) (by decide) hb)
  bk := fun x hx => by
    obtain ⟨y, hy, rfl⟩ := List.mem_map.1 hx
    exact hB y hy
  ok := fun x hx => by
    obtain ⟨y, hy, rfl⟩ := List.mem_map.1 hx
    exact hs y hy
  bbs := by rw [reS_proj (g := g) (·.bb) (fun _ => rfl)]; exact h.bbs
  keys := by rw [reS_proj (g := g) (·.a) (fun _ => rfl)]; exact h.keys
  turnsN := by rw [reS_proj (g := g) (·.turn) (fun _ => rfl)]; exact h.turnsN
  turnLe := fun x hx => by
    obtain ⟨y, hy, rfl⟩ := List.mem_map.1 hx
    exact h.turnLe y hy
  bornN := by rw [reS_proj (g := g) (·.born) (fun _ => rfl)]; exact h.bornN
  bornLt := fun x hx => by
    obtain ⟨y, hy, rfl⟩ := List.mem_map.1 hx
    exact h.bornLt y hy
  few := by rw [List.length_map]; exact h.few

/-- One bucket of the meters is turned. -/
theorem MAt.setBk {w w' : World} {mb r : Nat} {rate burst turns : Int} {es : List Ent} {clock : Nat} (h : MAt w mb r rate burst turns es clock) {e : Ent} (he : e ∈ es) {s : Bk}
    (hB : BAt 64 w' e.bb s) (hs : s.Ok) (hO : Off (· = e.bb) w w') : MAt w' mb r rate burst turns (es.map (reS fun x => if x.a = e.a then s else x.s)) clock :=
  h.turned hO (fun _ hi => ⟨e, he, hi⟩)
    (fun x hx => by
      by_cases hxa : x.a = e.a
      · obtain rfl := nodup_inj h.keys hx he hxa
        simp only [if_true]; exact hB
      · rw [if_neg hxa]
        exact hO.blk (h.bk x hx) (fun hb => hxa (by rw [nodup_inj h.bbs hx he hb])))
    (fun x hx => by
      split
      · exact hs
      · exact h.ok x hx)

/-- One source less. -/
def without (a : Int × Int) (es : List Ent) : List Ent := es.filter fun e => decide (e.a ≠ a)

theorem kdel_kent {a : Int × Int} : ∀ {es : List Ent}, (es.map (·.a)).Nodup → kdel a (es.map Ent.kent) = (without a es).map Ent.kent
  | [], _ => rfl
  | e :: es, h => by
    simp only [List.map_cons, List.nodup_cons] at h
    simp only [List.map_cons, kdel, without, List.filter_cons]
    by_cases ha : a = e.a
    · have : es.filter (fun x => decide (x.a ≠ a)) = es := List.filter_eq_self.2 fun x hx => by
        simp only [decide_eq_true_eq]; intro hxa
        exact h.1 (by rw [← ha, ← hxa]; exact List.mem_map_of_mem (f := (·.a)) hx)
      rw [if_pos (show a = e.kent.key from ha), if_neg (by simp [ha]), this]
    · have := kdel_kent (a := a) h.2
      rw [if_neg (show ¬ a = e.kent.key from ha), if_pos (by simp; exact fun k => ha k.symm), List.map_cons, this]
      rfl

theorem MAt.drop {w w' : World} {mb r : Nat} {rate burst turns : Int} {es : List Ent} {clock : Nat} (h : MAt w mb r rate burst turns es clock) (a : Int × Int)
    (hO : Off (· = r) w w') (hm : MapAt addrV w' r ((without a es).map Ent.kent) clock) : MAt w' mb r rate burst turns (without a es) clock where
  top := hO.blk h.top (fun k => h.map.not_blk h.top k)
  map := hm
  one := fun x hx => hO.blk (h.one x (List.mem_filter.1 hx).1) (fun k => h.map.not_blk (h.one x (List.mem_filter.1 hx).1) k)
  bk := fun x hx => hO.blk (h.bk x (List.mem_filter.1 hx).1) (fun k => h.map.not_blk (h.bk x (List.mem_filter.1 hx).1) k)
  ok := fun x hx => h.ok x (List.mem_filter.1 hx).1
  bbs := h.bbs.sublist (List.filter_sublist.map _)
  keys := h.keys.sublist (List.filter_sublist.map _)
  turnsN := h.turnsN.sublist (List.filter_sublist.map _)
  turnLe := fun x hx => h.turnLe x (List.mem_filter.1 hx).1
  bornN := h.bornN.sublist (List.filter_sublist.map _)
  bornLt := fun x hx => h.bornLt x (List.mem_filter.1 hx).1
  few := Nat.le_trans (List.length_filter_le _ _) h.few

theorem without_length {a : Int × Int} : ∀ {es : List Ent}, (es.map (·.a)).Nodup → (∃ e ∈ es, e.a = a) → (without a es).length + 1 = es.length
  | [], _, h => by obtain ⟨e, he, _⟩ := h; cases he
  | e :: es, h, hx => by
    simp only [List.map_cons, List.nodup_cons] at h
    simp only [without, List.filter_cons]
    by_cases ha : e.a = a
    · have : es.filter (fun x => decide (x.a ≠ a)) = es := List.filter_eq_self.2 fun x hx => by
        simp only [decide_eq_true_eq]; intro hxa
        exact h.1 (by rw [ha, ← hxa]; exact List.mem_map_of_mem (f := (·.a)) hx)
      simp only [ha, ne_eq, not_true, decide_false, Bool.false_eq_true, if_false]
      rw [this]; rfl
    · obtain ⟨x, hx', hxa⟩ := hx
      rcases List.mem_cons.1 hx' with rfl | hm
      · exact absurd hxa ha
      · have := without_length h.2 ⟨x, hm, hxa⟩
        rw [if_pos (by simpa using ha), List.length_cons, List.length_cons]
        exact congrArg (· + 1) this

theorem MAt.drew {w : World} {mb r : Nat} {rate burst turns : Int} {es : List Ent} {clock : Nat} (h : MAt w mb r rate burst turns es clock) : MAt w.drew mb r rate burst turns es clock :=
  h.off ((Off.refl (fun _ => False) w).drew) (fun _ _ h => h)

theorem zero69 (w : World) : (zeroValue 69).run Try.prog w = .ok (.pointer none) w := by kernel_rfl

/-- A look-up in the map of meters. -/
theorem mt_lookup {w : World} {mb r : Nat} {rate burst turns : Int} {es : List Ent} {clock : Nat} (h : MAt w mb r rate burst turns es clock) (hi lo : Int) :
    (Instr.lookup 66 (.map (some r)) (.agg #[.int .u64 hi, .int .u64 lo]) true).run Try.prog w =
      .ok (.tuple #[(klook (hi, lo) (es.map Ent.kent)).getD (.pointer none), .bool (klook (hi, lo) (es.map Ent.kent)).isSome]) w :=
  run_lookup addr_key Try.underlying66 zero69 h.map (hi, lo)

end Go.Proofs.Ytepibimlmfhceaa
