/- Maps by the entries that they hold, whatever the key's type: what a look-up, a store of a new key, a delete, a length do. No conditions. -/
import Derived.Test.YtbkgjghbmafoeaaBase
import Derived.Maps.RangeRun
import Derived.WideLaws
namespace Go.Proofs.Ytbkgjghbmafoeaa
open Go.RowKit
open Go.ChangeMaps (setBlock)

/-- An entry: its key, what stands there, when it was laid. -/
structure KEnt (α : Type) where
  key : α
  val : Value
  born : Nat

def KEnt.raw {α : Type} (enc : α → Value) (e : KEnt α) : MapEntry := { key := enc e.key, val := e.val, born := e.born }

/-- The first entry of a key, with its place. -/
def kfind {α : Type} [DecidableEq α] (k : α) : List (KEnt α) → Nat → Option (Nat × Value)
  | [], _ => none
  | e :: es, i => if k = e.key then some (i, e.val) else kfind k es (i + 1)

def klook {α : Type} [DecidableEq α] (k : α) (es : List (KEnt α)) : Option Value := (kfind k es 0).map (·.2)

/-- A key's type, for our use: keys of this type are found by their sameness, and can be keys. -/
structure KeyTy (P : Program) (kt : TypeId) (α : Type) [DecidableEq α] (enc : α → Value) : Prop where
  find : ∀ (w : World) (k : α) (es : List (KEnt α)), (Instr.findKey kt (enc k) (es.map (KEnt.raw enc))).run P w = .ok (kfind k es 0) w
  check : ∀ (w : World) (em : Bool) (k : α), (Instr.checkKey em 10000 kt (enc k)).run P w = .ok () w
  bits : ∀ k, Instr.sameBits 10000 (enc k) (enc k) = true

/-- Block r is a map that holds these entries. -/
def MapAt {α : Type} (enc : α → Value) (w : World) (r : Nat) (es : List (KEnt α)) (clock : Nat) : Prop :=
  w.heap[r]? = some (.map (es.map (KEnt.raw enc)).toArray clock)

section
variable {P : Program} {kt et T : TypeId} {α : Type} [DecidableEq α] {enc : α → Value}

theorem findAsking_asks (heq : ∀ (w : World) (a b : α), (Op.equal kt (enc a) (enc b)).run P w = .ok (decide (a = b)) w) (w : World) (k : α) :
    ∀ (es : List (KEnt α)) (i : Nat), (Instr.findAsking kt (enc k) (es.map (KEnt.raw enc)) i).run P w = .ok (kfind k es i) w
  | [], i => by simp [Instr.findAsking, kfind]
  | e :: es, i => by
    simp only [List.map_cons, Instr.findAsking, Sem.run_bind, KEnt.raw, heq, Result.andThen_ok, kfind]
    by_cases h : k = e.key
    · simp [h]
    · simp only [h, decide_false, Bool.false_eq_true, if_false]; exact findAsking_asks heq w k es (i + 1)

/-- A key's type whose sameness is asked: structs. -/
theorem KeyTy.of_eq {d : TypeDesc} (hd : P.underlying kt = some d) (hs : ∀ a b, Instr.sameNow d (enc a) (enc b) = none)
    (heq : ∀ (w : World) (a b : α), (Op.equal kt (enc a) (enc b)).run P w = .ok (decide (a = b)) w)
    (hc : ∀ (w : World) (em : Bool) (k : α), (Instr.checkKey em 10000 kt (enc k)).run P w = .ok () w) (hb : ∀ k, Instr.sameBits 10000 (enc k) (enc k) = true) : KeyTy P kt α enc where
  check := hc
  bits := hb
  find := fun w k es => by
    simp only [Instr.findKey, Sem.run_bind, run_underlying hd, Result.andThen_ok]
    cases es with
    | nil => simp [Instr.findNow, kfind]
    | cons e es =>
      have : Instr.findNow d (enc k) ((e :: es).map (KEnt.raw enc)) 0 = none := by
        simp only [List.map_cons, Instr.findNow, KEnt.raw, hs]
      rw [this]
      exact findAsking_asks heq w k (e :: es) 0

theorem check_int (d : Nat) {k : IntKind} (hd : P.underlying kt = some (.int k)) (w : World) (em : Bool) (n : Int) : (Instr.checkKey em (d + 1) kt (.int k n)).run P w = .ok () w := by
  simp only [Instr.checkKey, Sem.run_bind, run_underlying hd, Result.andThen_ok]
  rfl

/-- A key's type of whole numbers. -/
theorem KeyTy.ints {k : IntKind} (hd : P.underlying kt = some (.int k)) : KeyTy P kt Int (fun n => .int k n) where
  check := fun w em n => check_int 9999 hd w em n
  bits := fun n => by simp [Instr.sameBits]
  find := fun w n es => by
    simp only [Instr.findKey, Sem.run_bind, run_underlying hd, Result.andThen_ok]
    have : ∀ (es : List (KEnt Int)) (i : Nat), Instr.findNow (.int k) (.int k n) (es.map (KEnt.raw fun n => .int k n)) i = some (kfind n es i) := by
      intro es
      induction es with
      | nil => intro i; rfl
      | cons e es ih =>
        intro i
        simp only [List.map_cons, Instr.findNow, KEnt.raw, Instr.sameNow, if_true, kfind]
        by_cases h : n = e.key
        · simp [h]
        · have hb : (n == e.key) = false := by simpa using h
          simp only [hb, h, if_false]; exact ih (i + 1)
    rw [this]
    rfl

theorem kfind_map (k : α) : ∀ (es : List (KEnt α)) (i j : Nat), (kfind k es i).map (·.2) = (kfind k es j).map (·.2)
  | [], _, _ => rfl
  | e :: es, i, j => by simp only [kfind]; split <;> simp [kfind_map k es (i + 1) (j + 1)]

theorem klook_cons (k : α) (e : KEnt α) (es : List (KEnt α)) : klook k (e :: es) = if k = e.key then some e.val else klook k es := by
  simp only [klook, kfind]
  split
  · rfl
  · exact kfind_map k es 1 0

theorem kfind_none {k : α} : ∀ {es : List (KEnt α)} {i : Nat}, klook k es = none → kfind k es i = none
  | [], _, _ => rfl
  | e :: es, i, h => by
    rw [klook_cons] at h
    split at h
    · cases h
    · rename_i hn; simp only [kfind, hn, if_false]; exact kfind_none h

theorem run_lookup (K : KeyTy P kt α enc) (hT : P.underlying T = some (.map kt et)) {z : Value} (hz : ∀ w : World, (zeroValue et).run P w = .ok z w)
    {w : World} {r clock : Nat} {es : List (KEnt α)} (hm : MapAt enc w r es clock) (k : α) :
    (Instr.lookup T (.map (some r)) (enc k) true).run P w = .ok (.tuple #[(klook k es).getD z, .bool (klook k es).isSome]) w := by
  simp only [Instr.lookup, Sem.run_bind, run_underlying hT, Result.andThen_ok, MapKept.run_getObj_map hm, Sem.run_pure, K.check, K.find]
  cases h : kfind k es 0 with
  | none => simp [klook, h, hz]
  | some p => simp [klook, h]

theorem run_setObj_map (w : World) {r clock : Nat} {es : Array MapEntry} (hm : w.heap[r]? = some (.map es clock)) (o : Obj) : (setObj r o).run P w = .ok () (setBlock w r o) := by
  simp [setObj, Sem.run, hm, setBlock]

theorem run_store_new (K : KeyTy P kt α enc) (hT : P.underlying T = some (.map kt et)) {w : World} {r clock : Nat} {es : List (KEnt α)} (hm : MapAt enc w r es clock) (k : α) (v : Value) (hk : klook k es = none) :
    (Instr.mapUpdate T (.map (some r)) (enc k) v).run P w = .ok () (setBlock w r (.map ((es ++ [(⟨k, v, clock⟩ : KEnt α)]).map (KEnt.raw enc)).toArray (clock + 1))) := by
  simp only [Instr.mapUpdate, Sem.run_bind, run_underlying hT, Result.andThen_ok, MapKept.run_getObj_map hm, K.check, K.find, kfind_none hk]
  rw [run_setObj_map w hm]
  simp [KEnt.raw]

/-- What is left behind a delete: the first entry of the key is gone. -/
def kdel (k : α) : List (KEnt α) → List (KEnt α)
  | [] => []
  | e :: es => if k = e.key then es else e :: kdel k es

theorem kdel_idx (k : α) : ∀ (es : List (KEnt α)) (i : Nat), match kfind k es i with
    | some (j, _) => i ≤ j ∧ kdel k es = es.eraseIdx (j - i)
    | none => kdel k es = es
  | [], _ => rfl
  | e :: es, i => by
    simp only [kfind, kdel]
    by_cases h : k = e.key
    · simp [h]
    · simp only [h, if_false]
      have := kdel_idx k es (i + 1)
      cases hf : kfind k es (i + 1) with
      | none => rw [hf] at this; simp only at this ⊢; rw [this]
      | some p =>
        rw [hf] at this
        simp only at this ⊢
        refine ⟨by omega, ?_⟩
        rw [this.2, show p.1 - i = (p.1 - (i + 1)) + 1 by omega]
        rfl

theorem run_delete (K : KeyTy P kt α enc) (hT : P.underlying T = some (.map kt et)) {w : World} {r clock : Nat} {es : List (KEnt α)} (hm : MapAt enc w r es clock) (k : α) (t2 ty : TypeId) :
    (Builtin.delete_ #[T, t2] ty #[.map (some r), enc k]).run P w = .ok (.tuple #[]) (setBlock w r (.map ((kdel k es).map (KEnt.raw enc)).toArray clock)) := by
  have hd := kdel_idx k es 0
  simp only [Builtin.delete_, Sem.run_bind, run_underlying hT, Result.andThen_ok, MapKept.run_getObj_map hm, K.check, K.find, List.getElem?_toArray, List.getElem?_cons_zero, List.getElem?_cons_succ]
  cases h : kfind k es 0 with
  | none =>
    rw [h] at hd
    simp only [Sem.run_bind] at hd ⊢
    rw [run_setObj_map w hm, hd]
    simp
  | some p =>
    rw [h] at hd
    simp only [Nat.sub_zero, Sem.run_bind] at hd ⊢
    rw [run_setObj_map w hm, hd.2]
    simp only [Result.andThen_ok, Sem.run_pure, Array.eraseIdxIfInBounds]
    by_cases hlt : p.1 < es.length
    · rw [dif_pos (by simpa using hlt)]; simp [Go.ChangeMaps.map_eraseIdx]
    · rw [dif_neg (by simpa using hlt), List.eraseIdx_of_length_le (by simpa using hlt)]

omit [DecidableEq α] in
theorem run_length (hT : P.underlying T = some (.map kt et)) {w : World} {r clock : Nat} {es : List (KEnt α)} (hm : MapAt enc w r es clock) (ty : TypeId) :
    (Builtin.len_ #[T] ty #[.map (some r)]).run P w = .ok (.int .i64 es.length) w := by
  simp only [Builtin.len_, List.getElem?_toArray, List.getElem?_cons_zero, Sem.run_bind, run_underlying hT, Result.andThen_ok, MapKept.run_getObj_map hm]
  simp [goInt]
end

/-! ### A map's block among others -/
section
variable {α : Type} {enc : α → Value} {w w' : World} {r clock : Nat} {es : List (KEnt α)}

theorem MapAt.lt (h : MapAt enc w r es clock) : r < w.heap.size := by
  rcases Nat.lt_or_ge r w.heap.size with h' | h'
  · exact h'
  · simp [MapAt, Array.getElem?_eq_none h'] at h
theorem MapAt.drew (h : MapAt enc w r es clock) : MapAt enc w.drew r es clock := h
theorem MapAt.drewN (h : MapAt enc w r es clock) (n : Nat) : MapAt enc (w.drewN n) r es clock := by unfold MapAt at *; simpa [World.drewN] using h
theorem MapAt.alloc (h : MapAt enc w r es clock) (o : Obj) : MapAt enc (w.alloc o) r es clock := by
  have := h.lt; unfold MapAt at *; rw [Below.heap_alloc _ _ _ this]; exact h
theorem MapAt.setCell (h : MapAt enc w r es clock) {p : Addr} (hp : p.block ≠ r) (v : Value) : MapAt enc (w.setCell p v) r es clock := by
  unfold MapAt at *; rw [Below.heap_setCell _ _ _ _ (fun e => hp e.symm)]; exact h
theorem MapAt.off {S : Nat → Prop} (h : MapAt enc w r es clock) (k : Off S w w') (hn : ¬ S r) : MapAt enc w' r es clock := by
  unfold MapAt; rw [k.block r h.lt hn]; exact h
theorem MapAt.set {es' : List (KEnt α)} {clock' : Nat} (h : MapAt enc w r es clock) : MapAt enc (setBlock w r (.map (es'.map (KEnt.raw enc)).toArray clock')) r es' clock' := by
  unfold MapAt setBlock; simp [h.lt]
theorem MapAt.not_blk {b : Nat} {T : TypeId} {cs : Array Value} (h : MapAt enc w r es clock) (hb : Blk w b T cs) : b ≠ r := by
  intro e; subst e; unfold MapAt at h; unfold Blk at hb; rw [hb] at h; cases h

theorem setBlock_other {k : Nat} (hk : k ≠ r) (o : Obj) : (setBlock w r o).heap[k]? = w.heap[k]? := by
  unfold setBlock; simp only [Array.getElem?_setIfInBounds]; rw [if_neg (fun e => hk e.symm)]
theorem setBlock_size (o : Obj) : (setBlock w r o).heap.size = w.heap.size := by unfold setBlock; simp
theorem Off.setBlock {S : Nat → Prop} {a : World} (h : Off S w a) (o : Obj) (hr : r < w.heap.size → S r) : Off S w (setBlock a r o) :=
  ⟨h.os, h.tape, h.output, by rw [setBlock_size]; exact h.size, fun k hk hn => by
    rw [setBlock_other (fun e => hn (by subst e; exact hr hk))]; exact h.block k hk hn⟩
theorem Blk.setBlock {b : Nat} {T : TypeId} {cs : Array Value} (h : Blk w b T cs) (hb : b ≠ r) (o : Obj) : Blk (setBlock w r o) b T cs := by
  unfold Blk at *; rw [setBlock_other hb]; exact h
end
end Go.Proofs.Ytbkgjghbmafoeaa
