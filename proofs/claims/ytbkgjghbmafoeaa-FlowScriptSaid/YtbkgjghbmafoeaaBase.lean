/- Words for walks: a block known whole, and what a call leaves as it was. No conditions. -/
import Derived.WalkKit
import Derived.WalkSpells
import Derived.WalkLawsBesides
import Derived.BigQuiet
import Derived.Deep.QuietTactic
import Derived.Lib.Hide
namespace Go.Proofs.Ytbkgjghbmafoeaa
open Go.RowKit

/-- Block b holds these cells, of elements of type T; none is frozen. -/
def Blk (w : World) (b : Nat) (T : TypeId) (cs : Array Value) : Prop := w.heap[b]? = some (.cells cs T (0, 0))

/-- All blocks but those in S are as they were; the streams too; no block has gone. -/
structure Off (S : Nat → Prop) (w w' : World) : Prop where
  os : w'.os = w.os
  tape : w'.tape = w.tape
  output : w'.output = w.output
  size : w.heap.size ≤ w'.heap.size
  block : ∀ k, k < w.heap.size → ¬ S k → w'.heap[k]? = w.heap[k]?

namespace Off
variable {S S' : Nat → Prop} {w a b : World}

theorem refl (S : Nat → Prop) (w : World) : Off S w w := ⟨rfl, rfl, rfl, Nat.le_refl _, fun _ _ _ => rfl⟩

theorem trans (h : Off S w a) (k : Off S a b) : Off S w b :=
  ⟨k.os.trans h.os, k.tape.trans h.tape, k.output.trans h.output, Nat.le_trans h.size k.size,
    fun i hi hn => (k.block i (Nat.lt_of_lt_of_le hi h.size) hn).trans (h.block i hi hn)⟩

/-- What is written in the second step is new, or lies in S. -/
theorem step (h : Off S w a) (k : Off S' a b) (hS : ∀ i, i < w.heap.size → S' i → S i) : Off S w b :=
  ⟨k.os.trans h.os, k.tape.trans h.tape, k.output.trans h.output, Nat.le_trans h.size k.size,
    fun i hi hn => (k.block i (Nat.lt_of_lt_of_le hi h.size) fun h' => hn (hS i hi h')).trans (h.block i hi hn)⟩

theorem mono (h : Off S w a) (hS : ∀ i, i < w.heap.size → S i → S' i) : Off S' w a :=
  ⟨h.os, h.tape, h.output, h.size, fun i hi hn => h.block i hi fun h' => hn (hS i hi h')⟩

theorem drew (h : Off S w a) : Off S w a.drew := ⟨h.os, h.tape, h.output, h.size, h.block⟩

theorem drewN (h : Off S w a) (n : Nat) : Off S w (a.drewN n) := by
  refine ⟨?_, ?_, ?_, ?_, ?_⟩
  · rw [← h.os]; simp [World.drewN]
  · rw [← h.tape]; simp [World.drewN]
  · rw [← h.output]; simp [World.drewN]
  · simpa [World.drewN] using h.size
  · intro k hk hn; simpa [World.drewN] using h.block k hk hn

theorem alloc (h : Off S w a) (o : Obj) : Off S w (a.alloc o) :=
  ⟨h.os, h.tape, h.output, by have := h.size; simp; omega, fun k hk hn => by
    rw [Below.heap_alloc _ _ _ (Nat.lt_of_lt_of_le hk h.size)]; exact h.block k hk hn⟩

/-- A store into a block in S, or into a new one. -/
theorem setCell (h : Off S w a) {p : Addr} (v : Value) (hp : p.block < w.heap.size → S p.block) : Off S w (a.setCell p v) :=
  ⟨h.os, h.tape, h.output, by simpa using h.size, fun k hk hn => by
    rw [Below.heap_setCell _ _ _ _ (fun e => hn (by subst e; exact hp hk))]; exact h.block k hk hn⟩

theorem setAt {b : Nat} (h : Off (· = b) w a) (i : Nat) (v : Value) : Off (· = b) w (a.setCell ⟨b, i, none⟩ v) := h.setCell v fun _ => rfl

theorem below (h : Off S w a) {B : Nat} (hB : B ≤ w.heap.size) (hS : ∀ i, i < B → ¬ S i) : Below B w a :=
  ⟨h.os, h.tape, h.output, h.size, fun k hk => h.block k (Nat.lt_of_lt_of_le hk hB) (hS k hk)⟩

theorem of_below (h : Below w.heap.size w a) : Off S w a := ⟨h.os, h.tape, h.output, h.size, fun k hk _ => h.block k hk⟩

theorem blk (h : Off S w a) {b : Nat} {T : TypeId} {cs : Array Value} (hb : Blk w b T cs) (hn : ¬ S b) : Blk a b T cs := by
  have hlt : b < w.heap.size := by
    rcases Nat.lt_or_ge b w.heap.size with h' | h'
    · exact h'
    · simp [Blk, Array.getElem?_eq_none h'] at hb
  unfold Blk; rw [h.block b hlt hn]; exact hb

theorem cell (h : Off S w a) {p : Addr} (hp : p.block < w.heap.size) (hn : ¬ S p.block) : a.cell? p = w.cell? p :=
  World.cell?_of_block (w := w) (h.block p.block hp hn)
end Off

namespace Blk
variable {w : World} {b : Nat} {T : TypeId} {cs : Array Value}

theorem lt (h : Blk w b T cs) : b < w.heap.size := by
  rcases Nat.lt_or_ge b w.heap.size with h' | h'
  · exact h'
  · simp [Blk, Array.getElem?_eq_none h'] at h

theorem cell (h : Blk w b T cs) (i : Nat) : w.cell? ⟨b, i, none⟩ = cs[i]? := by
  unfold Blk at h; simp [World.cell?, h]

theorem free (h : Blk w b T cs) (i : Nat) : w.frozen? ⟨b, i, none⟩ = false := by
  unfold Blk at h; simp [World.frozen?, h]

theorem drew (h : Blk w b T cs) : Blk w.drew b T cs := h

theorem drewN (h : Blk w b T cs) (n : Nat) : Blk (w.drewN n) b T cs := by
  unfold Blk at *; simpa [World.drewN] using h

theorem setCell (h : Blk w b T cs) (i : Nat) (v : Value) : Blk (w.setCell ⟨b, i, none⟩ v) b T (cs.setIfInBounds i v) := by
  unfold Blk at *; simp only [World.setCell, Array.getElem?_modify, if_true, h]; simp

theorem setOther (h : Blk w b T cs) {p : Addr} (hp : p.block ≠ b) (v : Value) : Blk (w.setCell p v) b T cs := by
  unfold Blk at *; rw [Below.heap_setCell _ _ _ _ (fun e => hp e.symm)]; exact h

theorem alloc (h : Blk w b T cs) (o : Obj) : Blk (w.alloc o) b T cs := by
  have := h.lt
  unfold Blk at *; rw [Below.heap_alloc _ _ _ this]; exact h

theorem new (w : World) (T : TypeId) (cs : Array Value) : Blk (w.alloc (.cells cs T)) w.heap.size T cs := by
  show (w.heap.push _)[w.heap.size]? = _; simp
end Blk

end Go.Proofs.Ytbkgjghbmafoeaa
