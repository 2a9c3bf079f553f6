/- What a Take leaves of the document's meters in memory. No conditions. -/
import Derived.Test.YtepibimlmfhceaaRt
namespace Go.Proofs.Ytepibimlmfhceaa
open Go.RowKit

def rFull (now : Int) (e : REnt) : Bool := (e.s.learn now).tokens == e.s.burst
def rLearn (now : Int) (e : REnt) : REnt := { e with s := e.s.learn now }

def RTakeR (rate burst : Int) (l : List REnt) (a : Int × Int) (now : Int) (l' : List REnt) (ok room : Bool) : Prop :=
  (∃ i x, l[i]? = some x ∧ x.a = a ∧ l' = l.eraseIdx i ++ [{ x with s := x.s.took now 1 }] ∧ ok = x.s.takes now 1 ∧ room = true) ∨
  ((∀ e ∈ l, e.a ≠ a) ∧ l.length < 32 ∧ ∃ n : REnt, n.a = a ∧ n.s = (Bk.new rate burst now).took now 1 ∧ l' = l ++ [n] ∧ ok = (Bk.new rate burst now).takes now 1 ∧ room = true) ∨
  ((∀ e ∈ l, e.a ≠ a) ∧ l.length = 32 ∧ ∃ k x, l[k]? = some x ∧ rFull now x = true ∧ (∀ j y, j < k → l[j]? = some y → rFull now y = false) ∧
    ∃ n : REnt, n.a = a ∧ n.s = (Bk.new rate burst now).took now 1 ∧ l' = (l.map (rLearn now)).eraseIdx k ++ [n] ∧ ok = (Bk.new rate burst now).takes now 1 ∧ room = true) ∨
  ((∀ e ∈ l, e.a ≠ a) ∧ l.length = 32 ∧ (∀ e ∈ l, rFull now e = false) ∧ l' = l.map (rLearn now) ∧ ok = false ∧ room = false)

def RTake (rb : Nat) (rate burst : Int) (v : Value) (l : List REnt) (a : Int × Int) (now : Int) (w : World) (e : Ending) (w' : World) : Prop :=
  ∃ v' l' ok room, e = .returned (.tuple #[.bool ok, .bool room]) ∧ RTakeR rate burst l a now l' ok room ∧ RAt w' rb rate burst v' l' ∧ Off (ROwn rb v l) w w' ∧
    ∀ i, ROwn rb v' l' i → ROwn rb v l i ∨ w.heap.size ≤ i

/-- Whoever is left is another. -/
theorem erased_ne {α β : Type} {f : α → β} {x : α} : ∀ {l : List α} {k : Nat}, (l.map f).Nodup → l[k]? = some x → ∀ y ∈ l.eraseIdx k, f y ≠ f x
  | [], k, _, h, _, _ => by simp at h
  | a :: l, 0, hn, h, y, hy => by
    simp only [List.getElem?_cons_zero, Option.some.injEq] at h
    subst h
    simp only [List.map_cons, List.nodup_cons] at hn
    intro e
    exact hn.1 (e ▸ List.mem_map_of_mem (by simpa using hy))
  | a :: l, k + 1, hn, h, y, hy => by
    simp only [List.getElem?_cons_succ] at h
    simp only [List.map_cons, List.nodup_cons] at hn
    rw [List.eraseIdx_cons_succ] at hy
    rcases List.mem_cons.1 hy with rfl | hy
    · intro e; exact hn.1 (e ▸ List.mem_map_of_mem (List.mem_of_getElem? h))
    · exact erased_ne hn.2 h y hy

/-- One more behind the last. -/
theorem RAt.snoc {w w' : World} {rb : Nat} {rate burst : Int} {v v' : Value} {l : List REnt} {n : REnt} {S : Nat → Prop} (h : RAt w rb rate burst v l) (hO : Off S w w')
    (hS1 : ∀ e ∈ l, ¬ S e.o) (hS2 : ∀ e ∈ l, ¬ S e.c) (hc : ∀ e ∈ l, e.c ≠ n.c) (ha : ∀ e ∈ l, e.a ≠ n.a) (hlen : l.length < 32)
    (top : Blk w' rb 59 #[.int .i64 rate, .int .i64 burst, v']) (row : w'.ownsRow 0 76 1 v' (l.length + 1) (l.map REnt.ptr ++ [n.ptr]))
    (one : Blk w' n.o 75 #[.int .u64 n.a.1, .int .u64 n.a.2, .pointer (some ⟨n.c, 0, none⟩)]) (bk : BAt 61 w' n.c n.s) (hs : n.s.Ok) :
    RAt w' rb rate burst v' (l ++ [n]) where
  top := top
  row := by rw [List.length_append, List.map_append]; exact row
  one := fun y hy => by
    rcases List.mem_append.1 hy with hy | hy
    · exact hO.blk (h.one y hy) (hS1 y hy)
    · obtain rfl := List.mem_singleton.1 hy
      exact one
  bk := fun y hy => by
    rcases List.mem_append.1 hy with hy | hy
    · exact hO.blk (h.bk y hy) (hS2 y hy)
    · obtain rfl := List.mem_singleton.1 hy
      exact bk
  ok := fun y hy => by
    rcases List.mem_append.1 hy with hy | hy
    · exact h.ok y hy
    · obtain rfl := List.mem_singleton.1 hy; exact hs
  keys := by
    rw [List.map_append]
    refine nodup_snoc h.keys fun hm => ?_
    obtain ⟨y, hy, hye⟩ := List.mem_map.1 hm
    exact ha y hy hye
  cs := by
    rw [List.map_append]
    refine nodup_snoc h.cs fun hm => ?_
    obtain ⟨y, hy, hye⟩ := List.mem_map.1 hm
    exact hc y hy hye
  few := by rw [List.length_append]; simp; omega
end Go.Proofs.Ytepibimlmfhceaa
