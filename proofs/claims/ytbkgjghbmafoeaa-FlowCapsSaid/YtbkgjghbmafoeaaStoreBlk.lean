/- A whole block stored, loaded, at once; a struct's zero. No conditions. -/
import Derived.Test.YtbkgjghbmafoeaaBase
import Derived.Laws.Tables
import Derived.Laws.Rows
namespace Go.Proofs.Ytbkgjghbmafoeaa
open Go.RowKit
section
variable {P : Program} {ops : Array Oper} {rest : List Oper} {o : Oper} {a : Act} {w : World} {Q : Exit → Act → World → Prop}

theorem off_setRow {w : World} {b : Nat} {cs : Array Value} : Off (· = b) w (w.setRow b cs) :=
  ⟨rfl, rfl, rfl, by simp [World.setRow], fun k _ hn => setRow_other w b k cs hn⟩

/-- A store over a whole block. -/
theorem wpList_store_blk (hgd : o.guard = none) (ty : TypeId) (x y : Operand) (ho : o.op = .store ty x y) (b : Nat) (t : TypeId) (old cells : Array Value) (hb : Blk w b t old)
    (hx : a.eval x = .pointer (some ⟨b, 0, none⟩)) (hy : a.eval y = .agg cells) (hi : (P.info? ty).map (·.size) = some cells.size) (hold : old.size = cells.size) (h1 : cells.all (·.oneCell') = true)
    (h : ∀ w', Off (· = b) w w' → Blk w' b t cells → wpList P ops Q rest (a.put o.dst undef) w') : wpList P ops Q (o :: rest) a w :=
  wpList_store_row hgd ty x y ho b cells hx hy t old hb hi hold h1 (h _ off_setRow (setRow_heap w b old cells t (0, 0) hb))
end
end Go.Proofs.Ytbkgjghbmafoeaa
