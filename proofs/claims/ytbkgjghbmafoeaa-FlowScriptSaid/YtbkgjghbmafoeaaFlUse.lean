/- Small words that several walks over the table share. No conditions. -/
import Derived.Test.YtbkgjghbmafoeaaFlAddB
namespace Go.Proofs.Ytbkgjghbmafoeaa
open Go.RowKit

theorem blk_keep {w w' : World} {b T base : Nat} {cs : Array Value} {U : Nat → Prop} (h : Blk w b T cs) (k : Off U w w') (hU : ∀ i, U i → base ≤ i) (hb : b < base) : Blk w' b T cs :=
  k.blk h fun e => by have := hU b e; omega

theorem addF_nil (f : Fl) (h : f.opn ≠ f.bck) : addF [] f = (1, 0, 0, [{ f with id := 1 }]) := by
  simp [addF, tkn, fnd, h, free, insF]
theorem addF_nil' (f : Fl) (h : f.opn = f.bck) : addF [] f = (0, 0, 63, []) := by
  simp [addF, tkn, fnd, h]

theorem box_fl {w : World} {N : Nat} {f : Fl} (h : Blk w N 38 (flL f).toArray) : w.rangeAt N 0 (flL f) := range_blk h 0 (flL f) (fun j v hj => by simpa using hj)
theorem box_key {w : World} {N : Nat} {k : FKey} (h : Blk w N 36 (keyL k).toArray) : w.rangeAt N 0 (keyL k) := range_blk h 0 (keyL k) (fun j v hj => by simpa using hj)

/-- The flow as it came in. -/
abbrev fl1 (f : Fl) : Fl := { f with id := 1 }

theorem fnd1 (f : Fl) (k : FKey) : fnd [fl1 f] k = if f.opn = k then some (fl1 f, false) else if f.bck = k then some (fl1 f, true) else none := by simp [fnd]
theorem tkn1 (f : Fl) (k : FKey) : tkn [] k = false := rfl

theorem own_shape {w : World} {base T sz n : Nat} {v : Value} {xs : List Value} (h : w.ownsRow base T sz v n xs) : ∃ a cap, v = .slice a n cap := by
  obtain ⟨hl, ⟨rfl, rfl⟩ | ⟨g, cap, cur, rfl, _⟩⟩ := h
  · exact ⟨none, 0, rfl⟩
  · exact ⟨_, _, rfl⟩

/-- What Find answered, kept: the flow in its block. -/
theorem findV_some (g : Fl) (b : Bool) : findV (some (g, b)) = .tuple #[flV g, .bool b, .bool true] := rfl
theorem findV_none : findV none = .tuple #[flV fl0, .bool false, .bool false] := rfl

end Go.Proofs.Ytbkgjghbmafoeaa
