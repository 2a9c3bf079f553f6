/- A struct of few whole numbers, by value: its numbers. No conditions. -/
import Derived.Test.YtepibimlmfhceaaFlat
namespace Go.Proofs.Ytepibimlmfhceaa
open Go.RowKit

theorem flat2_of {k0 k1 : IntKind} {c : Array Value} (h : AreInts [k0, k1] c.toList) : ∃ n0 n1 : Int, c = #[.int k0 n0, .int k1 n1] ∧ (Lit.int k0 n0).wf = true ∧ (Lit.int k1 n1).wf = true := by
  obtain ⟨cs⟩ := c
  match cs, h with
  | [a, b], ⟨⟨n0, e0, w0⟩, ⟨n1, e1, w1⟩, _⟩ => exact ⟨n0, n1, by rw [e0, e1], w0, w1⟩
  | [], h => exact h.elim
  | [_], h => exact h.2.elim
  | _ :: _ :: _ :: _, h => exact h.2.2.elim
end Go.Proofs.Ytepibimlmfhceaa
