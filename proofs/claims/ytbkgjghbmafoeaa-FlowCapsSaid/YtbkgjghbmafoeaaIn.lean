/- Words for arguments that are slices of integers: an element is a number of its kind. No conditions. -/
import Derived.Test.YtbkgjghbmafoeaaBase
import Derived.OpenShut
namespace Go.Proofs.Ytbkgjghbmafoeaa
open Go.RowKit

/-- A slice of integers that came in: each element's cell holds a number of its kind. -/
def Ints (k : IntKind) (w : World) (a : Option Addr) (len : Nat) (lo hi : Int) (zs : List Int) : Prop :=
  len ≤ zs.length ∧ ∀ i, i < len → ∃ b off, a = some ⟨b, off, none⟩ ∧ b < w.heap.size ∧ w.cell? ⟨b, off + i, none⟩ = some (.int k (zs.getD i 0)) ∧ lo ≤ zs.getD i 0 ∧ zs.getD i 0 ≤ hi

theorem Ints.of_row {k : IntKind} {w : World} {x : Addr} {len cap : Nat} {zs : List Int} {lo hi : Int} (hl : len ≤ cap) (hz : zs.length = cap)
    (hc : ∀ i, i < zs.length → w.cell? (x.add i) = some (.int k (zs.getD i 0))) (hb : ∀ n ∈ zs, lo ≤ n ∧ n ≤ hi) : Ints k w (some x) len lo hi zs := by
  refine ⟨by omega, fun i hi' => ?_⟩
  obtain ⟨b, off, rfl, hcell⟩ := ints_at hc (by omega)
  have hlt : i < zs.length := by omega
  have hmem : zs.getD i 0 ∈ zs := by
    rw [List.getD_eq_getElem?_getD, List.getElem?_eq_getElem hlt]; exact List.getElem_mem hlt
  exact ⟨b, off, rfl, World.block_lt_of_cell? _ _ (hcell i hlt), hcell i hlt, (hb _ hmem).1, (hb _ hmem).2⟩

theorem Ints.nil (k : IntKind) (w : World) (a : Option Addr) (lo hi : Int) : Ints k w a 0 lo hi [] := ⟨Nat.le_refl _, fun i h => absurd h (Nat.not_lt_zero i)⟩

/-- The element k in a later world: the slice leads to a block, its cell holds a number. -/
theorem Ints.at {k : IntKind} {w w' : World} {a : Option Addr} {len : Nat} {zs : List Int} {lo hi : Int} (h : Ints k w a len lo hi zs) (hb : Below w.heap.size w w') {i : Nat} (hi' : i < len) :
    ∃ b off, a = some ⟨b, off, none⟩ ∧ w'.cell? ⟨b, off + i, none⟩ = some (.int k (zs.getD i 0)) ∧ lo ≤ zs.getD i 0 ∧ zs.getD i 0 ≤ hi := by
  obtain ⟨b, off, ha, hlt, hc, h0, h1⟩ := h.2 i hi'
  exact ⟨b, off, ha, by rw [hb.cell (p := ⟨b, off + i, none⟩) hlt]; exact hc, h0, h1⟩
/-- What the row tells of a slice of integers that came in: it is nil; or it leads to a row of cap cells, the numbers zs. -/
def IsRow (k : IntKind) (w : World) (a : Option Addr) (len cap : Nat) (zs : List Int) : Prop :=
  (a = none ∧ len = 0 ∧ cap = 0 ∧ zs = []) ∨
  ∃ x, a = some x ∧ len ≤ cap ∧ cap ≤ maxLen ∧ zs.length = cap ∧ (∀ i, i < zs.length → w.cell? (x.add i) = some (.int k (zs.getD i 0))) ∧ ∀ n ∈ zs, (Lit.int k n).wf = true

theorem IsRow.ints {k : IntKind} {w : World} {a : Option Addr} {len cap : Nat} {zs : List Int} {lo hi : Int} (h : IsRow k w a len cap zs) (hk : ∀ n, (Lit.int k n).wf = true → lo ≤ n ∧ n ≤ hi) :
    Ints k w a len lo hi zs ∧ len ≤ maxLen := by
  rcases h with ⟨rfl, rfl, rfl, rfl⟩ | ⟨x, rfl, hl, hm, hz, hc, hw⟩
  · exact ⟨Ints.nil _ _ _ _ _, Nat.zero_le _⟩
  · exact ⟨Ints.of_row hl hz hc fun n hn => hk n (hw n hn), by omega⟩

theorem I64_of_wf {n : Int} (h : (Lit.int .i64 n).wf = true) : -9223372036854775808 ≤ n ∧ n ≤ 9223372036854775807 := bounds_i64 h

end Go.Proofs.Ytbkgjghbmafoeaa
