/- Flows and keys that came in: by value, or in a slice of steps. No conditions. -/
import Derived.Test.YtbkgjghbmafoeaaFlAt
import Derived.Test.YtbkgjghbmafoeaaMSmall
namespace Go.Proofs.Ytbkgjghbmafoeaa
open Go.RowKit

def keyKs : List IntKind := [.i64, .u64, .u64, .u64, .u64, .i64, .i64]
def flKs : List IntKind := [.i64, .i64, .u64, .u64, .u64, .u64, .i64, .i64, .i64, .u64, .u64, .u64, .u64, .i64, .i64, .i64, .i64, .i64, .i64, .i64]

def keyAt (ns : List Int) (o : Nat) : FKey := (ns.getD o 0, ns.getD (o + 1) 0, ns.getD (o + 2) 0, ns.getD (o + 3) 0, ns.getD (o + 4) 0, ns.getD (o + 5) 0, ns.getD (o + 6) 0)
def flAt (ns : List Int) (o : Nat) : Fl := ⟨ns.getD o 0, keyAt ns (o + 1), keyAt ns (o + 8), ns.getD (o + 15) 0, ns.getD (o + 16) 0, ns.getD (o + 17) 0, ns.getD (o + 18) 0, ns.getD (o + 19) 0⟩

theorem keyL_at (ns : List Int) (o : Nat) (j : Nat) (k : IntKind) (h : keyKs[j]? = some k) : (keyL (keyAt ns o))[j]? = some (Value.int k (ns.getD (o + j) 0)) := by
  rcases j with _ | _ | _ | _ | _ | _ | _ | j
  · simp only [keyKs, List.getElem?_cons_zero, Option.some.injEq] at h; subst h; rfl
  · simp only [keyKs, List.getElem?_cons_zero, List.getElem?_cons_succ, Option.some.injEq] at h; subst h; rfl
  · simp only [keyKs, List.getElem?_cons_zero, List.getElem?_cons_succ, Option.some.injEq] at h; subst h; rfl
  · simp only [keyKs, List.getElem?_cons_zero, List.getElem?_cons_succ, Option.some.injEq] at h; subst h; rfl
  · simp only [keyKs, List.getElem?_cons_zero, List.getElem?_cons_succ, Option.some.injEq] at h; subst h; rfl
  · simp only [keyKs, List.getElem?_cons_zero, List.getElem?_cons_succ, Option.some.injEq] at h; subst h; rfl
  · simp only [keyKs, List.getElem?_cons_zero, List.getElem?_cons_succ, Option.some.injEq] at h; subst h; rfl
  · simp [keyKs] at h

theorem flL_at (ns : List Int) (o : Nat) (j : Nat) (k : IntKind) (h : flKs[j]? = some k) : (flL (flAt ns o))[j]? = some (Value.int k (ns.getD (o + j) 0)) := by
  rcases j with _ | _ | _ | _ | _ | _ | _ | _ | _ | _ | _ | _ | _ | _ | _ | _ | _ | _ | _ | _ | j
  · simp only [flKs, List.getElem?_cons_zero, Option.some.injEq] at h; subst h; rfl
  · simp only [flKs, List.getElem?_cons_zero, List.getElem?_cons_succ, Option.some.injEq] at h; subst h; rfl
  · simp only [flKs, List.getElem?_cons_zero, List.getElem?_cons_succ, Option.some.injEq] at h; subst h; rfl
  · simp only [flKs, List.getElem?_cons_zero, List.getElem?_cons_succ, Option.some.injEq] at h; subst h; rfl
  · simp only [flKs, List.getElem?_cons_zero, List.getElem?_cons_succ, Option.some.injEq] at h; subst h; rfl
  · simp only [flKs, List.getElem?_cons_zero, List.getElem?_cons_succ, Option.some.injEq] at h; subst h; rfl
  · simp only [flKs, List.getElem?_cons_zero, List.getElem?_cons_succ, Option.some.injEq] at h; subst h; rfl
  · simp only [flKs, List.getElem?_cons_zero, List.getElem?_cons_succ, Option.some.injEq] at h; subst h; rfl
  · simp only [flKs, List.getElem?_cons_zero, List.getElem?_cons_succ, Option.some.injEq] at h; subst h; rfl
  · simp only [flKs, List.getElem?_cons_zero, List.getElem?_cons_succ, Option.some.injEq] at h; subst h; rfl
  · simp only [flKs, List.getElem?_cons_zero, List.getElem?_cons_succ, Option.some.injEq] at h; subst h; rfl
  · simp only [flKs, List.getElem?_cons_zero, List.getElem?_cons_succ, Option.some.injEq] at h; subst h; rfl
  · simp only [flKs, List.getElem?_cons_zero, List.getElem?_cons_succ, Option.some.injEq] at h; subst h; rfl
  · simp only [flKs, List.getElem?_cons_zero, List.getElem?_cons_succ, Option.some.injEq] at h; subst h; rfl
  · simp only [flKs, List.getElem?_cons_zero, List.getElem?_cons_succ, Option.some.injEq] at h; subst h; rfl
  · simp only [flKs, List.getElem?_cons_zero, List.getElem?_cons_succ, Option.some.injEq] at h; subst h; rfl
  · simp only [flKs, List.getElem?_cons_zero, List.getElem?_cons_succ, Option.some.injEq] at h; subst h; rfl
  · simp only [flKs, List.getElem?_cons_zero, List.getElem?_cons_succ, Option.some.injEq] at h; subst h; rfl
  · simp only [flKs, List.getElem?_cons_zero, List.getElem?_cons_succ, Option.some.injEq] at h; subst h; rfl
  · simp only [flKs, List.getElem?_cons_zero, List.getElem?_cons_succ, Option.some.injEq] at h; subst h; rfl
  · simp [flKs] at h

theorem fl_of {c : Array Value} (h : AreInts flKs c.toList) : ∃ f : Fl, c = (flL f).toArray := by
  have hl := h.length
  obtain ⟨ns, _, hn⟩ := h.nums
  refine ⟨flAt ns 0, ?_⟩
  have : c.toList = flL (flAt ns 0) := List.ext_getElem? fun j => by
    by_cases hj : j < 20
    · obtain ⟨k, hk⟩ : ∃ k, flKs[j]? = some k := ⟨flKs[j]'(by simpa [flKs] using hj), List.getElem?_eq_getElem _⟩
      rw [(hn j k hk).1, flL_at ns 0 j k hk, Nat.zero_add]
    · rw [List.getElem?_eq_none (by rw [hl]; simp [flKs]; omega), List.getElem?_eq_none (by simp [flL]; omega)]
  rw [← this]
theorem key_of {c : Array Value} (h : AreInts keyKs c.toList) : ∃ k : FKey, c = (keyL k).toArray := by
  have hl := h.length
  obtain ⟨ns, _, hn⟩ := h.nums
  refine ⟨keyAt ns 0, ?_⟩
  have : c.toList = keyL (keyAt ns 0) := List.ext_getElem? fun j => by
    by_cases hj : j < 7
    · obtain ⟨k, hk⟩ : ∃ k, keyKs[j]? = some k := ⟨keyKs[j]'(by simpa [keyKs] using hj), List.getElem?_eq_getElem _⟩
      rw [(hn j k hk).1, keyL_at ns 0 j k hk, Nat.zero_add]
    · rw [List.getElem?_eq_none (by rw [hl]; simp [keyKs]; omega), List.getElem?_eq_none (by simp [keyL]; omega)]
  rw [← this]

/-- A step: kind, number, state, ends; a flow. -/
def stepKs : List IntKind := [.i64, .i64, .i64, .i64] ++ flKs

theorem step_fl {ns : List Int} : ∀ j k, flKs[j]? = some k → stepKs[4 + j]? = some k ∧ (flL (flAt ns 4))[j]? = some (Value.int k (ns.getD (4 + j) 0)) := fun j k h =>
  ⟨by unfold stepKs; rw [List.getElem?_append_right (by simp)]; simpa using h, flL_at ns 4 j k h⟩

/-- The flow of a step that came in. -/
theorem step_range {w w' : World} {a : Option Addr} {len : Nat} {F : Nat → List Int} (h : Elems stepKs w a len F) (hb : Below w.heap.size w w') {i : Nat} (hi : i < len) :
    ∃ b off, a = some ⟨b, off, none⟩ ∧ b < w.heap.size ∧ w'.cell? ⟨b, off + i * 24, none⟩ = some (.int .i64 ((F i).getD 0 0)) ∧ w'.cell? ⟨b, off + i * 24 + 1, none⟩ = some (.int .i64 ((F i).getD 1 0)) ∧
      w'.cell? ⟨b, off + i * 24 + 2, none⟩ = some (.int .i64 ((F i).getD 2 0)) ∧ w'.cell? ⟨b, off + i * 24 + 3, none⟩ = some (.int .i64 ((F i).getD 3 0)) ∧ w'.rangeAt b (off + i * 24 + 4) (flL (flAt (F i) 4)) := by
  obtain ⟨b, off, ha, hlt, hc⟩ := h i hi
  have hc' : ∀ j k, stepKs[j]? = some k → w'.cell? ⟨b, off + i * 24 + j, none⟩ = some (.int k ((F i).getD j 0)) := fun j k hj => by
    rw [hb.cell (p := ⟨b, off + i * 24 + j, none⟩) hlt]; exact (hc j k hj).1
  refine ⟨b, off, ha, hlt, hc' 0 _ rfl, hc' 1 _ rfl, hc' 2 _ rfl, hc' 3 _ rfl, fun j v hj => ?_⟩
  have hj' : j < 20 := by
    rcases Nat.lt_or_ge j 20 with h' | h'
    · exact h'
    · rw [List.getElem?_eq_none (by simp [flL]; omega)] at hj; cases hj
  obtain ⟨k, hk⟩ : ∃ k, flKs[j]? = some k := ⟨flKs[j]'(by simpa [flKs] using hj'), List.getElem?_eq_getElem _⟩
  obtain ⟨h1, h2⟩ := step_fl (ns := F i) j k hk
  rw [h2] at hj
  rw [Nat.add_assoc, hc' _ _ h1]; exact hj
end Go.Proofs.Ytbkgjghbmafoeaa
