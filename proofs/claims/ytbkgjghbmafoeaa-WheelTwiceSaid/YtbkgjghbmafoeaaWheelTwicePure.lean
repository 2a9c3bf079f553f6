/- The plain law of what is due twice. No program in sight. -/
import Derived.Test.YtbkgjghbmafoeaaWheelDue
namespace Go.Proofs.Ytbkgjghbmafoeaa
open Go.RowKit

theorem due_twice {now later : Int} (h : now ≤ later) : ∀ {L : List Tm}, Srt L → dueIds now L ++ dueIds later (dueRest now L) = dueIds later L ∧ dueRest later (dueRest now L) = dueRest later L
  | [], _ => ⟨rfl, rfl⟩
  | x :: L, hs => by
    have ih := due_twice h (L := L) (hs.sub (List.sublist_cons_self x L))
    by_cases hx : x.2 ≤ now
    · have h1 : isDue now x = true := by simpa [isDue] using hx
      have h2 : isDue later x = true := by simp only [isDue, decide_eq_true_eq]; omega
      unfold dueIds dueRest at *
      simp only [List.takeWhile_cons, List.dropWhile_cons, h1, h2, if_true, List.map_cons, List.cons_append]
      exact ⟨by rw [ih.1], ih.2⟩
    · have h1 : isDue now x = false := by simpa [isDue] using hx
      unfold dueIds dueRest at *
      simp only [List.takeWhile_cons, List.dropWhile_cons, h1, Bool.false_eq_true, if_false, List.map_nil, List.nil_append]
      exact ⟨trivial, trivial⟩
end Go.Proofs.Ytbkgjghbmafoeaa
