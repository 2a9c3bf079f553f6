/- The methods of a row behind its interface. No conditions. -/
import Derived.Test.YtbkgjghbmafoeaaBase
import Derived.Test.YtbkgjghbmafoeaaProg
import Derived.Handy
import Derived.ChangeKeysEq
namespace Go.Proofs.Ytbkgjghbmafoeaa
open Go.RowKit

theorem load87 (w : World) (p : Addr) (v : Value) (h : w.cell? p = some v) : (loadVar 87 p).run Try.prog w = .ok v w := by
  have : (isAgg 87).run Try.prog w = .ok false w := by kernel_rfl
  simp only [loadVar, Sem.run_bind, this, Result.andThen_ok, Bool.false_eq_true, if_false, run_load, h]

theorem meth_row (w : World) (p : Addr) (v : Value) (name : String) (f : FuncId) (k : Nat) (h : w.cell? p = some v)
    (hf : (Try.prog.info? 95).bind (fun i => (i.methods.find? (·.name == name)).map fun m => (m.path, m.func)) = some (#[], some (f, false))) :
    (method (k + 1) 95 (.pointer (some p)) name).run Try.prog w = .ok (f, v) w := by
  cases hi : Try.prog.info? 95 with
  | none => rw [hi] at hf; cases hf
  | some i =>
    rw [hi] at hf
    simp only [Option.bind_some, Option.map_eq_some_iff] at hf
    obtain ⟨m, hm, hp⟩ := hf
    simp only [Prod.mk.injEq] at hp
    have hu : (underlying 95).run Try.prog w = .ok (.pointer 87) w := by kernel_rfl
    have hn : ∀ nm, (Builtin.ssaWrapNilChk_ #[95] 95 #[.pointer (some p), strVal "", strVal nm]).run Try.prog w = .ok (.pointer (some p)) w := fun nm => by
      rfl
    simp only [method, Sem.run_bind, (show (typeInfo 95).run Try.prog w = .ok i w by simp [typeInfo, hi]), Result.andThen_ok, hm, hp.1, hp.2, follow, Array.toList_empty, Sem.run_pure, receiverAt, hu, Place.get, Array.isEmpty_empty, if_true, hn, asAddr, load87 w p v h]
theorem meth_ptr (w : World) (p : Addr) (name : String) (f : FuncId) (k : Nat)
    (hf : (Try.prog.info? 95).bind (fun i => (i.methods.find? (·.name == name)).map fun m => (m.path, m.func)) = some (#[], some (f, true))) :
    (method (k + 1) 95 (.pointer (some p)) name).run Try.prog w = .ok (f, .pointer (some p)) w := by
  cases hi : Try.prog.info? 95 with
  | none => rw [hi] at hf; cases hf
  | some i =>
    rw [hi] at hf
    simp only [Option.bind_some, Option.map_eq_some_iff] at hf
    obtain ⟨m, hm, hp⟩ := hf
    simp only [Prod.mk.injEq] at hp
    have hu : (underlying 95).run Try.prog w = .ok (.pointer 87) w := by kernel_rfl
    simp only [method, Sem.run_bind, (show (typeInfo 95).run Try.prog w = .ok i w by simp [typeInfo, hi]), Result.andThen_ok, hm, hp.1, hp.2, follow, Array.toList_empty, Sem.run_pure, receiverAt, hu, Place.get]
theorem meth_len (w : World) (p : Addr) (v : Value) (h : w.cell? p = some v) : (method 226 95 (.pointer (some p)) "Len").run Try.prog w = .ok (66, v) w :=
  meth_row w p v "Len" 66 225 h (by kernel_rfl)
theorem meth_less (w : World) (p : Addr) (v : Value) (h : w.cell? p = some v) : (method 226 95 (.pointer (some p)) "Less").run Try.prog w = .ok (67, v) w :=
  meth_row w p v "Less" 67 225 h (by kernel_rfl)
theorem meth_swap (w : World) (p : Addr) (v : Value) (h : w.cell? p = some v) : (method 226 95 (.pointer (some p)) "Swap").run Try.prog w = .ok (68, v) w :=
  meth_row w p v "Swap" 68 225 h (by kernel_rfl)
theorem meth_pop (w : World) (p : Addr) : (method 226 95 (.pointer (some p)) "Pop").run Try.prog w = .ok (69, .pointer (some p)) w :=
  meth_ptr w p "Pop" 69 225 (by kernel_rfl)
theorem meth_push (w : World) (p : Addr) : (method 226 95 (.pointer (some p)) "Push").run Try.prog w = .ok (70, .pointer (some p)) w :=
  meth_ptr w p "Push" 70 225 (by kernel_rfl)
end Go.Proofs.Ytbkgjghbmafoeaa
