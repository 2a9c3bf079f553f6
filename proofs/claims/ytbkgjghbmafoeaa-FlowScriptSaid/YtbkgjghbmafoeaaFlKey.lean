/- Keys of flows as the keys of a map. No conditions. -/
import Derived.Test.YtbkgjghbmafoeaaKMap
import Derived.Test.YtbkgjghbmafoeaaProg
import Derived.Test.YtbkgjghbmafoeaaMPure
import Derived.Laws.StructEq
namespace Go.Proofs.Ytbkgjghbmafoeaa
open Go.RowKit

def keyL (k : FKey) : List Value := [.int .i64 k.1, .int .u64 k.2.1, .int .u64 k.2.2.1, .int .u64 k.2.2.2.1, .int .u64 k.2.2.2.2.1, .int .i64 k.2.2.2.2.2.1, .int .i64 k.2.2.2.2.2.2]
abbrev keyV (k : FKey) : Value := .agg (keyL k).toArray

theorem Try.stood34 : Try.prog.stoodInHeld 34 = false := by kernel_rfl
theorem Try.struct34 : Try.prog.underlying 34 = some (.struct (Try.prog.fieldsOf 34)) := by kernel_rfl
theorem Try.stood36 : Try.prog.stoodInHeld 36 = false := by kernel_rfl
theorem Try.struct36 : Try.prog.underlying 36 = some (.struct (Try.prog.fieldsOf 36)) := by kernel_rfl

theorem addr_eqIn (w : World) (d : Nat) (a1 a2 b1 b2 : Int) : (Op.equalIn (d + 1 + 1) 34 (.agg #[.int .u64 a1, .int .u64 a2]) (.agg #[.int .u64 b1, .int .u64 b2])).run Try.prog w = .ok (decide (a1 = b1 ∧ a2 = b2)) w := by
  rw [run_equalIn_struct w (d + 1) 34 _ _ Try.struct34 Try.stood34]
  simp only [Program.fieldsOf, Try.underlying34]
  simp only [Op.eqFields]
  simp [part, isAgg, run_underlying Try.underlying32, fun (w : World) (a b : Int) => run_equalIn_int (w := w) d 32 .u64 .u64 a b Try.underlying32]
  by_cases h1 : a1 = b1 <;> by_cases h2 : a2 = b2 <;> simp [h1, h2]

theorem key_eqIn (w : World) (d : Nat) (a b : FKey) : (Op.equalIn (d + 1 + 1 + 1) 36 (keyV a) (keyV b)).run Try.prog w = .ok (decide (a = b)) w := by
  unfold keyV keyL
  rw [run_equalIn_struct w (d + 1 + 1) 36 _ _ Try.struct36 Try.stood36]
  simp only [Program.fieldsOf, Try.underlying36]
  simp only [Op.eqFields]
  simp [part, isAgg, run_underlying Try.underlying34, run_underlying Try.underlying3, fun (w : World) (a b : Int) => run_equalIn_int (w := w) (d + 1) 3 .i64 .i64 a b Try.underlying3, addr_eqIn]
  obtain ⟨a1, a2, a3, a4, a5, a6, a7⟩ := a
  obtain ⟨b1, b2, b3, b4, b5, b6, b7⟩ := b
  simp only [Prod.mk.injEq]
  by_cases h1 : a1 = b1 <;> by_cases h2 : a2 = b2 <;> by_cases h3 : a3 = b3 <;> simp [h1, h2, h3]
  by_cases h4 : a4 = b4 <;> by_cases h5 : a5 = b5 <;> by_cases h6 : a6 = b6 <;> by_cases h7 : a7 = b7 <;> simp [h4, h5, h6, h7]

theorem key_eq (w : World) (a b : FKey) : (Op.equal 36 (keyV a) (keyV b)).run Try.prog w = .ok (decide (a = b)) w := by
  unfold Op.equal Op.maxDepth
  exact key_eqIn w 9997 a b

theorem addr_check_at (d : Nat) (w : World) (em : Bool) (a1 a2 : Int) : (Instr.checkKey em (d + 1 + 1) 34 (.agg #[.int .u64 a1, .int .u64 a2])).run Try.prog w = .ok () w := by
  rw [Instr.checkKey]
  simp only [Sem.run_bind, run_underlying Try.underlying34, Result.andThen_ok]
  rw [← Array.forIn_toList]
  simp [part, isAgg, run_underlying Try.underlying32, check_int d Try.underlying32]

theorem key_check_at (d : Nat) (w : World) (em : Bool) (k : FKey) : (Instr.checkKey em (d + 1 + 1 + 1) 36 (keyV k)).run Try.prog w = .ok () w := by
  unfold keyV keyL
  rw [Instr.checkKey]
  simp only [Sem.run_bind, run_underlying Try.underlying36, Result.andThen_ok]
  rw [← Array.forIn_toList]
  simp [part, isAgg, run_underlying Try.underlying34, run_underlying Try.underlying3, check_int (d + 1) Try.underlying3, addr_check_at]

theorem key_key : KeyTy Try.prog 36 FKey keyV :=
  KeyTy.of_eq Try.underlying36 (fun _ _ => rfl) key_eq (fun w em k => key_check_at 9997 w em k) (fun k => by simp [keyV, keyL, Instr.sameBits])
end Go.Proofs.Ytbkgjghbmafoeaa
