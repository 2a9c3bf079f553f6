/- Addresses as the keys of a map. No conditions. -/
import Derived.Test.YtepibimlmfhceaaKMap
import Derived.Test.YtepibimlmfhceaaProg
import Derived.Laws.StructEq
namespace Go.Proofs.Ytepibimlmfhceaa
open Go.RowKit
def addrV (a : Int × Int) : Value := .agg #[.int .u64 a.1, .int .u64 a.2]

theorem Try.stood46 : Try.prog.stoodInHeld 46 = false := by kernel_rfl
theorem Try.struct46 : Try.prog.underlying 46 = some (.struct (Try.prog.fieldsOf 46)) := by kernel_rfl

theorem addr_eq (w : World) (a b : Int × Int) : (Op.equal 46 (addrV a) (addrV b)).run Try.prog w = .ok (decide (a = b)) w := by
  unfold Op.equal Op.maxDepth addrV
  rw [run_equalIn_struct w 9999 46 _ _ Try.struct46 Try.stood46]
  simp only [Program.fieldsOf, Try.underlying46]
  simp only [Op.eqFields]
  simp [part, isAgg, run_underlying Try.underlying44, run_equalIn_int _ 9998 44 .u64 .u64 _ _ Try.underlying44]
  obtain ⟨a1, a2⟩ := a; obtain ⟨b1, b2⟩ := b
  by_cases h1 : a1 = b1 <;> by_cases h2 : a2 = b2 <;> simp [h1, h2]

theorem addr_check_at (d : Nat) (w : World) (em : Bool) (a : Int × Int) : (Instr.checkKey em (d + 1 + 1) 46 (addrV a)).run Try.prog w = .ok () w := by
  unfold addrV
  rw [Instr.checkKey]
  simp only [Sem.run_bind, run_underlying Try.underlying46, Result.andThen_ok]
  rw [← Array.forIn_toList]
  simp [part, isAgg, run_underlying Try.underlying44, check_int d Try.underlying44]

theorem addr_key : KeyTy Try.prog 46 (Int × Int) addrV :=
  KeyTy.of_eq Try.underlying46 (fun _ _ => rfl) addr_eq (fun w em k => addr_check_at 9998 w em k) (fun a => by simp [addrV, Instr.sameBits])
end Go.Proofs.Ytepibimlmfhceaa
