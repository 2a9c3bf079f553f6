/-
  No cell of these rows narrows 'for every input' (looked for: loops, veiled, ifaces, maps, wideKeys, modest, calm, conditions, laid).
  DERIVED. THE GIVEN ROWS OF THIS SEAT. 9 by the template 'for every input the law returns true; each argument reads behind the call as it read before'; 0 by the template 'total and deterministic' (their statements: YtepibimlmfhceaaTotals.lean).
  GIVEN WITH THE SEED: the statements are not yours to turn. If you find one false, say at which input.
  Laid BY PROGRAM, IN A SANDBOX (cutbox-rows.mjs): the forced cells as the released guide's own fill.sh prints them over the translation 90fbc536af031ad7… (all of the seat's roots in one cut). By AI agents, Wed Nov 11 2026. No macro, syntax, notation, axiom, sorry.
-/
import Derived.Test.YtepibimlmfhceaaChecked
import GoSem.Claim
import GoSem.ClaimJoined
import GoSem.ClaimMapViews
import Derived.JoinedTies
import Derived.KernelRfl
namespace Go.Proofs.Ytepibimlmfhceaa
/- THE CELL 'sum', in the pinned program and in every row, IS THE sha256 OF THE DUMP (.gsa) THAT YtepibimlmfhceaaProg.lean LOADS. Nothing in Lean hashes anything: it is a label: what it is worth is what the hold of that sum in a sandbox is worth. -/
noncomputable def Try.pinned : Pinned := { name := "ytepibimlmfhceaa", sum := "90fbc536af031ad7a9a6d358d36f2ffe6f6315c7b44c17c63d9b66697a37697b", checked := Try.checked }
namespace Rows
def none {H : Type} : Left H := { results := [], args := [] }

/-- 'sallyportlaw11.BucketRate': WHATEVER THE INPUT: true; the input reads as it did. -/
def bucketRateSpec : ChangeSpec := { name := "bucketRate", fn := fun _ => fun
  | [d1, d2, d3] => { results := [.lit (.bool true)], args := [d1, d2, d3] }
  | _ => none }
def bucketRateRow : OpenClaim := { program := "ytepibimlmfhceaa", sum := "90fbc536af031ad7a9a6d358d36f2ffe6f6315c7b44c17c63d9b66697a37697b", func := "sallyport/sallyportlaw11.BucketRate", spec := "bucketRate", plainKeys := false, apart := false }
def BucketRateSaid : Prop := bucketRateRow.holds Try.pinned (OpenSpec.ofChange bucketRateSpec)

/-- ITS FALSE NEIGHBOUR: 'it returns false'. Refute it at one input. -/
def bucketRateWrong : ChangeSpec := { name := "bucketRate", fn := fun _ => fun
  | [d1, d2, d3] => { results := [.lit (.bool false)], args := [d1, d2, d3] }
  | _ => none }
def BucketRateWrongFalsely : Prop := bucketRateRow.holds Try.pinned (OpenSpec.ofChange bucketRateWrong)

/-- 'sallyportlaw11.BucketParts': WHATEVER THE INPUT: true; the input reads as it did. -/
def bucketPartsSpec : ChangeSpec := { name := "bucketParts", fn := fun _ => fun
  | [d1, d2, d3] => { results := [.lit (.bool true)], args := [d1, d2, d3] }
  | _ => none }
def bucketPartsRow : OpenClaim := { program := "ytepibimlmfhceaa", sum := "90fbc536af031ad7a9a6d358d36f2ffe6f6315c7b44c17c63d9b66697a37697b", func := "sallyport/sallyportlaw11.BucketParts", spec := "bucketParts", plainKeys := false, apart := false }
def BucketPartsSaid : Prop := bucketPartsRow.holds Try.pinned (OpenSpec.ofChange bucketPartsSpec)

/-- ITS FALSE NEIGHBOUR: 'it returns false'. Refute it at one input. -/
def bucketPartsWrong : ChangeSpec := { name := "bucketParts", fn := fun _ => fun
  | [d1, d2, d3] => { results := [.lit (.bool false)], args := [d1, d2, d3] }
  | _ => none }
def BucketPartsWrongFalsely : Prop := bucketPartsRow.holds Try.pinned (OpenSpec.ofChange bucketPartsWrong)

/-- 'sallyportlaw11.BucketBack': WHATEVER THE INPUT: true; the input reads as it did. -/
def bucketBackSpec : ChangeSpec := { name := "bucketBack", fn := fun _ => fun
  | [d1, d2, d3, d4] => { results := [.lit (.bool true)], args := [d1, d2, d3, d4] }
  | _ => none }
def bucketBackRow : OpenClaim := { program := "ytepibimlmfhceaa", sum := "90fbc536af031ad7a9a6d358d36f2ffe6f6315c7b44c17c63d9b66697a37697b", func := "sallyport/sallyportlaw11.BucketBack", spec := "bucketBack", plainKeys := false, apart := false }
def BucketBackSaid : Prop := bucketBackRow.holds Try.pinned (OpenSpec.ofChange bucketBackSpec)

/-- ITS FALSE NEIGHBOUR: 'it returns false'. Refute it at one input. -/
def bucketBackWrong : ChangeSpec := { name := "bucketBack", fn := fun _ => fun
  | [d1, d2, d3, d4] => { results := [.lit (.bool false)], args := [d1, d2, d3, d4] }
  | _ => none }
def BucketBackWrongFalsely : Prop := bucketBackRow.holds Try.pinned (OpenSpec.ofChange bucketBackWrong)

/-- 'sallyportlaw11.BucketInside': WHATEVER THE INPUT: true; the input reads as it did. -/
def bucketInsideSpec : ChangeSpec := { name := "bucketInside", fn := fun _ => fun
  | [d1, d2, d3] => { results := [.lit (.bool true)], args := [d1, d2, d3] }
  | _ => none }
def bucketInsideRow : OpenClaim := { program := "ytepibimlmfhceaa", sum := "90fbc536af031ad7a9a6d358d36f2ffe6f6315c7b44c17c63d9b66697a37697b", func := "sallyport/sallyportlaw11.BucketInside", spec := "bucketInside", plainKeys := false, apart := false }
def BucketInsideSaid : Prop := bucketInsideRow.holds Try.pinned (OpenSpec.ofChange bucketInsideSpec)

/-- ITS FALSE NEIGHBOUR: 'it returns false'. Refute it at one input. -/
def bucketInsideWrong : ChangeSpec := { name := "bucketInside", fn := fun _ => fun
  | [d1, d2, d3] => { results := [.lit (.bool false)], args := [d1, d2, d3] }
  | _ => none }
def BucketInsideWrongFalsely : Prop := bucketInsideRow.holds Try.pinned (OpenSpec.ofChange bucketInsideWrong)

/-- 'sallyportlaw11.BucketScript': WHATEVER THE INPUT: true; the input reads as it did. -/
def bucketScriptSpec : ChangeSpec := { name := "bucketScript", fn := fun _ => fun
  | [d1, d2, d3, d4] => { results := [.lit (.bool true)], args := [d1, d2, d3, d4] }
  | _ => none }
def bucketScriptRow : OpenClaim := { program := "ytepibimlmfhceaa", sum := "90fbc536af031ad7a9a6d358d36f2ffe6f6315c7b44c17c63d9b66697a37697b", func := "sallyport/sallyportlaw11.BucketScript", spec := "bucketScript", plainKeys := false, apart := false }
def BucketScriptSaid : Prop := bucketScriptRow.holds Try.pinned (OpenSpec.ofChange bucketScriptSpec)

/-- ITS FALSE NEIGHBOUR: 'it returns false'. Refute it at one input. -/
def bucketScriptWrong : ChangeSpec := { name := "bucketScript", fn := fun _ => fun
  | [d1, d2, d3, d4] => { results := [.lit (.bool false)], args := [d1, d2, d3, d4] }
  | _ => none }
def BucketScriptWrongFalsely : Prop := bucketScriptRow.holds Try.pinned (OpenSpec.ofChange bucketScriptWrong)

/-- 'sallyportlaw12.MeterOwn': WHATEVER THE INPUT: true; the input reads as it did. -/
def meterOwnSpec : ChangeSpec := { name := "meterOwn", fn := fun _ => fun
  | [d1, d2, d3] => { results := [.lit (.bool true)], args := [d1, d2, d3] }
  | _ => none }
def meterOwnRow : OpenClaim := { program := "ytepibimlmfhceaa", sum := "90fbc536af031ad7a9a6d358d36f2ffe6f6315c7b44c17c63d9b66697a37697b", func := "sallyport/sallyportlaw12.MeterOwn", spec := "meterOwn", plainKeys := false, apart := false }
def MeterOwnSaid : Prop := meterOwnRow.holds Try.pinned (OpenSpec.ofChange meterOwnSpec)

/-- ITS FALSE NEIGHBOUR: 'it returns false'. Refute it at one input. -/
def meterOwnWrong : ChangeSpec := { name := "meterOwn", fn := fun _ => fun
  | [d1, d2, d3] => { results := [.lit (.bool false)], args := [d1, d2, d3] }
  | _ => none }
def MeterOwnWrongFalsely : Prop := meterOwnRow.holds Try.pinned (OpenSpec.ofChange meterOwnWrong)

/-- 'sallyportlaw12.MeterCaps': WHATEVER THE INPUT: true; the input reads as it did. -/
def meterCapsSpec : ChangeSpec := { name := "meterCaps", fn := fun _ => fun
  | [d1, d2, d3] => { results := [.lit (.bool true)], args := [d1, d2, d3] }
  | _ => none }
def meterCapsRow : OpenClaim := { program := "ytepibimlmfhceaa", sum := "90fbc536af031ad7a9a6d358d36f2ffe6f6315c7b44c17c63d9b66697a37697b", func := "sallyport/sallyportlaw12.MeterCaps", spec := "meterCaps", plainKeys := false, apart := false }
def MeterCapsSaid : Prop := meterCapsRow.holds Try.pinned (OpenSpec.ofChange meterCapsSpec)

/-- ITS FALSE NEIGHBOUR: 'it returns false'. Refute it at one input. -/
def meterCapsWrong : ChangeSpec := { name := "meterCaps", fn := fun _ => fun
  | [d1, d2, d3] => { results := [.lit (.bool false)], args := [d1, d2, d3] }
  | _ => none }
def MeterCapsWrongFalsely : Prop := meterCapsRow.holds Try.pinned (OpenSpec.ofChange meterCapsWrong)

/-- 'sallyportlaw12.MeterSame': WHATEVER THE INPUT: true; the input reads as it did. -/
def meterSameSpec : ChangeSpec := { name := "meterSame", fn := fun _ => fun
  | [d1, d2, d3] => { results := [.lit (.bool true)], args := [d1, d2, d3] }
  | _ => none }
def meterSameRow : OpenClaim := { program := "ytepibimlmfhceaa", sum := "90fbc536af031ad7a9a6d358d36f2ffe6f6315c7b44c17c63d9b66697a37697b", func := "sallyport/sallyportlaw12.MeterSame", spec := "meterSame", plainKeys := false, apart := false }
def MeterSameSaid : Prop := meterSameRow.holds Try.pinned (OpenSpec.ofChange meterSameSpec)

/-- ITS FALSE NEIGHBOUR: 'it returns false'. Refute it at one input. -/
def meterSameWrong : ChangeSpec := { name := "meterSame", fn := fun _ => fun
  | [d1, d2, d3] => { results := [.lit (.bool false)], args := [d1, d2, d3] }
  | _ => none }
def MeterSameWrongFalsely : Prop := meterSameRow.holds Try.pinned (OpenSpec.ofChange meterSameWrong)

/-- 'sallyportlaw12.MeterFresh': WHATEVER THE INPUT: true; the input reads as it did. -/
def meterFreshSpec : ChangeSpec := { name := "meterFresh", fn := fun _ => fun
  | [d1, d2, d3, d4, d5] => { results := [.lit (.bool true)], args := [d1, d2, d3, d4, d5] }
  | _ => none }
def meterFreshRow : OpenClaim := { program := "ytepibimlmfhceaa", sum := "90fbc536af031ad7a9a6d358d36f2ffe6f6315c7b44c17c63d9b66697a37697b", func := "sallyport/sallyportlaw12.MeterFresh", spec := "meterFresh", plainKeys := false, apart := false }
def MeterFreshSaid : Prop := meterFreshRow.holds Try.pinned (OpenSpec.ofChange meterFreshSpec)

/-- ITS FALSE NEIGHBOUR: 'it returns false'. Refute it at one input. -/
def meterFreshWrong : ChangeSpec := { name := "meterFresh", fn := fun _ => fun
  | [d1, d2, d3, d4, d5] => { results := [.lit (.bool false)], args := [d1, d2, d3, d4, d5] }
  | _ => none }
def MeterFreshWrongFalsely : Prop := meterFreshRow.holds Try.pinned (OpenSpec.ofChange meterFreshWrong)

/- THE SECOND FORM. 'bulk': how many values and letters a reading holds, each counted each time it is reached (what is shared counts as often as it is met; a slice's spare places count too). A statement '..UptoSaid' is the law's where the arguments, and the package variables that the reading takes, are together of bulk at most 1048576: NARROWER than '..Said'. Prove '..Said' where nothing that the law and all that it calls make is longer than what came in: it says more and counts as full. Else prove '..UptoSaid'. A law counts once. -/
mutual
def uptoBulk {H : Type} : DataW H → Nat
  | .lit (.string bytes) => bytes.length + 1
  | .lit _ => 1
  | .nil => 1
  | .ptr d => uptoBulk d + 1
  | .slice elems spare => uptoBulkAll elems + uptoBulkAll spare + 1
  | .agg parts => uptoBulkAll parts + 1
  | .iface _ d => uptoBulk d + 1
  | .map entries => uptoBulkEntries entries + 1
  | .held _ => 1
def uptoBulkAll {H : Type} : List (DataW H) → Nat
  | [] => 0
  | d :: r => uptoBulk d + uptoBulkAll r
def uptoBulkEntries {H : Type} : List (Lit × DataW H) → Nat
  | [] => 0
  | x :: r => uptoBulkEntry x + uptoBulkEntries r
def uptoBulkEntry {H : Type} : Lit × DataW H → Nat
  | (.string bytes, d) => bytes.length + uptoBulk d + 1
  | (_, d) => uptoBulk d + 1
 end
def uptoSmall : (H : Type) → List (DataW H) → Bool := fun _ ds => decide (uptoBulkAll ds ≤ 1048576)
def OpenSpec.upto (s : _root_.Go.ChangeSpec) : _root_.Go.OpenSpec := { _root_.Go.OpenSpec.ofChange s with cond := some uptoSmall }

/-- 'sallyportlaw11.BucketRate', WHERE WHAT IT READS IS OF BULK AT MOST 1048576: true; the input reads as it did. -/
def bucketRateUptoRow : OpenClaim := { program := "ytepibimlmfhceaa", sum := "90fbc536af031ad7a9a6d358d36f2ffe6f6315c7b44c17c63d9b66697a37697b", func := "sallyport/sallyportlaw11.BucketRate", spec := "bucketRate", plainKeys := false, apart := false, narrowed := true }
def BucketRateUptoSaid : Prop := bucketRateUptoRow.holds Try.pinned (OpenSpec.upto bucketRateSpec)

/-- 'sallyportlaw11.BucketParts', WHERE WHAT IT READS IS OF BULK AT MOST 1048576: true; the input reads as it did. -/
def bucketPartsUptoRow : OpenClaim := { program := "ytepibimlmfhceaa", sum := "90fbc536af031ad7a9a6d358d36f2ffe6f6315c7b44c17c63d9b66697a37697b", func := "sallyport/sallyportlaw11.BucketParts", spec := "bucketParts", plainKeys := false, apart := false, narrowed := true }
def BucketPartsUptoSaid : Prop := bucketPartsUptoRow.holds Try.pinned (OpenSpec.upto bucketPartsSpec)

/-- 'sallyportlaw11.BucketBack', WHERE WHAT IT READS IS OF BULK AT MOST 1048576: true; the input reads as it did. -/
def bucketBackUptoRow : OpenClaim := { program := "ytepibimlmfhceaa", sum := "90fbc536af031ad7a9a6d358d36f2ffe6f6315c7b44c17c63d9b66697a37697b", func := "sallyport/sallyportlaw11.BucketBack", spec := "bucketBack", plainKeys := false, apart := false, narrowed := true }
def BucketBackUptoSaid : Prop := bucketBackUptoRow.holds Try.pinned (OpenSpec.upto bucketBackSpec)

/-- 'sallyportlaw11.BucketInside', WHERE WHAT IT READS IS OF BULK AT MOST 1048576: true; the input reads as it did. -/
def bucketInsideUptoRow : OpenClaim := { program := "ytepibimlmfhceaa", sum := "90fbc536af031ad7a9a6d358d36f2ffe6f6315c7b44c17c63d9b66697a37697b", func := "sallyport/sallyportlaw11.BucketInside", spec := "bucketInside", plainKeys := false, apart := false, narrowed := true }
def BucketInsideUptoSaid : Prop := bucketInsideUptoRow.holds Try.pinned (OpenSpec.upto bucketInsideSpec)

/-- 'sallyportlaw11.BucketScript', WHERE WHAT IT READS IS OF BULK AT MOST 1048576: true; the input reads as it did. -/
def bucketScriptUptoRow : OpenClaim := { program := "ytepibimlmfhceaa", sum := "90fbc536af031ad7a9a6d358d36f2ffe6f6315c7b44c17c63d9b66697a37697b", func := "sallyport/sallyportlaw11.BucketScript", spec := "bucketScript", plainKeys := false, apart := false, narrowed := true }
def BucketScriptUptoSaid : Prop := bucketScriptUptoRow.holds Try.pinned (OpenSpec.upto bucketScriptSpec)

/-- 'sallyportlaw12.MeterOwn', WHERE WHAT IT READS IS OF BULK AT MOST 1048576: true; the input reads as it did. -/
def meterOwnUptoRow : OpenClaim := { program := "ytepibimlmfhceaa", sum := "90fbc536af031ad7a9a6d358d36f2ffe6f6315c7b44c17c63d9b66697a37697b", func := "sallyport/sallyportlaw12.MeterOwn", spec := "meterOwn", plainKeys := false, apart := false, narrowed := true }
def MeterOwnUptoSaid : Prop := meterOwnUptoRow.holds Try.pinned (OpenSpec.upto meterOwnSpec)

/-- 'sallyportlaw12.MeterCaps', WHERE WHAT IT READS IS OF BULK AT MOST 1048576: true; the input reads as it did. -/
def meterCapsUptoRow : OpenClaim := { program := "ytepibimlmfhceaa", sum := "90fbc536af031ad7a9a6d358d36f2ffe6f6315c7b44c17c63d9b66697a37697b", func := "sallyport/sallyportlaw12.MeterCaps", spec := "meterCaps", plainKeys := false, apart := false, narrowed := true }
def MeterCapsUptoSaid : Prop := meterCapsUptoRow.holds Try.pinned (OpenSpec.upto meterCapsSpec)

/-- 'sallyportlaw12.MeterSame', WHERE WHAT IT READS IS OF BULK AT MOST 1048576: true; the input reads as it did. -/
def meterSameUptoRow : OpenClaim := { program := "ytepibimlmfhceaa", sum := "90fbc536af031ad7a9a6d358d36f2ffe6f6315c7b44c17c63d9b66697a37697b", func := "sallyport/sallyportlaw12.MeterSame", spec := "meterSame", plainKeys := false, apart := false, narrowed := true }
def MeterSameUptoSaid : Prop := meterSameUptoRow.holds Try.pinned (OpenSpec.upto meterSameSpec)

/-- 'sallyportlaw12.MeterFresh', WHERE WHAT IT READS IS OF BULK AT MOST 1048576: true; the input reads as it did. -/
def meterFreshUptoRow : OpenClaim := { program := "ytepibimlmfhceaa", sum := "90fbc536af031ad7a9a6d358d36f2ffe6f6315c7b44c17c63d9b66697a37697b", func := "sallyport/sallyportlaw12.MeterFresh", spec := "meterFresh", plainKeys := false, apart := false, narrowed := true }
def MeterFreshUptoSaid : Prop := meterFreshUptoRow.holds Try.pinned (OpenSpec.upto meterFreshSpec)

end Rows
end Go.Proofs.Ytepibimlmfhceaa
