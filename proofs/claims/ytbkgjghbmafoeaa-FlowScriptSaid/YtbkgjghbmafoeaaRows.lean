/-
  No cell of these rows narrows 'for every input' (looked for: loops, veiled, ifaces, maps, wideKeys, modest, calm, conditions, laid).
  DERIVED. THE GIVEN ROWS OF THIS SEAT. 8 by the template 'for every input the law returns true; each argument reads behind the call as it read before'; 0 by the template 'total and deterministic' (their statements: YtbkgjghbmafoeaaTotals.lean).
  GIVEN WITH THE SEED: the statements are not yours to turn. If you find one false, say at which input.
  Laid BY PROGRAM, IN A SANDBOX (cutbox-rows.mjs): the forced cells as the released guide's own fill.sh prints them over the translation 1343f887afb00e36… (all of the seat's roots in one cut). By AI agents, Wed Nov 11 2026. No macro, syntax, notation, axiom, sorry.
-/
import Derived.Test.YtbkgjghbmafoeaaChecked
import GoSem.Claim
import GoSem.ClaimJoined
import GoSem.ClaimMapViews
import Derived.JoinedTies
import Derived.KernelRfl
namespace Go.Proofs.Ytbkgjghbmafoeaa
/- THE CELL 'sum', in the pinned program and in every row, IS THE sha256 OF THE DUMP (.gsa) THAT YtbkgjghbmafoeaaProg.lean LOADS. Nothing in Lean hashes anything: it is a label: what it is worth is what the hold of that sum in a sandbox is worth. -/
noncomputable def Try.pinned : Pinned := { name := "ytbkgjghbmafoeaa", sum := "1343f887afb00e36cbf6c49cc3db642faf7ea5ce8fed913da23ce0bcba1f6d30", checked := Try.checked }
namespace Rows
def none {H : Type} : Left H := { results := [], args := [] }

/-- 'sallyportlaw14.FlowDue': WHATEVER THE INPUT: true; the input reads as it did. -/
def flowDueSpec : ChangeSpec := { name := "flowDue", fn := fun _ => fun
  | [d1, d2] => { results := [.lit (.bool true)], args := [d1, d2] }
  | _ => none }
def flowDueRow : OpenClaim := { program := "ytbkgjghbmafoeaa", sum := "1343f887afb00e36cbf6c49cc3db642faf7ea5ce8fed913da23ce0bcba1f6d30", func := "sallyport/sallyportlaw14.FlowDue", spec := "flowDue", unfollowed := true, recurses := true, plainKeys := false, apart := false }
def FlowDueSaid : Prop := flowDueRow.holds Try.pinned (OpenSpec.ofChange flowDueSpec)

/-- ITS FALSE NEIGHBOUR: 'it returns false'. Refute it at one input. -/
def flowDueWrong : ChangeSpec := { name := "flowDue", fn := fun _ => fun
  | [d1, d2] => { results := [.lit (.bool false)], args := [d1, d2] }
  | _ => none }
def FlowDueWrongFalsely : Prop := flowDueRow.holds Try.pinned (OpenSpec.ofChange flowDueWrong)

/-- 'sallyportlaw14.FlowScript': WHATEVER THE INPUT: true; the input reads as it did. -/
def flowScriptSpec : ChangeSpec := { name := "flowScript", fn := fun _ => fun
  | [d] => { results := [.lit (.bool true)], args := [d] }
  | _ => none }
def flowScriptRow : OpenClaim := { program := "ytbkgjghbmafoeaa", sum := "1343f887afb00e36cbf6c49cc3db642faf7ea5ce8fed913da23ce0bcba1f6d30", func := "sallyport/sallyportlaw14.FlowScript", spec := "flowScript", unfollowed := true, recurses := true, plainKeys := false, apart := false }
def FlowScriptSaid : Prop := flowScriptRow.holds Try.pinned (OpenSpec.ofChange flowScriptSpec)

/-- ITS FALSE NEIGHBOUR: 'it returns false'. Refute it at one input. -/
def flowScriptWrong : ChangeSpec := { name := "flowScript", fn := fun _ => fun
  | [d] => { results := [.lit (.bool false)], args := [d] }
  | _ => none }
def FlowScriptWrongFalsely : Prop := flowScriptRow.holds Try.pinned (OpenSpec.ofChange flowScriptWrong)

/-- 'sallyportlaw13.WheelTwice': WHATEVER THE INPUT: true; the input reads as it did. -/
def wheelTwiceSpec : ChangeSpec := { name := "wheelTwice", fn := fun _ => fun
  | [d1, d2, d3, d4] => { results := [.lit (.bool true)], args := [d1, d2, d3, d4] }
  | _ => none }
def wheelTwiceRow : OpenClaim := { program := "ytbkgjghbmafoeaa", sum := "1343f887afb00e36cbf6c49cc3db642faf7ea5ce8fed913da23ce0bcba1f6d30", func := "sallyport/sallyportlaw13.WheelTwice", spec := "wheelTwice", unfollowed := true, recurses := true, plainKeys := false, apart := false }
def WheelTwiceSaid : Prop := wheelTwiceRow.holds Try.pinned (OpenSpec.ofChange wheelTwiceSpec)

/-- ITS FALSE NEIGHBOUR: 'it returns false'. Refute it at one input. -/
def wheelTwiceWrong : ChangeSpec := { name := "wheelTwice", fn := fun _ => fun
  | [d1, d2, d3, d4] => { results := [.lit (.bool false)], args := [d1, d2, d3, d4] }
  | _ => none }
def WheelTwiceWrongFalsely : Prop := wheelTwiceRow.holds Try.pinned (OpenSpec.ofChange wheelTwiceWrong)

/-- 'sallyportlaw13.WheelLast': WHATEVER THE INPUT: true; the input reads as it did. -/
def wheelLastSpec : ChangeSpec := { name := "wheelLast", fn := fun _ => fun
  | [d1, d2] => { results := [.lit (.bool true)], args := [d1, d2] }
  | _ => none }
def wheelLastRow : OpenClaim := { program := "ytbkgjghbmafoeaa", sum := "1343f887afb00e36cbf6c49cc3db642faf7ea5ce8fed913da23ce0bcba1f6d30", func := "sallyport/sallyportlaw13.WheelLast", spec := "wheelLast", unfollowed := true, recurses := true, plainKeys := false, apart := false }
def WheelLastSaid : Prop := wheelLastRow.holds Try.pinned (OpenSpec.ofChange wheelLastSpec)

/-- ITS FALSE NEIGHBOUR: 'it returns false'. Refute it at one input. -/
def wheelLastWrong : ChangeSpec := { name := "wheelLast", fn := fun _ => fun
  | [d1, d2] => { results := [.lit (.bool false)], args := [d1, d2] }
  | _ => none }
def WheelLastWrongFalsely : Prop := wheelLastRow.holds Try.pinned (OpenSpec.ofChange wheelLastWrong)

/-- 'sallyportlaw13.WheelDrop': WHATEVER THE INPUT: true; the input reads as it did. -/
def wheelDropSpec : ChangeSpec := { name := "wheelDrop", fn := fun _ => fun
  | [d1, d2, d3] => { results := [.lit (.bool true)], args := [d1, d2, d3] }
  | _ => none }
def wheelDropRow : OpenClaim := { program := "ytbkgjghbmafoeaa", sum := "1343f887afb00e36cbf6c49cc3db642faf7ea5ce8fed913da23ce0bcba1f6d30", func := "sallyport/sallyportlaw13.WheelDrop", spec := "wheelDrop", unfollowed := true, recurses := true, plainKeys := false, apart := false }
def WheelDropSaid : Prop := wheelDropRow.holds Try.pinned (OpenSpec.ofChange wheelDropSpec)

/-- ITS FALSE NEIGHBOUR: 'it returns false'. Refute it at one input. -/
def wheelDropWrong : ChangeSpec := { name := "wheelDrop", fn := fun _ => fun
  | [d1, d2, d3] => { results := [.lit (.bool false)], args := [d1, d2, d3] }
  | _ => none }
def WheelDropWrongFalsely : Prop := wheelDropRow.holds Try.pinned (OpenSpec.ofChange wheelDropWrong)

/-- 'sallyportlaw14.FlowSides': WHATEVER THE INPUT: true; the input reads as it did. -/
def flowSidesSpec : ChangeSpec := { name := "flowSides", fn := fun _ => fun
  | [d1, d2] => { results := [.lit (.bool true)], args := [d1, d2] }
  | _ => none }
def flowSidesRow : OpenClaim := { program := "ytbkgjghbmafoeaa", sum := "1343f887afb00e36cbf6c49cc3db642faf7ea5ce8fed913da23ce0bcba1f6d30", func := "sallyport/sallyportlaw14.FlowSides", spec := "flowSides", unfollowed := true, recurses := true, plainKeys := false, apart := false }
def FlowSidesSaid : Prop := flowSidesRow.holds Try.pinned (OpenSpec.ofChange flowSidesSpec)

/-- ITS FALSE NEIGHBOUR: 'it returns false'. Refute it at one input. -/
def flowSidesWrong : ChangeSpec := { name := "flowSides", fn := fun _ => fun
  | [d1, d2] => { results := [.lit (.bool false)], args := [d1, d2] }
  | _ => none }
def FlowSidesWrongFalsely : Prop := flowSidesRow.holds Try.pinned (OpenSpec.ofChange flowSidesWrong)

/-- 'sallyportlaw14.FlowCaps': WHATEVER THE INPUT: true; the input reads as it did. -/
def flowCapsSpec : ChangeSpec := { name := "flowCaps", fn := fun _ => fun
  | [d] => { results := [.lit (.bool true)], args := [d] }
  | _ => none }
def flowCapsRow : OpenClaim := { program := "ytbkgjghbmafoeaa", sum := "1343f887afb00e36cbf6c49cc3db642faf7ea5ce8fed913da23ce0bcba1f6d30", func := "sallyport/sallyportlaw14.FlowCaps", spec := "flowCaps", unfollowed := true, recurses := true, plainKeys := false, apart := false }
def FlowCapsSaid : Prop := flowCapsRow.holds Try.pinned (OpenSpec.ofChange flowCapsSpec)

/-- ITS FALSE NEIGHBOUR: 'it returns false'. Refute it at one input. -/
def flowCapsWrong : ChangeSpec := { name := "flowCaps", fn := fun _ => fun
  | [d] => { results := [.lit (.bool false)], args := [d] }
  | _ => none }
def FlowCapsWrongFalsely : Prop := flowCapsRow.holds Try.pinned (OpenSpec.ofChange flowCapsWrong)

/-- 'sallyportlaw14.FlowKeeps': WHATEVER THE INPUT: true; the input reads as it did. -/
def flowKeepsSpec : ChangeSpec := { name := "flowKeeps", fn := fun _ => fun
  | [d1, d2] => { results := [.lit (.bool true)], args := [d1, d2] }
  | _ => none }
def flowKeepsRow : OpenClaim := { program := "ytbkgjghbmafoeaa", sum := "1343f887afb00e36cbf6c49cc3db642faf7ea5ce8fed913da23ce0bcba1f6d30", func := "sallyport/sallyportlaw14.FlowKeeps", spec := "flowKeeps", unfollowed := true, recurses := true, plainKeys := false, apart := false }
def FlowKeepsSaid : Prop := flowKeepsRow.holds Try.pinned (OpenSpec.ofChange flowKeepsSpec)

/-- ITS FALSE NEIGHBOUR: 'it returns false'. Refute it at one input. -/
def flowKeepsWrong : ChangeSpec := { name := "flowKeeps", fn := fun _ => fun
  | [d1, d2] => { results := [.lit (.bool false)], args := [d1, d2] }
  | _ => none }
def FlowKeepsWrongFalsely : Prop := flowKeepsRow.holds Try.pinned (OpenSpec.ofChange flowKeepsWrong)

/- THE SECOND FORM. 'bulk': how many values and letters a reading holds, each counted each time it is reached (what is shared counts as often as it is met; a slice's spare places count too). A statement '..UptoSaid' is the law's where the arguments, and the package variables that the reading takes, are together of bulk at most 1048576: NARROWER than '..Said'. Prove '..Said' where nothing that the law and all that it calls make is longer than what came in: it says more and counts as full. Else prove '..UptoSaid'. A law counts once. -/
mutual
def uptoBulk {H : Type} : DataW H → Nat
  | .lit (.string bytes) => bytes.length + 1
  | .lit _ => 1
  | .nil => 1
  | .ptr d => uptoBulk d + 1
  | .slice elems spare => uptoBulkAll elems + uptoBulkAll spare + 1
  | .agg parts => uptoBulkAll parts + 1
  | .iface _ d => uptoBulk d + 1
  | .map entries => uptoBulkEntries entries + 1
  | .held _ => 1
def uptoBulkAll {H : Type} : List (DataW H) → Nat
  | [] => 0
  | d :: r => uptoBulk d + uptoBulkAll r
def uptoBulkEntries {H : Type} : List (Lit × DataW H) → Nat
  | [] => 0
  | x :: r => uptoBulkEntry x + uptoBulkEntries r
def uptoBulkEntry {H : Type} : Lit × DataW H → Nat
  | (.string bytes, d) => bytes.length + uptoBulk d + 1
  | (_, d) => uptoBulk d + 1
 end
def uptoSmall : (H : Type) → List (DataW H) → Bool := fun _ ds => decide (uptoBulkAll ds ≤ 1048576)
def OpenSpec.upto (s : _root_.Go.ChangeSpec) : _root_.Go.OpenSpec := { _root_.Go.OpenSpec.ofChange s with cond := some uptoSmall }

/-- 'sallyportlaw14.FlowDue', WHERE WHAT IT READS IS OF BULK AT MOST 1048576: true; the input reads as it did. -/
def flowDueUptoRow : OpenClaim := { program := "ytbkgjghbmafoeaa", sum := "1343f887afb00e36cbf6c49cc3db642faf7ea5ce8fed913da23ce0bcba1f6d30", func := "sallyport/sallyportlaw14.FlowDue", spec := "flowDue", unfollowed := true, recurses := true, plainKeys := false, apart := false, narrowed := true }
def FlowDueUptoSaid : Prop := flowDueUptoRow.holds Try.pinned (OpenSpec.upto flowDueSpec)

/-- 'sallyportlaw14.FlowScript', WHERE WHAT IT READS IS OF BULK AT MOST 1048576: true; the input reads as it did. -/
def flowScriptUptoRow : OpenClaim := { program := "ytbkgjghbmafoeaa", sum := "1343f887afb00e36cbf6c49cc3db642faf7ea5ce8fed913da23ce0bcba1f6d30", func := "sallyport/sallyportlaw14.FlowScript", spec := "flowScript", unfollowed := true, recurses := true, plainKeys := false, apart := false, narrowed := true }
def FlowScriptUptoSaid : Prop := flowScriptUptoRow.holds Try.pinned (OpenSpec.upto flowScriptSpec)

/-- 'sallyportlaw13.WheelTwice', WHERE WHAT IT READS IS OF BULK AT MOST 1048576: true; the input reads as it did. -/
def wheelTwiceUptoRow : OpenClaim := { program := "ytbkgjghbmafoeaa", sum := "1343f887afb00e36cbf6c49cc3db642faf7ea5ce8fed913da23ce0bcba1f6d30", func := "sallyport/sallyportlaw13.WheelTwice", spec := "wheelTwice", unfollowed := true, recurses := true, plainKeys := false, apart := false, narrowed := true }
def WheelTwiceUptoSaid : Prop := wheelTwiceUptoRow.holds Try.pinned (OpenSpec.upto wheelTwiceSpec)

/-- 'sallyportlaw13.WheelLast', WHERE WHAT IT READS IS OF BULK AT MOST 1048576: true; the input reads as it did. -/
def wheelLastUptoRow : OpenClaim := { program := "ytbkgjghbmafoeaa", sum := "1343f887afb00e36cbf6c49cc3db642faf7ea5ce8fed913da23ce0bcba1f6d30", func := "sallyport/sallyportlaw13.WheelLast", spec := "wheelLast", unfollowed := true, recurses := true, plainKeys := false, apart := false, narrowed := true }
def WheelLastUptoSaid : Prop := wheelLastUptoRow.holds Try.pinned (OpenSpec.upto wheelLastSpec)

/-- 'sallyportlaw13.WheelDrop', WHERE WHAT IT READS IS OF BULK AT MOST 1048576: true; the input reads as it did. -/
def wheelDropUptoRow : OpenClaim := { program := "ytbkgjghbmafoeaa", sum := "1343f887afb00e36cbf6c49cc3db642faf7ea5ce8fed913da23ce0bcba1f6d30", func := "sallyport/sallyportlaw13.WheelDrop", spec := "wheelDrop", unfollowed := true, recurses := true, plainKeys := false, apart := false, narrowed := true }
def WheelDropUptoSaid : Prop := wheelDropUptoRow.holds Try.pinned (OpenSpec.upto wheelDropSpec)

/-- 'sallyportlaw14.FlowSides', WHERE WHAT IT READS IS OF BULK AT MOST 1048576: true; the input reads as it did. -/
def flowSidesUptoRow : OpenClaim := { program := "ytbkgjghbmafoeaa", sum := "1343f887afb00e36cbf6c49cc3db642faf7ea5ce8fed913da23ce0bcba1f6d30", func := "sallyport/sallyportlaw14.FlowSides", spec := "flowSides", unfollowed := true, recurses := true, plainKeys := false, apart := false, narrowed := true }
def FlowSidesUptoSaid : Prop := flowSidesUptoRow.holds Try.pinned (OpenSpec.upto flowSidesSpec)

/-- 'sallyportlaw14.FlowCaps', WHERE WHAT IT READS IS OF BULK AT MOST 1048576: true; the input reads as it did. -/
def flowCapsUptoRow : OpenClaim := { program := "ytbkgjghbmafoeaa", sum := "1343f887afb00e36cbf6c49cc3db642faf7ea5ce8fed913da23ce0bcba1f6d30", func := "sallyport/sallyportlaw14.FlowCaps", spec := "flowCaps", unfollowed := true, recurses := true, plainKeys := false, apart := false, narrowed := true }
def FlowCapsUptoSaid : Prop := flowCapsUptoRow.holds Try.pinned (OpenSpec.upto flowCapsSpec)

/-- 'sallyportlaw14.FlowKeeps', WHERE WHAT IT READS IS OF BULK AT MOST 1048576: true; the input reads as it did. -/
def flowKeepsUptoRow : OpenClaim := { program := "ytbkgjghbmafoeaa", sum := "1343f887afb00e36cbf6c49cc3db642faf7ea5ce8fed913da23ce0bcba1f6d30", func := "sallyport/sallyportlaw14.FlowKeeps", spec := "flowKeeps", unfollowed := true, recurses := true, plainKeys := false, apart := false, narrowed := true }
def FlowKeepsUptoSaid : Prop := flowKeepsUptoRow.holds Try.pinned (OpenSpec.upto flowKeepsSpec)

end Rows
end Go.Proofs.Ytbkgjghbmafoeaa
