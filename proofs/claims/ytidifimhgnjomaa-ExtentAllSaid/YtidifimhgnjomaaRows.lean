/-
  No cell of these rows narrows 'for every input' (looked for: loops, veiled, ifaces, maps, wideKeys, modest, calm, conditions, laid).
  DERIVED. THE GIVEN ROWS OF THIS SEAT. 3 by the template 'for every input the law returns true; each argument reads behind the call as it read before'; 0 by the template 'total and deterministic' (their statements: YtidifimhgnjomaaTotals.lean).
  GIVEN WITH THE SEED: the statements are not yours to turn. If you find one false, say at which input.
  Laid BY PROGRAM, IN A SANDBOX (cutbox-rows.mjs): the forced cells as the released guide's own fill.sh prints them over the translation d9fb4fc0da240966… (all of the seat's roots in one cut). By AI agents, Wed Nov 11 2026. No macro, syntax, notation, axiom, sorry.
-/
import Derived.Test.YtidifimhgnjomaaChecked
import GoSem.Claim
import GoSem.ClaimJoined
import GoSem.ClaimMapViews
import Derived.JoinedTies
import Derived.KernelRfl
namespace Go.Proofs.Ytidifimhgnjomaa
/- THE CELL 'sum', in the pinned program and in every row, IS THE sha256 OF THE DUMP (.gsa) THAT YtidifimhgnjomaaProg.lean LOADS. Nothing in Lean hashes anything: it is a label: what it is worth is what the hold of that sum in a sandbox is worth. -/
noncomputable def Try.pinned : Pinned := { name := "ytidifimhgnjomaa", sum := "d9fb4fc0da24096633a32fff84bc2db2806446e4fe9b6f25f3a59c54e3873a8a", checked := Try.checked }
namespace Rows
def none {H : Type} : Left H := { results := [], args := [] }

/-- 'cloisterlaw15.ExtentAll': WHATEVER THE INPUT: true; the input reads as it did. -/
def extentAllSpec : ChangeSpec := { name := "extentAll", fn := fun _ => fun
  | [d1, d2, d3] => { results := [.lit (.bool true)], args := [d1, d2, d3] }
  | _ => none }
def extentAllRow : OpenClaim := { program := "ytidifimhgnjomaa", sum := "d9fb4fc0da24096633a32fff84bc2db2806446e4fe9b6f25f3a59c54e3873a8a", func := "cloister/cloisterlaw15.ExtentAll", spec := "extentAll", unfollowed := true, recurses := true, apart := false }
def ExtentAllSaid : Prop := extentAllRow.holds Try.pinned (OpenSpec.ofChange extentAllSpec)

/-- ITS FALSE NEIGHBOUR: 'it returns false'. Refute it at one input. -/
def extentAllWrong : ChangeSpec := { name := "extentAll", fn := fun _ => fun
  | [d1, d2, d3] => { results := [.lit (.bool false)], args := [d1, d2, d3] }
  | _ => none }
def ExtentAllWrongFalsely : Prop := extentAllRow.holds Try.pinned (OpenSpec.ofChange extentAllWrong)

/-- 'cloisterlaw15.ExtentCalls': WHATEVER THE INPUT: true; the input reads as it did. -/
def extentCallsSpec : ChangeSpec := { name := "extentCalls", fn := fun _ => fun
  | [d1, d2, d3] => { results := [.lit (.bool true)], args := [d1, d2, d3] }
  | _ => none }
def extentCallsRow : OpenClaim := { program := "ytidifimhgnjomaa", sum := "d9fb4fc0da24096633a32fff84bc2db2806446e4fe9b6f25f3a59c54e3873a8a", func := "cloister/cloisterlaw15.ExtentCalls", spec := "extentCalls", apart := false }
def ExtentCallsSaid : Prop := extentCallsRow.holds Try.pinned (OpenSpec.ofChange extentCallsSpec)

/-- ITS FALSE NEIGHBOUR: 'it returns false'. Refute it at one input. -/
def extentCallsWrong : ChangeSpec := { name := "extentCalls", fn := fun _ => fun
  | [d1, d2, d3] => { results := [.lit (.bool false)], args := [d1, d2, d3] }
  | _ => none }
def ExtentCallsWrongFalsely : Prop := extentCallsRow.holds Try.pinned (OpenSpec.ofChange extentCallsWrong)

/-- 'cloisterlaw15.ExtentMaps': WHATEVER THE INPUT: true; the input reads as it did. -/
def extentMapsSpec : ChangeSpec := { name := "extentMaps", fn := fun _ => fun
  | [d] => { results := [.lit (.bool true)], args := [d] }
  | _ => none }
def extentMapsRow : OpenClaim := { program := "ytidifimhgnjomaa", sum := "d9fb4fc0da24096633a32fff84bc2db2806446e4fe9b6f25f3a59c54e3873a8a", func := "cloister/cloisterlaw15.ExtentMaps", spec := "extentMaps", apart := false }
def ExtentMapsSaid : Prop := extentMapsRow.holds Try.pinned (OpenSpec.ofChange extentMapsSpec)

/-- ITS FALSE NEIGHBOUR: 'it returns false'. Refute it at one input. -/
def extentMapsWrong : ChangeSpec := { name := "extentMaps", fn := fun _ => fun
  | [d] => { results := [.lit (.bool false)], args := [d] }
  | _ => none }
def ExtentMapsWrongFalsely : Prop := extentMapsRow.holds Try.pinned (OpenSpec.ofChange extentMapsWrong)

/- THE SECOND FORM. 'bulk': how many values and letters a reading holds, each counted each time it is reached (what is shared counts as often as it is met; a slice's spare places count too). A statement '..UptoSaid' is the law's where the arguments, and the package variables that the reading takes, are together of bulk at most 1048576: NARROWER than '..Said'. Prove '..Said' where nothing that the law and all that it calls make is longer than what came in: it says more and counts as full. Else prove '..UptoSaid'. A law counts once. -/
mutual
def uptoBulk {H : Type} : DataW H → Nat
  | .lit (.string bytes) => bytes.length + 1
  | .lit _ => 1
  | .nil => 1
  | .ptr d => uptoBulk d + 1
  | .slice elems spare => uptoBulkAll elems + uptoBulkAll spare + 1
  | .agg parts => uptoBulkAll parts + 1
  | .iface _ d => uptoBulk d + 1
  | .map entries => uptoBulkEntries entries + 1
  | .held _ => 1
def uptoBulkAll {H : Type} : List (DataW H) → Nat
  | [] => 0
  | d :: r => uptoBulk d + uptoBulkAll r
def uptoBulkEntries {H : Type} : List (Lit × DataW H) → Nat
  | [] => 0
  | x :: r => uptoBulkEntry x + uptoBulkEntries r
def uptoBulkEntry {H : Type} : Lit × DataW H → Nat
  | (.string bytes, d) => bytes.length + uptoBulk d + 1
  | (_, d) => uptoBulk d + 1
 end
def uptoSmall : (H : Type) → List (DataW H) → Bool := fun _ ds => decide (uptoBulkAll ds ≤ 1048576)
def OpenSpec.upto (s : _root_.Go.ChangeSpec) : _root_.Go.OpenSpec := { _root_.Go.OpenSpec.ofChange s with cond := some uptoSmall }

/-- 'cloisterlaw15.ExtentAll', WHERE WHAT IT READS IS OF BULK AT MOST 1048576: true; the input reads as it did. -/
def extentAllUptoRow : OpenClaim := { program := "ytidifimhgnjomaa", sum := "d9fb4fc0da24096633a32fff84bc2db2806446e4fe9b6f25f3a59c54e3873a8a", func := "cloister/cloisterlaw15.ExtentAll", spec := "extentAll", unfollowed := true, recurses := true, apart := false, narrowed := true }
def ExtentAllUptoSaid : Prop := extentAllUptoRow.holds Try.pinned (OpenSpec.upto extentAllSpec)

/-- 'cloisterlaw15.ExtentCalls', WHERE WHAT IT READS IS OF BULK AT MOST 1048576: true; the input reads as it did. -/
def extentCallsUptoRow : OpenClaim := { program := "ytidifimhgnjomaa", sum := "d9fb4fc0da24096633a32fff84bc2db2806446e4fe9b6f25f3a59c54e3873a8a", func := "cloister/cloisterlaw15.ExtentCalls", spec := "extentCalls", apart := false, narrowed := true }
def ExtentCallsUptoSaid : Prop := extentCallsUptoRow.holds Try.pinned (OpenSpec.upto extentCallsSpec)

/-- 'cloisterlaw15.ExtentMaps', WHERE WHAT IT READS IS OF BULK AT MOST 1048576: true; the input reads as it did. -/
def extentMapsUptoRow : OpenClaim := { program := "ytidifimhgnjomaa", sum := "d9fb4fc0da24096633a32fff84bc2db2806446e4fe9b6f25f3a59c54e3873a8a", func := "cloister/cloisterlaw15.ExtentMaps", spec := "extentMaps", apart := false, narrowed := true }
def ExtentMapsUptoSaid : Prop := extentMapsUptoRow.holds Try.pinned (OpenSpec.upto extentMapsSpec)

end Rows
end Go.Proofs.Ytidifimhgnjomaa
