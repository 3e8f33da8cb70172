/-
  No cell of these rows narrows 'for every input' (looked for: loops, veiled, ifaces, maps, wideKeys, modest, calm, conditions, laid).
  DERIVED. THE GIVEN ROWS OF THIS SEAT. 3 by the template 'for every input the law returns true; each argument reads behind the call as it read before'; 0 by the template 'total and deterministic' (their statements: YteonlidamonbgaaTotals.lean).
  GIVEN WITH THE SEED: the statements are not yours to turn. If you find one false, say at which input.
  Laid BY PROGRAM, IN A SANDBOX (cutbox-rows.mjs): the forced cells as the released guide's own fill.sh prints them over the translation f972fb4d451b8316… (all of the seat's roots in one cut). By AI agents, Wed Nov 11 2026. No macro, syntax, notation, axiom, sorry.
-/
import Derived.Test.YteonlidamonbgaaChecked
import GoSem.Claim
import GoSem.ClaimJoined
import GoSem.ClaimMapViews
import Derived.JoinedTies
import Derived.KernelRfl
namespace Go.Proofs.Yteonlidamonbgaa
/- THE CELL 'sum', in the pinned program and in every row, IS THE sha256 OF THE DUMP (.gsa) THAT YteonlidamonbgaaProg.lean LOADS. Nothing in Lean hashes anything: it is a label: what it is worth is what the hold of that sum in a sandbox is worth. -/
noncomputable def Try.pinned : Pinned := { name := "yteonlidamonbgaa", sum := "f972fb4d451b8316e27da28773220f9df9a73f1a7420c9cd5a0629f7759f70d8", checked := Try.checked }
namespace Rows
def none {H : Type} : Left H := { results := [], args := [] }

/-- 'cloisterlaw14.AllocGoal': WHATEVER THE INPUT: true; the input reads as it did. -/
def allocGoalSpec : ChangeSpec := { name := "allocGoal", fn := fun _ => fun
  | [d1, d2] => { results := [.lit (.bool true)], args := [d1, d2] }
  | _ => none }
def allocGoalRow : OpenClaim := { program := "yteonlidamonbgaa", sum := "f972fb4d451b8316e27da28773220f9df9a73f1a7420c9cd5a0629f7759f70d8", func := "cloister/cloisterlaw14.AllocGoal", spec := "allocGoal", inPlace := ["math.Float64frombits", "math.Float64bits"], apart := false }
def AllocGoalSaid : Prop := allocGoalRow.holds Try.pinned (OpenSpec.ofChange allocGoalSpec)

/-- ITS FALSE NEIGHBOUR: 'it returns false'. Refute it at one input. -/
def allocGoalWrong : ChangeSpec := { name := "allocGoal", fn := fun _ => fun
  | [d1, d2] => { results := [.lit (.bool false)], args := [d1, d2] }
  | _ => none }
def AllocGoalWrongFalsely : Prop := allocGoalRow.holds Try.pinned (OpenSpec.ofChange allocGoalWrong)

/-- 'cloisterlaw14.AllocPicks': WHATEVER THE INPUT: true; the input reads as it did. -/
def allocPicksSpec : ChangeSpec := { name := "allocPicks", fn := fun _ => fun
  | [d1, d2, d3] => { results := [.lit (.bool true)], args := [d1, d2, d3] }
  | _ => none }
def allocPicksRow : OpenClaim := { program := "yteonlidamonbgaa", sum := "f972fb4d451b8316e27da28773220f9df9a73f1a7420c9cd5a0629f7759f70d8", func := "cloister/cloisterlaw14.AllocPicks", spec := "allocPicks", inPlace := ["math.Float64frombits", "math.Float64bits"], apart := false }
def AllocPicksSaid : Prop := allocPicksRow.holds Try.pinned (OpenSpec.ofChange allocPicksSpec)

/-- ITS FALSE NEIGHBOUR: 'it returns false'. Refute it at one input. -/
def allocPicksWrong : ChangeSpec := { name := "allocPicks", fn := fun _ => fun
  | [d1, d2, d3] => { results := [.lit (.bool false)], args := [d1, d2, d3] }
  | _ => none }
def AllocPicksWrongFalsely : Prop := allocPicksRow.holds Try.pinned (OpenSpec.ofChange allocPicksWrong)

/-- 'cloisterlaw14.AllocFills': WHATEVER THE INPUT: true; the input reads as it did. -/
def allocFillsSpec : ChangeSpec := { name := "allocFills", fn := fun _ => fun
  | [d1, d2] => { results := [.lit (.bool true)], args := [d1, d2] }
  | _ => none }
def allocFillsRow : OpenClaim := { program := "yteonlidamonbgaa", sum := "f972fb4d451b8316e27da28773220f9df9a73f1a7420c9cd5a0629f7759f70d8", func := "cloister/cloisterlaw14.AllocFills", spec := "allocFills", inPlace := ["math.Float64frombits", "math.Float64bits"], apart := false }
def AllocFillsSaid : Prop := allocFillsRow.holds Try.pinned (OpenSpec.ofChange allocFillsSpec)

/-- ITS FALSE NEIGHBOUR: 'it returns false'. Refute it at one input. -/
def allocFillsWrong : ChangeSpec := { name := "allocFills", fn := fun _ => fun
  | [d1, d2] => { results := [.lit (.bool false)], args := [d1, d2] }
  | _ => none }
def AllocFillsWrongFalsely : Prop := allocFillsRow.holds Try.pinned (OpenSpec.ofChange allocFillsWrong)

/- THE SECOND FORM. 'bulk': how many values and letters a reading holds, each counted each time it is reached (what is shared counts as often as it is met; a slice's spare places count too). A statement '..UptoSaid' is the law's where the arguments, and the package variables that the reading takes, are together of bulk at most 1048576: NARROWER than '..Said'. Prove '..Said' where nothing that the law and all that it calls make is longer than what came in: it says more and counts as full. Else prove '..UptoSaid'. A law counts once. -/
mutual
def uptoBulk {H : Type} : DataW H → Nat
  | .lit (.string bytes) => bytes.length + 1
  | .lit _ => 1
  | .nil => 1
  | .ptr d => uptoBulk d + 1
  | .slice elems spare => uptoBulkAll elems + uptoBulkAll spare + 1
  | .agg parts => uptoBulkAll parts + 1
  | .iface _ d => uptoBulk d + 1
  | .map entries => uptoBulkEntries entries + 1
  | .held _ => 1
def uptoBulkAll {H : Type} : List (DataW H) → Nat
  | [] => 0
  | d :: r => uptoBulk d + uptoBulkAll r
def uptoBulkEntries {H : Type} : List (Lit × DataW H) → Nat
  | [] => 0
  | x :: r => uptoBulkEntry x + uptoBulkEntries r
def uptoBulkEntry {H : Type} : Lit × DataW H → Nat
  | (.string bytes, d) => bytes.length + uptoBulk d + 1
  | (_, d) => uptoBulk d + 1
 end
def uptoSmall : (H : Type) → List (DataW H) → Bool := fun _ ds => decide (uptoBulkAll ds ≤ 1048576)
def OpenSpec.upto (s : _root_.Go.ChangeSpec) : _root_.Go.OpenSpec := { _root_.Go.OpenSpec.ofChange s with cond := some uptoSmall }

/-- 'cloisterlaw14.AllocGoal', WHERE WHAT IT READS IS OF BULK AT MOST 1048576: true; the input reads as it did. -/
def allocGoalUptoRow : OpenClaim := { program := "yteonlidamonbgaa", sum := "f972fb4d451b8316e27da28773220f9df9a73f1a7420c9cd5a0629f7759f70d8", func := "cloister/cloisterlaw14.AllocGoal", spec := "allocGoal", inPlace := ["math.Float64frombits", "math.Float64bits"], apart := false, narrowed := true }
def AllocGoalUptoSaid : Prop := allocGoalUptoRow.holds Try.pinned (OpenSpec.upto allocGoalSpec)

/-- 'cloisterlaw14.AllocPicks', WHERE WHAT IT READS IS OF BULK AT MOST 1048576: true; the input reads as it did. -/
def allocPicksUptoRow : OpenClaim := { program := "yteonlidamonbgaa", sum := "f972fb4d451b8316e27da28773220f9df9a73f1a7420c9cd5a0629f7759f70d8", func := "cloister/cloisterlaw14.AllocPicks", spec := "allocPicks", inPlace := ["math.Float64frombits", "math.Float64bits"], apart := false, narrowed := true }
def AllocPicksUptoSaid : Prop := allocPicksUptoRow.holds Try.pinned (OpenSpec.upto allocPicksSpec)

/-- 'cloisterlaw14.AllocFills', WHERE WHAT IT READS IS OF BULK AT MOST 1048576: true; the input reads as it did. -/
def allocFillsUptoRow : OpenClaim := { program := "yteonlidamonbgaa", sum := "f972fb4d451b8316e27da28773220f9df9a73f1a7420c9cd5a0629f7759f70d8", func := "cloister/cloisterlaw14.AllocFills", spec := "allocFills", inPlace := ["math.Float64frombits", "math.Float64bits"], apart := false, narrowed := true }
def AllocFillsUptoSaid : Prop := allocFillsUptoRow.holds Try.pinned (OpenSpec.upto allocFillsSpec)

end Rows
end Go.Proofs.Yteonlidamonbgaa
