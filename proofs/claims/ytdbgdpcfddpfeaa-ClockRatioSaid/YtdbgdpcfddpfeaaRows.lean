/-
  No cell of these rows narrows 'for every input' (looked for: loops, veiled, ifaces, maps, wideKeys, modest, calm, conditions, laid).
  DERIVED. THE GIVEN ROWS OF THIS SEAT. 6 by the template 'for every input the law returns true; each argument reads behind the call as it read before'; 0 by the template 'total and deterministic' (their statements: YtdbgdpcfddpfeaaTotals.lean).
  GIVEN WITH THE SEED: the statements are not yours to turn. If you find one false, say at which input.
  Laid BY PROGRAM, IN A SANDBOX (cutbox-rows.mjs): the forced cells as the released guide's own fill.sh prints them over the translation 4654ef3778656344… (all of the seat's roots in one cut). By AI agents, Wed Nov 11 2026. No macro, syntax, notation, axiom, sorry.
-/
import Derived.Test.YtdbgdpcfddpfeaaChecked
import GoSem.Claim
import GoSem.ClaimJoined
import GoSem.ClaimMapViews
import Derived.JoinedTies
import Derived.KernelRfl
namespace Go.Proofs.Ytdbgdpcfddpfeaa
/- THE CELL 'sum', in the pinned program and in every row, IS THE sha256 OF THE DUMP (.gsa) THAT YtdbgdpcfddpfeaaProg.lean LOADS. Nothing in Lean hashes anything: it is a label: what it is worth is what the hold of that sum in a sandbox is worth. -/
noncomputable def Try.pinned : Pinned := { name := "ytdbgdpcfddpfeaa", sum := "4654ef3778656344ba1d41ce6fae165bb27052ecf521817333131fac27eaf49b", checked := Try.checked }
namespace Rows
def none {H : Type} : Left H := { results := [], args := [] }

/-- 'cloisterlaw05.ClockTicks': WHATEVER THE INPUT: true; the input reads as it did. -/
def clockTicksSpec : ChangeSpec := { name := "clockTicks", fn := fun _ => fun
  | [d1, d2] => { results := [.lit (.bool true)], args := [d1, d2] }
  | _ => none }
def clockTicksRow : OpenClaim := { program := "ytdbgdpcfddpfeaa", sum := "4654ef3778656344ba1d41ce6fae165bb27052ecf521817333131fac27eaf49b", func := "cloister/cloisterlaw05.ClockTicks", spec := "clockTicks", inPlace := ["math.Float64bits", "math.Float64frombits"], apart := false }
def ClockTicksSaid : Prop := clockTicksRow.holds Try.pinned (OpenSpec.ofChange clockTicksSpec)

/-- ITS FALSE NEIGHBOUR: 'it returns false'. Refute it at one input. -/
def clockTicksWrong : ChangeSpec := { name := "clockTicks", fn := fun _ => fun
  | [d1, d2] => { results := [.lit (.bool false)], args := [d1, d2] }
  | _ => none }
def ClockTicksWrongFalsely : Prop := clockTicksRow.holds Try.pinned (OpenSpec.ofChange clockTicksWrong)

/-- 'cloisterlaw05.ClockRatios': WHATEVER THE INPUT: true; the input reads as it did. -/
def clockRatiosSpec : ChangeSpec := { name := "clockRatios", fn := fun _ => fun
  | [d1, d2] => { results := [.lit (.bool true)], args := [d1, d2] }
  | _ => none }
def clockRatiosRow : OpenClaim := { program := "ytdbgdpcfddpfeaa", sum := "4654ef3778656344ba1d41ce6fae165bb27052ecf521817333131fac27eaf49b", func := "cloister/cloisterlaw05.ClockRatios", spec := "clockRatios", inPlace := ["math.Float64bits", "math.Float64frombits"], apart := false }
def ClockRatiosSaid : Prop := clockRatiosRow.holds Try.pinned (OpenSpec.ofChange clockRatiosSpec)

/-- ITS FALSE NEIGHBOUR: 'it returns false'. Refute it at one input. -/
def clockRatiosWrong : ChangeSpec := { name := "clockRatios", fn := fun _ => fun
  | [d1, d2] => { results := [.lit (.bool false)], args := [d1, d2] }
  | _ => none }
def ClockRatiosWrongFalsely : Prop := clockRatiosRow.holds Try.pinned (OpenSpec.ofChange clockRatiosWrong)

/-- 'cloisterlaw05.ClockForms': WHATEVER THE INPUT: true; the input reads as it did. -/
def clockFormsSpec : ChangeSpec := { name := "clockForms", fn := fun _ => fun
  | [d1, d2] => { results := [.lit (.bool true)], args := [d1, d2] }
  | _ => none }
def clockFormsRow : OpenClaim := { program := "ytdbgdpcfddpfeaa", sum := "4654ef3778656344ba1d41ce6fae165bb27052ecf521817333131fac27eaf49b", func := "cloister/cloisterlaw05.ClockForms", spec := "clockForms", inPlace := ["math.Float64frombits", "math.Float64bits"], apart := false }
def ClockFormsSaid : Prop := clockFormsRow.holds Try.pinned (OpenSpec.ofChange clockFormsSpec)

/-- ITS FALSE NEIGHBOUR: 'it returns false'. Refute it at one input. -/
def clockFormsWrong : ChangeSpec := { name := "clockForms", fn := fun _ => fun
  | [d1, d2] => { results := [.lit (.bool false)], args := [d1, d2] }
  | _ => none }
def ClockFormsWrongFalsely : Prop := clockFormsRow.holds Try.pinned (OpenSpec.ofChange clockFormsWrong)

/-- 'cloisterlaw05.ClockRuns': WHATEVER THE INPUT: true; the input reads as it did. -/
def clockRunsSpec : ChangeSpec := { name := "clockRuns", fn := fun _ => fun
  | [d] => { results := [.lit (.bool true)], args := [d] }
  | _ => none }
def clockRunsRow : OpenClaim := { program := "ytdbgdpcfddpfeaa", sum := "4654ef3778656344ba1d41ce6fae165bb27052ecf521817333131fac27eaf49b", func := "cloister/cloisterlaw05.ClockRuns", spec := "clockRuns", inPlace := ["math.Float64bits", "math.Float64frombits"], apart := false }
def ClockRunsSaid : Prop := clockRunsRow.holds Try.pinned (OpenSpec.ofChange clockRunsSpec)

/-- ITS FALSE NEIGHBOUR: 'it returns false'. Refute it at one input. -/
def clockRunsWrong : ChangeSpec := { name := "clockRuns", fn := fun _ => fun
  | [d] => { results := [.lit (.bool false)], args := [d] }
  | _ => none }
def ClockRunsWrongFalsely : Prop := clockRunsRow.holds Try.pinned (OpenSpec.ofChange clockRunsWrong)

/-- 'cloisterlaw05.ClockOrders': WHATEVER THE INPUT: true; the input reads as it did. -/
def clockOrdersSpec : ChangeSpec := { name := "clockOrders", fn := fun _ => fun
  | [d1, d2, d3] => { results := [.lit (.bool true)], args := [d1, d2, d3] }
  | _ => none }
def clockOrdersRow : OpenClaim := { program := "ytdbgdpcfddpfeaa", sum := "4654ef3778656344ba1d41ce6fae165bb27052ecf521817333131fac27eaf49b", func := "cloister/cloisterlaw05.ClockOrders", spec := "clockOrders", inPlace := ["math.Float64bits", "math.Float64frombits"], apart := false }
def ClockOrdersSaid : Prop := clockOrdersRow.holds Try.pinned (OpenSpec.ofChange clockOrdersSpec)

/-- ITS FALSE NEIGHBOUR: 'it returns false'. Refute it at one input. -/
def clockOrdersWrong : ChangeSpec := { name := "clockOrders", fn := fun _ => fun
  | [d1, d2, d3] => { results := [.lit (.bool false)], args := [d1, d2, d3] }
  | _ => none }
def ClockOrdersWrongFalsely : Prop := clockOrdersRow.holds Try.pinned (OpenSpec.ofChange clockOrdersWrong)

/-- 'cloisterlaw05.ClockRatio': WHATEVER THE INPUT: true; the input reads as it did. -/
def clockRatioSpec : ChangeSpec := { name := "clockRatio", fn := fun _ => fun
  | [d1, d2] => { results := [.lit (.bool true)], args := [d1, d2] }
  | _ => none }
def clockRatioRow : OpenClaim := { program := "ytdbgdpcfddpfeaa", sum := "4654ef3778656344ba1d41ce6fae165bb27052ecf521817333131fac27eaf49b", func := "cloister/cloisterlaw05.ClockRatio", spec := "clockRatio", inPlace := ["math.Float64frombits", "math.Float64bits"], apart := false }
def ClockRatioSaid : Prop := clockRatioRow.holds Try.pinned (OpenSpec.ofChange clockRatioSpec)

/-- ITS FALSE NEIGHBOUR: 'it returns false'. Refute it at one input. -/
def clockRatioWrong : ChangeSpec := { name := "clockRatio", fn := fun _ => fun
  | [d1, d2] => { results := [.lit (.bool false)], args := [d1, d2] }
  | _ => none }
def ClockRatioWrongFalsely : Prop := clockRatioRow.holds Try.pinned (OpenSpec.ofChange clockRatioWrong)

/- THE SECOND FORM. 'bulk': how many values and letters a reading holds, each counted each time it is reached (what is shared counts as often as it is met; a slice's spare places count too). A statement '..UptoSaid' is the law's where the arguments, and the package variables that the reading takes, are together of bulk at most 1048576: NARROWER than '..Said'. Prove '..Said' where nothing that the law and all that it calls make is longer than what came in: it says more and counts as full. Else prove '..UptoSaid'. A law counts once. -/
mutual
def uptoBulk {H : Type} : DataW H → Nat
  | .lit (.string bytes) => bytes.length + 1
  | .lit _ => 1
  | .nil => 1
  | .ptr d => uptoBulk d + 1
  | .slice elems spare => uptoBulkAll elems + uptoBulkAll spare + 1
  | .agg parts => uptoBulkAll parts + 1
  | .iface _ d => uptoBulk d + 1
  | .map entries => uptoBulkEntries entries + 1
  | .held _ => 1
def uptoBulkAll {H : Type} : List (DataW H) → Nat
  | [] => 0
  | d :: r => uptoBulk d + uptoBulkAll r
def uptoBulkEntries {H : Type} : List (Lit × DataW H) → Nat
  | [] => 0
  | x :: r => uptoBulkEntry x + uptoBulkEntries r
def uptoBulkEntry {H : Type} : Lit × DataW H → Nat
  | (.string bytes, d) => bytes.length + uptoBulk d + 1
  | (_, d) => uptoBulk d + 1
 end
def uptoSmall : (H : Type) → List (DataW H) → Bool := fun _ ds => decide (uptoBulkAll ds ≤ 1048576)
def OpenSpec.upto (s : _root_.Go.ChangeSpec) : _root_.Go.OpenSpec := { _root_.Go.OpenSpec.ofChange s with cond := some uptoSmall }

/-- 'cloisterlaw05.ClockTicks', WHERE WHAT IT READS IS OF BULK AT MOST 1048576: true; the input reads as it did. -/
def clockTicksUptoRow : OpenClaim := { program := "ytdbgdpcfddpfeaa", sum := "4654ef3778656344ba1d41ce6fae165bb27052ecf521817333131fac27eaf49b", func := "cloister/cloisterlaw05.ClockTicks", spec := "clockTicks", inPlace := ["math.Float64bits", "math.Float64frombits"], apart := false, narrowed := true }
def ClockTicksUptoSaid : Prop := clockTicksUptoRow.holds Try.pinned (OpenSpec.upto clockTicksSpec)

/-- 'cloisterlaw05.ClockRatios', WHERE WHAT IT READS IS OF BULK AT MOST 1048576: true; the input reads as it did. -/
def clockRatiosUptoRow : OpenClaim := { program := "ytdbgdpcfddpfeaa", sum := "4654ef3778656344ba1d41ce6fae165bb27052ecf521817333131fac27eaf49b", func := "cloister/cloisterlaw05.ClockRatios", spec := "clockRatios", inPlace := ["math.Float64bits", "math.Float64frombits"], apart := false, narrowed := true }
def ClockRatiosUptoSaid : Prop := clockRatiosUptoRow.holds Try.pinned (OpenSpec.upto clockRatiosSpec)

/-- 'cloisterlaw05.ClockForms', WHERE WHAT IT READS IS OF BULK AT MOST 1048576: true; the input reads as it did. -/
def clockFormsUptoRow : OpenClaim := { program := "ytdbgdpcfddpfeaa", sum := "4654ef3778656344ba1d41ce6fae165bb27052ecf521817333131fac27eaf49b", func := "cloister/cloisterlaw05.ClockForms", spec := "clockForms", inPlace := ["math.Float64frombits", "math.Float64bits"], apart := false, narrowed := true }
def ClockFormsUptoSaid : Prop := clockFormsUptoRow.holds Try.pinned (OpenSpec.upto clockFormsSpec)

/-- 'cloisterlaw05.ClockRuns', WHERE WHAT IT READS IS OF BULK AT MOST 1048576: true; the input reads as it did. -/
def clockRunsUptoRow : OpenClaim := { program := "ytdbgdpcfddpfeaa", sum := "4654ef3778656344ba1d41ce6fae165bb27052ecf521817333131fac27eaf49b", func := "cloister/cloisterlaw05.ClockRuns", spec := "clockRuns", inPlace := ["math.Float64bits", "math.Float64frombits"], apart := false, narrowed := true }
def ClockRunsUptoSaid : Prop := clockRunsUptoRow.holds Try.pinned (OpenSpec.upto clockRunsSpec)

/-- 'cloisterlaw05.ClockOrders', WHERE WHAT IT READS IS OF BULK AT MOST 1048576: true; the input reads as it did. -/
def clockOrdersUptoRow : OpenClaim := { program := "ytdbgdpcfddpfeaa", sum := "4654ef3778656344ba1d41ce6fae165bb27052ecf521817333131fac27eaf49b", func := "cloister/cloisterlaw05.ClockOrders", spec := "clockOrders", inPlace := ["math.Float64bits", "math.Float64frombits"], apart := false, narrowed := true }
def ClockOrdersUptoSaid : Prop := clockOrdersUptoRow.holds Try.pinned (OpenSpec.upto clockOrdersSpec)

/-- 'cloisterlaw05.ClockRatio', WHERE WHAT IT READS IS OF BULK AT MOST 1048576: true; the input reads as it did. -/
def clockRatioUptoRow : OpenClaim := { program := "ytdbgdpcfddpfeaa", sum := "4654ef3778656344ba1d41ce6fae165bb27052ecf521817333131fac27eaf49b", func := "cloister/cloisterlaw05.ClockRatio", spec := "clockRatio", inPlace := ["math.Float64frombits", "math.Float64bits"], apart := false, narrowed := true }
def ClockRatioUptoSaid : Prop := clockRatioUptoRow.holds Try.pinned (OpenSpec.upto clockRatioSpec)

end Rows
end Go.Proofs.Ytdbgdpcfddpfeaa
