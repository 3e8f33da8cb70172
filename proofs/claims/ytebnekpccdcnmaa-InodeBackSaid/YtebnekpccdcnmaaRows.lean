/-
  No cell of these rows narrows 'for every input' (looked for: loops, veiled, ifaces, maps, wideKeys, modest, calm, conditions, laid).
  DERIVED. THE GIVEN ROWS OF THIS SEAT. 4 by the template 'for every input the law returns true; each argument reads behind the call as it read before'; 0 by the template 'total and deterministic' (their statements: YtebnekpccdcnmaaTotals.lean).
  GIVEN WITH THE SEED: the statements are not yours to turn. If you find one false, say at which input.
  Laid BY PROGRAM, IN A SANDBOX (cutbox-rows.mjs): the forced cells as the released guide's own fill.sh prints them over the translation 7e3acc3f4eb80032… (all of the seat's roots in one cut). By AI agents, Wed Nov 11 2026. No macro, syntax, notation, axiom, sorry.
-/
import Derived.Test.YtebnekpccdcnmaaChecked
import GoSem.Claim
import GoSem.ClaimJoined
import GoSem.ClaimMapViews
import Derived.JoinedTies
import Derived.KernelRfl
namespace Go.Proofs.Ytebnekpccdcnmaa
/- THE CELL 'sum', in the pinned program and in every row, IS THE sha256 OF THE DUMP (.gsa) THAT YtebnekpccdcnmaaProg.lean LOADS. Nothing in Lean hashes anything: it is a label: what it is worth is what the hold of that sum in a sandbox is worth. -/
noncomputable def Try.pinned : Pinned := { name := "ytebnekpccdcnmaa", sum := "7e3acc3f4eb80032d5dc69741fb443d7f6cfd64b4120dbd3c52128a5cc8f8f9b", checked := Try.checked }
namespace Rows
def none {H : Type} : Left H := { results := [], args := [] }

/-- 'cloisterlaw19.InodeSizes': WHATEVER THE INPUT: true; the input reads as it did. -/
def inodeSizesSpec : ChangeSpec := { name := "inodeSizes", fn := fun _ => fun
  | [d1, d2] => { results := [.lit (.bool true)], args := [d1, d2] }
  | _ => none }
def inodeSizesRow : OpenClaim := { program := "ytebnekpccdcnmaa", sum := "7e3acc3f4eb80032d5dc69741fb443d7f6cfd64b4120dbd3c52128a5cc8f8f9b", func := "cloister/cloisterlaw19.InodeSizes", spec := "inodeSizes", inPlace := ["math.Float64bits", "math.Float64frombits", "internal/bytealg.IndexByteString", "internal/bytealg.IndexString"], named := ["internal/bytealg.MaxLen"], apart := false }
def InodeSizesSaid : Prop := inodeSizesRow.holds Try.pinned (OpenSpec.ofChange inodeSizesSpec)

/-- ITS FALSE NEIGHBOUR: 'it returns false'. Refute it at one input. -/
def inodeSizesWrong : ChangeSpec := { name := "inodeSizes", fn := fun _ => fun
  | [d1, d2] => { results := [.lit (.bool false)], args := [d1, d2] }
  | _ => none }
def InodeSizesWrongFalsely : Prop := inodeSizesRow.holds Try.pinned (OpenSpec.ofChange inodeSizesWrong)

/-- 'cloisterlaw19.InodeEncodes': WHATEVER THE INPUT: true; the input reads as it did. -/
def inodeEncodesSpec : ChangeSpec := { name := "inodeEncodes", fn := fun _ => fun
  | [d] => { results := [.lit (.bool true)], args := [d] }
  | _ => none }
def inodeEncodesRow : OpenClaim := { program := "ytebnekpccdcnmaa", sum := "7e3acc3f4eb80032d5dc69741fb443d7f6cfd64b4120dbd3c52128a5cc8f8f9b", func := "cloister/cloisterlaw19.InodeEncodes", spec := "inodeEncodes", inPlace := ["math.Float64bits", "math.Float64frombits", "internal/bytealg.IndexByteString", "internal/bytealg.IndexString"], named := ["internal/bytealg.MaxLen"], apart := false }
def InodeEncodesSaid : Prop := inodeEncodesRow.holds Try.pinned (OpenSpec.ofChange inodeEncodesSpec)

/-- ITS FALSE NEIGHBOUR: 'it returns false'. Refute it at one input. -/
def inodeEncodesWrong : ChangeSpec := { name := "inodeEncodes", fn := fun _ => fun
  | [d] => { results := [.lit (.bool false)], args := [d] }
  | _ => none }
def InodeEncodesWrongFalsely : Prop := inodeEncodesRow.holds Try.pinned (OpenSpec.ofChange inodeEncodesWrong)

/-- 'cloisterlaw19.InodeDecodes': WHATEVER THE INPUT: true; the input reads as it did. -/
def inodeDecodesSpec : ChangeSpec := { name := "inodeDecodes", fn := fun _ => fun
  | [d] => { results := [.lit (.bool true)], args := [d] }
  | _ => none }
def inodeDecodesRow : OpenClaim := { program := "ytebnekpccdcnmaa", sum := "7e3acc3f4eb80032d5dc69741fb443d7f6cfd64b4120dbd3c52128a5cc8f8f9b", func := "cloister/cloisterlaw19.InodeDecodes", spec := "inodeDecodes", inPlace := ["math.Float64frombits", "math.Float64bits", "internal/bytealg.IndexByteString", "internal/bytealg.IndexString"], unfollowed := true, recurses := true, named := ["internal/bytealg.MaxLen"], apart := false }
def InodeDecodesSaid : Prop := inodeDecodesRow.holds Try.pinned (OpenSpec.ofChange inodeDecodesSpec)

/-- ITS FALSE NEIGHBOUR: 'it returns false'. Refute it at one input. -/
def inodeDecodesWrong : ChangeSpec := { name := "inodeDecodes", fn := fun _ => fun
  | [d] => { results := [.lit (.bool false)], args := [d] }
  | _ => none }
def InodeDecodesWrongFalsely : Prop := inodeDecodesRow.holds Try.pinned (OpenSpec.ofChange inodeDecodesWrong)

/-- 'cloisterlaw19.InodeBack': WHATEVER THE INPUT: true; the input reads as it did. -/
def inodeBackSpec : ChangeSpec := { name := "inodeBack", fn := fun _ => fun
  | [d1, d2] => { results := [.lit (.bool true)], args := [d1, d2] }
  | _ => none }
def inodeBackRow : OpenClaim := { program := "ytebnekpccdcnmaa", sum := "7e3acc3f4eb80032d5dc69741fb443d7f6cfd64b4120dbd3c52128a5cc8f8f9b", func := "cloister/cloisterlaw19.InodeBack", spec := "inodeBack", inPlace := ["math.Float64bits", "math.Float64frombits", "internal/bytealg.IndexByteString", "internal/bytealg.IndexString"], unfollowed := true, recurses := true, named := ["internal/bytealg.MaxLen"], apart := false }
def InodeBackSaid : Prop := inodeBackRow.holds Try.pinned (OpenSpec.ofChange inodeBackSpec)

/-- ITS FALSE NEIGHBOUR: 'it returns false'. Refute it at one input. -/
def inodeBackWrong : ChangeSpec := { name := "inodeBack", fn := fun _ => fun
  | [d1, d2] => { results := [.lit (.bool false)], args := [d1, d2] }
  | _ => none }
def InodeBackWrongFalsely : Prop := inodeBackRow.holds Try.pinned (OpenSpec.ofChange inodeBackWrong)

/- THE SECOND FORM. 'bulk': how many values and letters a reading holds, each counted each time it is reached (what is shared counts as often as it is met; a slice's spare places count too). A statement '..UptoSaid' is the law's where the arguments, and the package variables that the reading takes, are together of bulk at most 1048576: NARROWER than '..Said'. Prove '..Said' where nothing that the law and all that it calls make is longer than what came in: it says more and counts as full. Else prove '..UptoSaid'. A law counts once. -/
mutual
def uptoBulk {H : Type} : DataW H → Nat
  | .lit (.string bytes) => bytes.length + 1
  | .lit _ => 1
  | .nil => 1
  | .ptr d => uptoBulk d + 1
  | .slice elems spare => uptoBulkAll elems + uptoBulkAll spare + 1
  | .agg parts => uptoBulkAll parts + 1
  | .iface _ d => uptoBulk d + 1
  | .map entries => uptoBulkEntries entries + 1
  | .held _ => 1
def uptoBulkAll {H : Type} : List (DataW H) → Nat
  | [] => 0
  | d :: r => uptoBulk d + uptoBulkAll r
def uptoBulkEntries {H : Type} : List (Lit × DataW H) → Nat
  | [] => 0
  | x :: r => uptoBulkEntry x + uptoBulkEntries r
def uptoBulkEntry {H : Type} : Lit × DataW H → Nat
  | (.string bytes, d) => bytes.length + uptoBulk d + 1
  | (_, d) => uptoBulk d + 1
 end
def uptoSmall : (H : Type) → List (DataW H) → Bool := fun _ ds => decide (uptoBulkAll ds ≤ 1048576)
def OpenSpec.upto (s : _root_.Go.ChangeSpec) : _root_.Go.OpenSpec := { _root_.Go.OpenSpec.ofChange s with cond := some uptoSmall }

/-- 'cloisterlaw19.InodeSizes', WHERE WHAT IT READS IS OF BULK AT MOST 1048576: true; the input reads as it did. -/
def inodeSizesUptoRow : OpenClaim := { program := "ytebnekpccdcnmaa", sum := "7e3acc3f4eb80032d5dc69741fb443d7f6cfd64b4120dbd3c52128a5cc8f8f9b", func := "cloister/cloisterlaw19.InodeSizes", spec := "inodeSizes", inPlace := ["math.Float64bits", "math.Float64frombits", "internal/bytealg.IndexByteString", "internal/bytealg.IndexString"], named := ["internal/bytealg.MaxLen"], apart := false, narrowed := true }
def InodeSizesUptoSaid : Prop := inodeSizesUptoRow.holds Try.pinned (OpenSpec.upto inodeSizesSpec)

/-- 'cloisterlaw19.InodeEncodes', WHERE WHAT IT READS IS OF BULK AT MOST 1048576: true; the input reads as it did. -/
def inodeEncodesUptoRow : OpenClaim := { program := "ytebnekpccdcnmaa", sum := "7e3acc3f4eb80032d5dc69741fb443d7f6cfd64b4120dbd3c52128a5cc8f8f9b", func := "cloister/cloisterlaw19.InodeEncodes", spec := "inodeEncodes", inPlace := ["math.Float64bits", "math.Float64frombits", "internal/bytealg.IndexByteString", "internal/bytealg.IndexString"], named := ["internal/bytealg.MaxLen"], apart := false, narrowed := true }
def InodeEncodesUptoSaid : Prop := inodeEncodesUptoRow.holds Try.pinned (OpenSpec.upto inodeEncodesSpec)

/-- 'cloisterlaw19.InodeDecodes', WHERE WHAT IT READS IS OF BULK AT MOST 1048576: true; the input reads as it did. -/
def inodeDecodesUptoRow : OpenClaim := { program := "ytebnekpccdcnmaa", sum := "7e3acc3f4eb80032d5dc69741fb443d7f6cfd64b4120dbd3c52128a5cc8f8f9b", func := "cloister/cloisterlaw19.InodeDecodes", spec := "inodeDecodes", inPlace := ["math.Float64frombits", "math.Float64bits", "internal/bytealg.IndexByteString", "internal/bytealg.IndexString"], unfollowed := true, recurses := true, named := ["internal/bytealg.MaxLen"], apart := false, narrowed := true }
def InodeDecodesUptoSaid : Prop := inodeDecodesUptoRow.holds Try.pinned (OpenSpec.upto inodeDecodesSpec)

/-- 'cloisterlaw19.InodeBack', WHERE WHAT IT READS IS OF BULK AT MOST 1048576: true; the input reads as it did. -/
def inodeBackUptoRow : OpenClaim := { program := "ytebnekpccdcnmaa", sum := "7e3acc3f4eb80032d5dc69741fb443d7f6cfd64b4120dbd3c52128a5cc8f8f9b", func := "cloister/cloisterlaw19.InodeBack", spec := "inodeBack", inPlace := ["math.Float64bits", "math.Float64frombits", "internal/bytealg.IndexByteString", "internal/bytealg.IndexString"], unfollowed := true, recurses := true, named := ["internal/bytealg.MaxLen"], apart := false, narrowed := true }
def InodeBackUptoSaid : Prop := inodeBackUptoRow.holds Try.pinned (OpenSpec.upto inodeBackSpec)

end Rows
end Go.Proofs.Ytebnekpccdcnmaa
