/- The layer path: slices of texts in memory; same. -/
import Derived.Test.YtgmkpdoejehgdaaDoorChecked
import Derived.Test.YtgmkpdoejehgdaaDoorPa
import Derived.WalkKit
import Derived.WalkLawsBesides
import Derived.WalkSpells
import Derived.Lib.Hide
import Derived.Laws.OwnMore
import Derived.OwnWalk
import Derived.Below
import Derived.Maps.AppendAt
import Derived.Deep.AppendLies
import Derived.Deep.QuietTactic
import Derived.BigQuiet
import Derived.Deep.Draws
namespace Go.Proofs.YtgmkpdoejehgdaaDoor
set_option linter.unusedVariables false
set_option linter.unusedSimpArgs false
open Go.RowKit

theorem infoStr : (Tryd.prog.info? 9).map (fun i => (i.zero, i.size, i.bytes)) = some (some (.string ByteArray.empty), 1, 16) := by kernel_rfl
theorem below_drewN {B : Nat} {a w : World} (h : Below B a w) (n : Nat) : Below B a (w.drewN n) := ⟨h.os, h.tape, h.output, h.size, h.block⟩

def strV (l : List UInt8) : Value := .string (strB l)
/-- A slice that holds the texts xs. -/
def StAt (w : World) (L off : Nat) (a : Option Addr) (n c : Nat) (v : Nat → ByteArray) : Prop :=
  n ≤ c ∧ c ≤ 9223372036854775807 ∧ (0 < n → a = some ⟨L, off, none⟩ ∧ ∀ i, i < n → w.cell? ⟨L, off + i, none⟩ = some (.string (v i)))
theorem StAt.lt {w : World} {L off n c : Nat} {a : Option Addr} {v : Nat → ByteArray} (h : StAt w L off a n c v) (hn : 0 < n) : L < w.heap.size :=
  World.block_lt_of_cell? w _ ((h.2.2 hn).2 0 hn)
theorem StAt.below {w w' : World} {L off n c : Nat} {a : Option Addr} {v : Nat → ByteArray} (h : StAt w L off a n c v) (hb : Below w.heap.size w w') : StAt w' L off a n c v :=
  ⟨h.1, h.2.1, fun hn => ⟨(h.2.2 hn).1, fun i hi => by rw [hb.cell (p := ⟨L, off + i, none⟩) (h.lt hn)]; exact (h.2.2 hn).2 i hi⟩⟩
def StL (w : World) (v : Value) (xs : List (List UInt8)) : Prop := ∃ a c L, v = .slice a xs.length c ∧ StAt w L 0 a xs.length c (fun i => strB (xs.getD i []))
theorem StL.below {w w' : World} {v : Value} {xs : List (List UInt8)} (h : StL w v xs) (hb : Below w.heap.size w w') : StL w' v xs := by
  obtain ⟨a, c, L, h1, h2⟩ := h
  exact ⟨a, c, L, h1, h2.below hb⟩
theorem StL.nil (w : World) : StL w (.slice none 0 0) [] := ⟨none, 0, 0, rfl, Nat.le_refl _, by omega, fun h => absurd h (Nat.lt_irrefl _)⟩
def SRow (w : World) (base : Nat) (v : Value) (xs : List (List UInt8)) : Prop := w.ownsRow base 9 1 v xs.length (xs.map strV)
theorem SRow.nil (w : World) (base : Nat) : SRow w base (.slice none 0 0) [] := World.ownsRow_nil _ _ _ _
theorem SRow.stl {w : World} {base : Nat} {v : Value} {xs : List (List UInt8)} (h : SRow w base v xs) : StL w v xs := by
  rcases h.2 with ⟨rfl, h0⟩ | ⟨g, cap, cur, rfl, hb, hg, hnc, hcm, hcs, htake⟩
  · exact ⟨none, 0, 0, by rw [h0], by omega, by omega, fun hn => by omega⟩
  · refine ⟨_, cap, g, rfl, hnc, by unfold maxLen at hcm; omega, fun hn => ⟨rfl, fun i hi => ?_⟩⟩
    have hc := h.cellAt (g := g) (cap := cap) i (by omega)
    rw [Nat.zero_add, hc, List.getElem?_map, List.getElem?_eq_getElem hi]
    show _ = some (Value.string (strB (xs.getD i [])))
    rw [List.getD_eq_getElem?_getD, List.getElem?_eq_getElem hi]
    rfl
theorem SRow.app {w : World} {base : Nat} {v : Value} {xs : List (List UInt8)} {x : List UInt8} (h : w.ownsRow base 9 1 v (xs.length + 1) (xs.map strV ++ [strV x])) : SRow w base v (xs ++ [x]) := by
  unfold SRow
  rw [List.length_append, List.map_append]
  exact h
theorem below_grown {w w' : World} (h : Below w.heap.size w w') : w.grownBy w' none := ⟨h.os, h.tape, h.output, h.size, fun k hk _ => h.block k hk⟩
theorem SRow.below {w w' : World} {base : Nat} {v : Value} {xs : List (List UInt8)} (h : SRow w base v xs) (hb : Below w.heap.size w w') : SRow w' base v xs :=
  World.ownsRow.kept h (below_grown hb) (by cases hv : v.ownBlock <;> simp)
/-- An append to a row of the call's own. -/
theorem SRow.more {w wr W w' : World} {v v' : Value} {xs : List (List UInt8)} {x : List UInt8} (h : SRow wr w.heap.size v xs) (hbel : Below w.heap.size w wr) (hw : Below wr.heap.size wr W)
    (ho : w'.ownsRow w.heap.size 9 1 v' (xs.length + 1) (xs.map strV ++ [strV x])) (hg : W.grownBy w' v.ownBlock) : SRow w' w.heap.size v' (xs ++ [x]) ∧ Below w.heap.size w w' :=
  ⟨SRow.app ho, (hbel.trans (hw.mono hbel.size)).grown hg (Nat.le_trans hbel.size hw.size) (fun k hk => (h.lt k hk).1)⟩
theorem strs_one (x : ByteArray) : ∀ u ∈ [Value.string x], u.oneCell' = true := by
  intro u hu
  simp at hu
  rw [hu]; rfl

set_option maxRecDepth 100000 in
theorem same_any (a a' : Option Addr) (n c c' L L' off off' : Nat) (v : Nat → ByteArray) (w : World) (h : StAt w L off a n c v) (h' : StAt w L' off' a' n c' v) :
    Calls Tryd.prog 7 #[.slice a n c, .slice a' n c'] w fun e w' => e = .returned (.bool true) ∧ Below w.heap.size w w' := by
  have hn9 : n ≤ 9223372036854775807 := by have := h.1; have := h.2.1; omega
  have hc1 := h.1
  have hc2 := h'.1
  have HB := Lib.hid h
  have HB' := Lib.hid h'
  clear h h'
  go_enter Tryd.func7, Tryd.ntmps7
  go_wp2_with fail
  go_loopw [13] (fun i wr => ∃ k : Nat, k ≤ n ∧ i = .int .i64 k ∧ Hid (Below w.heap.size w wr)) (fun i _ => n - (intOf i).toNat)
  case atStart => exact ⟨0, Nat.zero_le _, rfl, Below.refl _ _⟩
  case round =>
    obtain ⟨k, hk, rfl, hd⟩ := hrel
    by_cases hlt : k < n
    · have HL := Lib.hid (HB.out.below hd.out)
      have HL' := Lib.hid (HB'.out.below hd.out)
      obtain ⟨ha, hcell⟩ := HL.out.2.2 (by omega)
      obtain ⟨ha', hcell'⟩ := HL'.out.2.2 (by omega)
      subst ha ha'
      have c0 := hcell k hlt
      have e0 := hcell' k hlt
      clear hcell hcell'
      obtain ⟨f, hf⟩ : ∃ f, Hid (v k = f) := ⟨_, rfl⟩
      rw [hf.out] at c0 e0
      go_wp2_with fail
      go_quiet (fail)
      go_wp2
      go_roundw
      case rel => exact ⟨k + 1, by omega, by go_num, below_drewN hd.out _⟩
      case measure => simp [intOf]; omega
    · go_wp2
      go_ret
      exact ⟨rfl, hd.out⟩
end Go.Proofs.YtgmkpdoejehgdaaDoor
