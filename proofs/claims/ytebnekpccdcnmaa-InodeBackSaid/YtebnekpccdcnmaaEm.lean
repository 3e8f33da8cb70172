/- The layer extent: a list of extents in memory; one. -/
import Derived.Test.YtebnekpccdcnmaaChecked
import Derived.WalkKit
import Derived.WalkLawsBesides
import Derived.Lib.Hide
import Derived.Deep.AppendLies
import Derived.WalkSmall
namespace Go.Proofs.Ytebnekpccdcnmaa
set_option linter.unusedVariables false
set_option linter.unusedSimpArgs false
open Go.RowKit

/-- n extents lie in a slice: F, H, N of each. -/
def ExAt (w : World) (L off : Nat) (a : Option Addr) (n c : Nat) (F H N : Nat → Int) : Prop :=
  n ≤ c ∧ c ≤ 9223372036854775807 ∧ (0 < n → a = some ⟨L, off, none⟩ ∧ ∀ i, i < n → w.cell? ⟨L, off + i * 3, none⟩ = some (.int .i64 (F i)) ∧ w.cell? ⟨L, off + i * 3 + 1, none⟩ = some (.int .i64 (H i)) ∧ w.cell? ⟨L, off + i * 3 + 2, none⟩ = some (.int .i64 (N i)))
theorem ExAt.lt {w : World} {L off n c : Nat} {a : Option Addr} {F H N : Nat → Int} (h : ExAt w L off a n c F H N) (hn : 0 < n) : L < w.heap.size :=
  World.block_lt_of_cell? w _ ((h.2.2 hn).2 0 hn).1
theorem ExAt.below {w w' : World} {L off n c : Nat} {a : Option Addr} {F H N : Nat → Int} (h : ExAt w L off a n c F H N) (hb : Below w.heap.size w w') : ExAt w' L off a n c F H N :=
  ⟨h.1, h.2.1, fun hn => ⟨(h.2.2 hn).1, fun i hi => by
    obtain ⟨h1, h2, h3⟩ := (h.2.2 hn).2 i hi
    rw [hb.cell (p := ⟨L, off + i * 3, none⟩) (h.lt hn), hb.cell (p := ⟨L, off + i * 3 + 1, none⟩) (h.lt hn), hb.cell (p := ⟨L, off + i * 3 + 2, none⟩) (h.lt hn)]
    exact ⟨h1, h2, h3⟩⟩⟩

/-- Is an extent within its bounds? -/
def oneP (f h n : Int) : Prop := 1 ≤ n ∧ n ≤ 40 ∧ 0 ≤ f ∧ f ≤ 40 - n ∧ 0 ≤ h ∧ h ≤ 256 - n
instance (f h n : Int) : Decidable (oneP f h n) := by unfold oneP; infer_instance

theorem one_any (f h n : Int) (w : World) : Calls Try.prog 57 #[.agg #[.int .i64 f, .int .i64 h, .int .i64 n]] w fun e w' => e = .returned (.bool (decide (oneP f h n))) ∧ Below w.heap.size w w' := by
  have HB : Hid (Below w.heap.size w (w.alloc (.cells #[.int .i64 f, .int .i64 h, .int .i64 n] 25))) := (Below.refl _ _).alloc (Nat.le_refl _) _
  by_cases h1 : 1 ≤ n
  · by_cases h2 : n ≤ 40
    · by_cases h3 : 0 ≤ f
      · by_cases h4 : f ≤ 40 - n
        · by_cases h5 : 0 ≤ h
          · by_cases h6 : h ≤ 256 - n
            · have HX : Hid (decide (oneP f h n) = true) := decide_eq_true ⟨h1, h2, h3, h4, h5, h6⟩
              go_enter Try.func57, Try.ntmps57
              go_wp2
              go_ret
              exact ⟨by rw [HX.out]; rfl, HB.out⟩
            · have HX : Hid (decide (oneP f h n) = false) := decide_eq_false (fun h => h6 h.2.2.2.2.2)
              have d6 : decide (h ≤ 256 - n) = false := decide_eq_false h6
              clear h6
              go_enter Try.func57, Try.ntmps57
              go_wp2
              go_ret
              exact ⟨by rw [HX.out]; rfl, HB.out⟩
          · have HX : Hid (decide (oneP f h n) = false) := decide_eq_false (fun h => h5 h.2.2.2.2.1)
            have d5 : decide (0 ≤ h) = false := decide_eq_false h5
            clear h5
            go_enter Try.func57, Try.ntmps57
            go_wp2
            go_ret
            exact ⟨by rw [HX.out]; rfl, HB.out⟩
        · have HX : Hid (decide (oneP f h n) = false) := decide_eq_false (fun h => h4 h.2.2.2.1)
          have d4 : decide (f ≤ 40 - n) = false := decide_eq_false h4
          clear h4
          go_enter Try.func57, Try.ntmps57
          go_wp2
          go_ret
          exact ⟨by rw [HX.out]; rfl, HB.out⟩
      · have HX : Hid (decide (oneP f h n) = false) := decide_eq_false (fun h => h3 h.2.2.1)
        have d3 : decide (0 ≤ f) = false := decide_eq_false h3
        clear h3
        go_enter Try.func57, Try.ntmps57
        go_wp2
        go_ret
        exact ⟨by rw [HX.out]; rfl, HB.out⟩
    · have HX : Hid (decide (oneP f h n) = false) := decide_eq_false (fun h => h2 h.2.1)
      have d2 : decide (n ≤ 40) = false := decide_eq_false h2
      clear h2
      go_enter Try.func57, Try.ntmps57
      go_wp2
      go_ret
      exact ⟨by rw [HX.out]; rfl, HB.out⟩
  · have HX : Hid (decide (oneP f h n) = false) := decide_eq_false (fun h => h1 h.1)
    have d1 : decide (1 ≤ n) = false := decide_eq_false h1
    clear h1
    go_enter Try.func57, Try.ntmps57
    go_wp2
    go_ret
    exact ⟨by rw [HX.out]; rfl, HB.out⟩
end Go.Proofs.Ytebnekpccdcnmaa
