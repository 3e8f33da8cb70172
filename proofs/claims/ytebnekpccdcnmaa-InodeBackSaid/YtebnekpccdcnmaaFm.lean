/- Plain functions of the layer clock, on the bits of floats. -/
import Derived.Test.YtebnekpccdcnmaaFl
import Derived.WalkKit
import Derived.WalkLawsBesides
namespace Go.Proofs.Ytebnekpccdcnmaa
set_option linter.unusedVariables false
open Go.RowKit Fl

/-- The one form. -/
def formW (a : Nat) : Nat := if nanW a then 9221120237041090560 else a
def ordW (a b : Nat) : Int := if nanW a then (if nanW b then 0 else 1) else if nanW b then -1 else if rankW a < rankW b then -1 else if rankW b < rankW a then 1 else 0
def laterW (a b : Nat) : Nat := if 0 < ordW a b then formW a else formW b
def W (a : Nat) : Prop := a < 18446744073709551616

theorem nanT_eq (a : Nat) : (FloatKind.f64.format.order a a != some .eq) = nanW a := by
  show (!(Ieee.double.order a a == some .eq)) = _
  rw [ord_eq]; cases nanW a <;> simp

theorem and_low (a : Nat) (h : W a) : bits BinOp.and IntKind.u64 (a : Int) 9223372036854775807 = ((a % 9223372036854775808 : Nat) : Int) := by
  have e : (9223372036854775807 : Int) = ((9223372036854775807 : Nat) : Int) := rfl
  rw [e, u64_and_nat a 9223372036854775807 h (by decide)]
  congr 1
  exact Nat.and_two_pow_sub_one_eq_mod a 63

theorem refNaN_eq (a : Nat) (h : W a) : decide (9218868437227405312 < bits BinOp.and IntKind.u64 (a : Int) 9223372036854775807) = nanW a := by
  rw [and_low a h]
  unfold nanW
  refine decide_eq_decide.2 ?_
  rw [show (2047 * 2 ^ 52 : Nat) = 9218868437227405312 from rfl, show (2 ^ 63 : Nat) = 9223372036854775808 from rfl]
  omega

theorem neg_eq (a : Nat) (h : W a) : decide (wrap64 (a : Int) < 0) = negW a := by
  unfold negW wrap64 W at *
  rw [show (2 ^ 63 : Nat) = 9223372036854775808 from rfl]
  rw [Bool.eq_iff_iff, decide_eq_true_eq, beq_iff_eq]
  omega

theorem big_eq (a : Nat) (h : W a) : decide (9223372036854775808 ≤ (a : Int)) = negW a := by
  unfold negW W at *
  rw [show (2 ^ 63 : Nat) = 9223372036854775808 from rfl]
  rw [Bool.eq_iff_iff, decide_eq_true_eq, beq_iff_eq]
  omega

theorem rank_pos_eq (a : Nat) (h : W a) (hn : negW a = false) : wrap64 (a : Int) = rankW a := by
  unfold rankW
  rw [hn]
  simp only [Bool.false_eq_true, if_false]
  unfold negW at hn
  rw [show (2 ^ 63 : Nat) = 9223372036854775808 from rfl] at hn ⊢
  rw [beq_eq_false_iff_ne] at hn
  unfold wrap64 W at *
  omega
theorem rank_neg_eq (a : Nat) (h : W a) (hn : negW a = true) : wrap64 (- wrap64 ((a % 9223372036854775808 : Nat) : Int)) = rankW a := by
  unfold rankW
  rw [hn]
  simp only [if_true]
  rw [show (2 ^ 63 : Nat) = 9223372036854775808 from rfl]
  have : a % 9223372036854775808 < 9223372036854775808 := Nat.mod_lt _ (by decide)
  generalize a % 9223372036854775808 = m at *
  unfold wrap64
  omega

theorem rank_zero : rankW 0 = 0 := rfl
theorem nan_zero : nanW 0 = false := by decide
theorem ge_eq (a : Nat) : (FloatKind.f64.format.order a 0 == some .gt || FloatKind.f64.format.order a 0 == some .eq) = (!nanW a && decide (0 ≤ rankW a)) := by
  show (Ieee.double.order a 0 == some .gt || Ieee.double.order a 0 == some .eq) = _
  rw [ord_gt, ord_eq, nan_zero, rank_zero]
  cases nanW a
  · simp only [Bool.not_false, Bool.true_and]
    rw [Bool.eq_iff_iff]
    simp only [Bool.or_eq_true, decide_eq_true_eq]
    omega
  · rfl

theorem lt_eq (a b : Nat) (ha : nanW a = false) (hb : nanW b = false) : (FloatKind.f64.format.order a b == some .lt) = decide (rankW a < rankW b) := by
  show (Ieee.double.order a b == some .lt) = _
  rw [ord_lt, ha, hb]; rfl
theorem gt_eq (a b : Nat) (ha : nanW a = false) (hb : nanW b = false) : (FloatKind.f64.format.order a b == some .gt) = decide (rankW b < rankW a) := by
  show (Ieee.double.order a b == some .gt) = _
  rw [ord_gt, ha, hb]; rfl
theorem W_form (a : Nat) (h : W a) : W (formW a) := by unfold formW W at *; split <;> omega
theorem form_eq_bits (a : Nat) : (((formW a : Nat) : Int) == (a : Int)) = (formW a == a) := by
  rw [Bool.eq_iff_iff, beq_iff_eq, beq_iff_eq]; omega
end Go.Proofs.Ytebnekpccdcnmaa
