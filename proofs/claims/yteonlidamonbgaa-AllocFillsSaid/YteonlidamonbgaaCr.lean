/- Walks over the layer clock. -/
import Derived.Test.YteonlidamonbgaaCw
namespace Go.Proofs.Yteonlidamonbgaa
set_option linter.unusedVariables false
open Go.RowKit Fl

/-- A division that has no answer: some NaN. -/
theorem run_nan (x y : Nat) (w : World) (h : floatBits .quo .f64 x y = none) : ∃ c, nanW c = true ∧ W c ∧ ∀ t, (binOp .quo t (.float .f64 x) (.float .f64 y)).run Try.prog w = .ok (.float .f64 c) w.drew := by
  have h' : FloatKind.f64.format.div x y = none := h
  refine ⟨_, ?_, ?_, fun t => by simp [binOp, Op.floatArith, h', Question.forced]; rfl⟩
  · simp only [Question.cut]
    generalize w.tape w.drawn (Question.nanBits FloatKind.f64 x y) = u
    unfold nanW
    rw [decide_eq_true_eq]
    rw [show (2 ^ 63 : Nat) = 9223372036854775808 from rfl, show (2047 * 2 ^ 52 : Nat) = 9218868437227405312 from rfl, show (2 ^ 52 : Nat) = 4503599627370496 from rfl]
    have h1 : u % 2 < 2 := Nat.mod_lt _ (by decide)
    have h2 : u / 2 % (4503599627370496 - 1) < 4503599627370495 := Nat.mod_lt _ (by decide)
    generalize u / 2 % (4503599627370496 - 1) = p at *
    generalize u % 2 = q at *
    show 9218868437227405312 < (q * 9223372036854775808 + 9218868437227405312 + 1 + p) % 9223372036854775808
    omega
  · simp only [Question.cut]
    generalize w.tape w.drawn (Question.nanBits FloatKind.f64 x y) = u
    unfold W
    rw [show (2 ^ 63 : Nat) = 9223372036854775808 from rfl, show (2 ^ 52 : Nat) = 4503599627370496 from rfl]
    omega

/-- The ratio's bits: of the quotient, in its one form; a NaN where there is none. -/
def ratioW (a b : Int) : Nat := match floatBits .quo .f64 (floatOfInt .f64 a) (floatOfInt .f64 b) with
  | some r => formW r
  | none => 9221120237041090560

theorem formW_nan {c : Nat} (h : nanW c = true) : formW c = 9221120237041090560 := by unfold formW; rw [if_pos h]

/-- clock.Ratio -/
theorem ratio_any (a b : Int) (w : World) : Calls Try.prog 20 #[.int .i64 a, .int .i64 b] w fun q w' => q = .returned (.float .f64 (ratioW a b)) ∧ Below w.heap.size w w' := by
  have hw : (∃ w1, Below w.heap.size w w1 ∧ ∃ r, formW r = ratioW a b ∧ (binOp .quo 29 (.float .f64 (floatOfInt .f64 a)) (.float .f64 (floatOfInt .f64 b))).run Try.prog w = .ok (.float .f64 r) w1) := by
    cases hq : floatBits .quo .f64 (floatOfInt .f64 a) (floatOfInt .f64 b) with
    | none =>
      obtain ⟨c, hc, _, hr⟩ := run_nan _ _ w hq
      exact ⟨w.drew, (Below.refl _ _).drew, c, by unfold ratioW; rw [hq, formW_nan hc], hr 29⟩
    | some r => exact ⟨w, Below.refl _ _, r, by unfold ratioW; rw [hq], run_float_arith w .quo 29 .f64 _ _ r hq⟩
  obtain ⟨w1, hB, r, hr, hrun⟩ := hw
  have HB : Hid (Below w.heap.size w w1) := hB
  have HR : Hid (formW r = ratioW a b) := hr
  clear hB hr
  go_enter Try.func20, Try.ntmps20
  go_wp2_with (go_at_call 25; refine (form_any _ _).mono ?_; rintro e w' ⟨rfl, rfl⟩)
  go_ret
  exact ⟨by rw [← HR.out]; rfl, HB.out⟩

/-- cloisterref05.Ratio -/
theorem refRatio_any (a b : Int) (w : World) : Calls Try.prog 22 #[.int .i64 a, .int .i64 b] w fun q w' => q = .returned (.int .u64 (ratioW a b)) ∧ Below w.heap.size w w' := by
  have hw : (∃ w1, Below w.heap.size w w1 ∧ ∃ r, formW r = ratioW a b ∧ W r ∧ (binOp .quo 29 (.float .f64 (floatOfInt .f64 a)) (.float .f64 (floatOfInt .f64 b))).run Try.prog w = .ok (.float .f64 r) w1) := by
    cases hq : floatBits .quo .f64 (floatOfInt .f64 a) (floatOfInt .f64 b) with
    | none =>
      obtain ⟨c, hc, hW, hr⟩ := run_nan _ _ w hq
      exact ⟨w.drew, (Below.refl _ _).drew, c, by unfold ratioW; rw [hq, formW_nan hc], hW, hr 29⟩
    | some r => exact ⟨w, Below.refl _ _, r, by unfold ratioW; rw [hq], by have := floatBits_wf hq; simpa [Lit.wf, W] using this, run_float_arith w .quo 29 .f64 _ _ r hq⟩
  obtain ⟨w1, hB, r, hr, hW, hrun⟩ := hw
  have HB : Hid (Below w.heap.size w w1) := hB
  have HR : Hid (formW r = ratioW a b) := hr
  have HW : Hid (W r) := hW
  clear hB hr hW
  go_enter Try.func22, Try.ntmps22
  go_wp2_with (go_at_call 26; refine (refBits_any _ _ HW).mono ?_; rintro e w' ⟨rfl, rfl⟩)
  go_ret
  exact ⟨by rw [← HR.out]; rfl, HB.out⟩

end Go.Proofs.Yteonlidamonbgaa
