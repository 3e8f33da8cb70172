/- The walks over the layer clock: tick, on either side. -/
import Derived.Test.YtdbgdpcfddpfeaaCp
namespace Go.Proofs.Ytdbgdpcfddpfeaa
set_option linter.unusedVariables false
open Go.RowKit Fl

theorem signbit_w (a : Nat) (w : World) (ha : Hid (W a)) (b : Bool) (h : Hid (negW a = b)) : Calls Try.prog 20 #[.float .f64 a] w fun e w' => e = .returned (.bool b) ∧ w = w' := by
  rw [← h.out]; exact signbit_any a w ha

theorem pos_rank {a : Nat} (h : negW a = false) : 0 ≤ rankW a := by unfold rankW; rw [h]; simp; omega
theorem ge_of (a : Nat) (b : Bool) (h : (!nanW a && decide (0 ≤ rankW a)) = b) : (FloatKind.f64.format.order a 0 == some .gt || FloatKind.f64.format.order a 0 == some .eq) = b := (ge_eq a).trans h

/-- clock.Tick at what is no time. -/
theorem tick_shape (a b : Nat) (w : World) (ha : Hid (W a)) (h : nanW a = true ∨ negW a = true) :
    Calls Try.prog 9 #[.float .f64 a, .float .f64 b] w fun e w' => e = .returned (.tuple #[.float .f64 0, .int .i64 3]) ∧ w = w' := by
  by_cases h1 : nanW a = true
  · have g1 := ge_of a false (by rw [h1]; rfl)
    clear h h1
    go_enter Try.func9, Try.ntmps9
    go_wp2
    go_ret2
    exact ⟨rfl, rfl⟩
  · have h2 : Hid (negW a = true) := by rcases h with h | h; exact absurd h h1; exact h
    clear h
    cases hq : decide (0 ≤ rankW a)
    · have g1 := ge_of a false (by rw [hq]; simp)
      clear h1 hq
      go_enter Try.func9, Try.ntmps9
      go_wp2
      go_ret2
      exact ⟨rfl, rfl⟩
    · have g1 := ge_of a true (by rw [hq]; simpa using h1)
      clear h1 hq
      go_enter Try.func9, Try.ntmps9
      go_wp2_with (go_at_call 20; refine (signbit_w a _ ha true h2).mono ?_; rintro e w' ⟨rfl, rfl⟩)
      go_ret2
      exact ⟨rfl, rfl⟩

/-- clock.Tick by what would run back. -/
theorem tick_range (a b : Nat) (w : World) (ha : Hid (W a)) (h1 : nanW a = false) (h2 : negW a = false) (h : (!nanW b && decide (0 ≤ rankW b)) = false) :
    Calls Try.prog 9 #[.float .f64 a, .float .f64 b] w fun e w' => e = .returned (.tuple #[.float .f64 0, .int .i64 2]) ∧ w = w' := by
  have g1 := ge_of a true (by rw [h1, decide_eq_true (pos_rank h2)]; rfl)
  have g2 := ge_of b false h
  have H2 : Hid (negW a = false) := h2
  clear h h1 h2
  go_enter Try.func9, Try.ntmps9
  go_wp2_with (go_at_call 20; refine (signbit_w a _ ha false H2).mono ?_; rintro e w' ⟨rfl, rfl⟩)
  go_ret2
  exact ⟨rfl, rfl⟩

/-- clock.Tick on. -/
theorem tick_on (a b r : Nat) (w : World) (ha : Hid (W a)) (h1 : nanW a = false) (h2 : negW a = false) (h : (!nanW b && decide (0 ≤ rankW b)) = true) (hr : floatBits .add .f64 a b = some r) :
    Calls Try.prog 9 #[.float .f64 a, .float .f64 b] w fun e w' => e = .returned (.tuple #[.float .f64 r, .int .i64 0]) ∧ w = w' := by
  have g1 := ge_of a true (by rw [h1, decide_eq_true (pos_rank h2)]; rfl)
  have g2 := ge_of b true h
  have g3 := fun w => run_float_arith (P := Try.prog) w .add 22 .f64 a b r hr
  have H2 : Hid (negW a = false) := h2
  clear h h1 h2 hr
  go_enter Try.func9, Try.ntmps9
  go_wp2_with (go_at_call 20; refine (signbit_w a _ ha false H2).mono ?_; rintro e w' ⟨rfl, rfl⟩)
  go_ret2
  exact ⟨rfl, rfl⟩

theorem below_eq (b : Nat) (hb : W b) (h : nanW b = false) : decide (9223372036854775808 < (b : Int)) = !decide (0 ≤ rankW b) := by
  unfold rankW negW nanW W at *
  rw [show (2 ^ 63 : Nat) = 9223372036854775808 from rfl] at *
  rw [Bool.eq_iff_iff, Bool.not_eq_true', decide_eq_true_eq, decide_eq_false_iff_not]
  split <;> rename_i hc <;> simp only [beq_iff_eq] at hc <;> omega

/-- cloisterref05.below -/
theorem refBelow_any (b : Nat) (w : World) (hb : Hid (W b)) (h : Hid (nanW b = false)) (t : Bool) (ht : Hid (decide (0 ≤ rankW b) = t)) : Calls Try.prog 26 #[.int .u64 b] w fun e w' => e = .returned (.bool (!t)) ∧ w = w' := by
  have H := below_eq b hb.out h.out
  rw [ht.out] at H
  have H' : Hid (decide (9223372036854775808 < (b : Int)) = !t) := H
  clear H
  go_enter Try.func26, Try.ntmps26
  go_wp2_with (go_at_call 25; refine (refNaN_w b _ hb false h).mono ?_; rintro e w' ⟨rfl, rfl⟩)
  go_ret
  exact ret_eq (congrArg Value.bool H'.out)

/-- cloisterref05.Tick -/
theorem refTick_nan (a b : Nat) (w : World) (ha : Hid (W a)) (h : Hid (nanW a = true)) :
    Calls Try.prog 10 #[.float .f64 a, .float .f64 b] w fun e w' => e = .returned (.tuple #[.int .u64 0, .int .i64 3]) ∧ w = w' := by
  have hf := run_bits
  go_enter Try.func10, Try.ntmps10
  go_wp2_with (go_at_call 25; refine (refNaN_w a _ ha true h).mono ?_; rintro e w' ⟨rfl, rfl⟩)
  go_ret2
  exact ⟨rfl, rfl⟩
theorem refTick_neg (a b : Nat) (w : World) (ha : Hid (W a)) (h : Hid (nanW a = false)) (h2 : negW a = true) :
    Calls Try.prog 10 #[.float .f64 a, .float .f64 b] w fun e w' => e = .returned (.tuple #[.int .u64 0, .int .i64 3]) ∧ w = w' := by
  have hf := run_bits
  have g := (big_eq a ha.out).trans h2
  clear h2
  go_enter Try.func10, Try.ntmps10
  go_wp2_with (go_at_call 25; refine (refNaN_w a _ ha false h).mono ?_; rintro e w' ⟨rfl, rfl⟩)
  go_ret2
  exact ⟨rfl, rfl⟩
theorem refTick_bnan (a b : Nat) (w : World) (ha : Hid (W a)) (hb : Hid (W b)) (h : Hid (nanW a = false)) (h2 : negW a = false) (h3 : Hid (nanW b = true)) :
    Calls Try.prog 10 #[.float .f64 a, .float .f64 b] w fun e w' => e = .returned (.tuple #[.int .u64 0, .int .i64 2]) ∧ w = w' := by
  have hf := run_bits
  have g := (big_eq a ha.out).trans h2
  clear h2
  go_enter Try.func10, Try.ntmps10
  go_wp2_with (go_at_call 25; first | ((with_reducible refine (refNaN_w a _ ha false h).mono ?_); rintro e w' ⟨rfl, rfl⟩) | ((with_reducible refine (refNaN_w b _ hb true h3).mono ?_); rintro e w' ⟨rfl, rfl⟩))
  go_ret2
  exact ⟨rfl, rfl⟩
theorem refTick_back (a b : Nat) (w : World) (ha : Hid (W a)) (hb : Hid (W b)) (h : Hid (nanW a = false)) (h2 : negW a = false) (h3 : Hid (nanW b = false)) (h4 : Hid (decide (0 ≤ rankW b) = false)) :
    Calls Try.prog 10 #[.float .f64 a, .float .f64 b] w fun e w' => e = .returned (.tuple #[.int .u64 0, .int .i64 2]) ∧ w = w' := by
  have hf := run_bits
  have g := (big_eq a ha.out).trans h2
  clear h2
  go_enter Try.func10, Try.ntmps10
  go_wp2_with (first | (go_at_call 25; first | ((with_reducible refine (refNaN_w a _ ha false h).mono ?_); rintro e w' ⟨rfl, rfl⟩) | ((with_reducible refine (refNaN_w b _ hb false h3).mono ?_); rintro e w' ⟨rfl, rfl⟩)) | (go_at_call 26; refine (refBelow_any b _ hb h3 false h4).mono ?_; rintro e w' ⟨rfl, rfl⟩))
  go_ret2
  exact ⟨rfl, rfl⟩
theorem refTick_on (a b r : Nat) (w : World) (ha : Hid (W a)) (hb : Hid (W b)) (h : Hid (nanW a = false)) (h2 : negW a = false) (h3 : Hid (nanW b = false)) (h4 : Hid (decide (0 ≤ rankW b) = true)) (hr : floatBits .add .f64 a b = some r) :
    Calls Try.prog 10 #[.float .f64 a, .float .f64 b] w fun e w' => e = .returned (.tuple #[.int .u64 r, .int .i64 0]) ∧ w = w' := by
  have hf := run_bits
  have g := (big_eq a ha.out).trans h2
  have g3 := fun w => run_float_arith (P := Try.prog) w .add 22 .f64 a b r hr
  clear h2 hr
  go_enter Try.func10, Try.ntmps10
  go_wp2_with (first | (go_at_call 25; first | ((with_reducible refine (refNaN_w a _ ha false h).mono ?_); rintro e w' ⟨rfl, rfl⟩) | ((with_reducible refine (refNaN_w b _ hb false h3).mono ?_); rintro e w' ⟨rfl, rfl⟩)) | (go_at_call 26; refine (refBelow_any b _ hb h3 true h4).mono ?_; rintro e w' ⟨rfl, rfl⟩))
  go_ret2
  exact ⟨rfl, rfl⟩
end Go.Proofs.Ytdbgdpcfddpfeaa
