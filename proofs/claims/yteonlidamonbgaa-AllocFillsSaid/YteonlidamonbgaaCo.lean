/- The walks over the layer clock: order, from, tick, ratio. -/
import Derived.Test.YteonlidamonbgaaCw
namespace Go.Proofs.Yteonlidamonbgaa
set_option linter.unusedVariables false
open Go.RowKit Fl

theorem isNaN_w (a : Nat) (w : World) (b : Bool) (h : Hid (nanW a = b)) : Calls Try.prog 24 #[.float .f64 a] w fun e w' => e = .returned (.bool b) ∧ w = w' := by
  rw [← h.out]; exact isNaN_any a w
theorem refNaN_w (a : Nat) (w : World) (ha : Hid (W a)) (b : Bool) (h : Hid (nanW a = b)) : Calls Try.prog 28 #[.int .u64 a] w fun e w' => e = .returned (.bool b) ∧ w = w' := by
  rw [← h.out]; exact refNaN_any a w ha

/-- clock.Order -/
theorem order_any (a b : Nat) (w : World) : Calls Try.prog 18 #[.float .f64 a, .float .f64 b] w fun e w' => e = .returned (.int .i64 (ordW a b)) ∧ w = w' := by
  cases h1 : nanW a <;> cases h2 : nanW b
  · have e1 := lt_eq a b h1 h2
    have e2 := gt_eq a b h1 h2
    by_cases c1 : rankW a < rankW b
    · have H : Hid (ordW a b = -1) := by unfold ordW Hid; rw [if_neg (by simp [h1]), if_neg (by simp [h2]), if_pos c1]
      have H1 : Hid (nanW a = false) := h1
      have H2 : Hid (nanW b = false) := h2
      have f1 : (FloatKind.f64.format.order a b == some .lt) = true := by rw [e1]; exact decide_eq_true c1
      clear e1 e2 h1 h2 c1
      go_enter Try.func18, Try.ntmps18
      go_wp2_with (go_at_call 24; first | (refine (isNaN_w a _ false H1).mono ?_; rintro e w' ⟨rfl, rfl⟩) | (refine (isNaN_w b _ false H2).mono ?_; rintro e w' ⟨rfl, rfl⟩))
      go_ret
      exact ret_eq (congrArg (Value.int .i64) H.out.symm)
    · by_cases c2 : rankW b < rankW a
      · have H : Hid (ordW a b = 1) := by unfold ordW Hid; rw [if_neg (by simp [h1]), if_neg (by simp [h2]), if_neg c1, if_pos c2]
        have H1 : Hid (nanW a = false) := h1
        have H2 : Hid (nanW b = false) := h2
        have f1 : (FloatKind.f64.format.order a b == some .lt) = false := by rw [e1]; exact decide_eq_false c1
        have f2 : (FloatKind.f64.format.order a b == some .gt) = true := by rw [e2]; exact decide_eq_true c2
        clear e1 e2 h1 h2 c1 c2
        go_enter Try.func18, Try.ntmps18
        go_wp2_with (go_at_call 24; first | (refine (isNaN_w a _ false H1).mono ?_; rintro e w' ⟨rfl, rfl⟩) | (refine (isNaN_w b _ false H2).mono ?_; rintro e w' ⟨rfl, rfl⟩))
        go_ret
        exact ret_eq (congrArg (Value.int .i64) H.out.symm)
      · have H : Hid (ordW a b = 0) := by unfold ordW Hid; rw [if_neg (by simp [h1]), if_neg (by simp [h2]), if_neg c1, if_neg c2]
        have H1 : Hid (nanW a = false) := h1
        have H2 : Hid (nanW b = false) := h2
        have f1 : (FloatKind.f64.format.order a b == some .lt) = false := by rw [e1]; exact decide_eq_false c1
        have f2 : (FloatKind.f64.format.order a b == some .gt) = false := by rw [e2]; exact decide_eq_false c2
        clear e1 e2 h1 h2 c1 c2
        go_enter Try.func18, Try.ntmps18
        go_wp2_with (go_at_call 24; first | (refine (isNaN_w a _ false H1).mono ?_; rintro e w' ⟨rfl, rfl⟩) | (refine (isNaN_w b _ false H2).mono ?_; rintro e w' ⟨rfl, rfl⟩))
        go_ret
        exact ret_eq (congrArg (Value.int .i64) H.out.symm)
  · have H : Hid (ordW a b = -1) := by unfold ordW Hid; rw [if_neg (by simp [h1]), if_pos h2]
    have H1 : Hid (nanW a = false) := h1
    have H2 : Hid (nanW b = true) := h2
    clear h1 h2
    go_enter Try.func18, Try.ntmps18
    go_wp2_with (go_at_call 24; first | (refine (isNaN_w a _ false H1).mono ?_; rintro e w' ⟨rfl, rfl⟩) | (refine (isNaN_w b _ true H2).mono ?_; rintro e w' ⟨rfl, rfl⟩))
    go_ret
    exact ret_eq (congrArg (Value.int .i64) H.out.symm)
  · have H : Hid (ordW a b = 1) := by unfold ordW Hid; rw [if_pos h1, if_neg (by simp [h2])]
    have H1 : Hid (nanW a = true) := h1
    have H2 : Hid (nanW b = false) := h2
    clear h1 h2
    go_enter Try.func18, Try.ntmps18
    go_wp2_with (go_at_call 24; first | (refine (isNaN_w a _ true H1).mono ?_; rintro e w' ⟨rfl, rfl⟩) | (refine (isNaN_w b _ false H2).mono ?_; rintro e w' ⟨rfl, rfl⟩))
    go_ret
    exact ret_eq (congrArg (Value.int .i64) H.out.symm)
  · have H : Hid (ordW a b = 0) := by unfold ordW Hid; rw [if_pos h1, if_pos h2]
    have H1 : Hid (nanW a = true) := h1
    have H2 : Hid (nanW b = true) := h2
    clear h1 h2
    go_enter Try.func18, Try.ntmps18
    go_wp2_with (go_at_call 24; first | (refine (isNaN_w a _ true H1).mono ?_; rintro e w' ⟨rfl, rfl⟩) | (refine (isNaN_w b _ true H2).mono ?_; rintro e w' ⟨rfl, rfl⟩))
    go_ret
    exact ret_eq (congrArg (Value.int .i64) H.out.symm)
end Go.Proofs.Yteonlidamonbgaa

