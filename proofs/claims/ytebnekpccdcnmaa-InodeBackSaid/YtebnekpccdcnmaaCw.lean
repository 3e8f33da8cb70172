/- The walks over the layer clock: floats as their bits. -/
import Derived.Test.YtebnekpccdcnmaaChecked
import Derived.Test.YtebnekpccdcnmaaFm
namespace Go.Proofs.Ytebnekpccdcnmaa
set_option linter.unusedVariables false
open Go.RowKit Fl

theorem bits_entry : Extern.find Try.f21 = some Extern.MathFloatBits.float64bits := by kernel_rfl
theorem frombits_entry : Extern.find Try.f41 = some Extern.MathFloatBits.float64frombits := by kernel_rfl
theorem run_bits (a : Nat) (w : World) : (callFunc 21 #[.float .f64 a]).run Try.prog w = .ok (.value (.int .u64 a)) w :=
  (run_callFunc_extern Try.func21 (by kernel_rfl) (by kernel_rfl) (by kernel_rfl) bits_entry _ w).trans rfl
theorem run_frombits (a : Int) (w : World) : (callFunc 41 #[.int .u64 a]).run Try.prog w = .ok (.value (.float .f64 a.toNat)) w :=
  (run_callFunc_extern Try.func41 (by kernel_rfl) (by kernel_rfl) (by kernel_rfl) frombits_entry _ w).trans rfl

theorem ret_eq {a b : Value} {w : World} (h : a = b) : Ending.returned a = Ending.returned b ∧ w = w := ⟨by rw [h], rfl⟩

/-- math.IsNaN -/
theorem isNaN_any (a : Nat) (w : World) : Calls Try.prog 56 #[.float .f64 a] w fun e w' => e = .returned (.bool (nanW a)) ∧ w = w' := by
  go_enter Try.func56, Try.ntmps56
  go_wp2
  go_ret
  exact ret_eq (congrArg Value.bool (nanT_eq a))

/-- clock.form -/
theorem form_any (a : Nat) (w : World) : Calls Try.prog 45 #[.float .f64 a] w fun e w' => e = .returned (.float .f64 (formW a)) ∧ w = w' := by
  have hf := run_frombits
  by_cases h : nanW a = true
  · have H : Hid (formW a = 9221120237041090560) := by unfold formW; rw [if_pos h]; rfl
    go_enter Try.func45, Try.ntmps45
    go_wp2_with (go_at_call 56; refine (isNaN_any _ _).mono ?_; rintro e w' ⟨rfl, rfl⟩)
    go_ret
    exact ret_eq (congrArg (Value.float .f64) H.out.symm)
  · have h' : nanW a = false := by simpa using h
    have H : Hid (formW a = a) := by unfold formW; rw [if_neg h]; rfl
    clear h
    go_enter Try.func45, Try.ntmps45
    go_wp2_with (go_at_call 56; refine (isNaN_any _ _).mono ?_; rintro e w' ⟨rfl, rfl⟩)
    go_ret
    exact ret_eq (congrArg (Value.float .f64) H.out.symm)

/-- cloisterref05.isNaN -/
theorem refNaN_any (a : Nat) (w : World) (ha : Hid (W a)) : Calls Try.prog 51 #[.int .u64 a] w fun e w' => e = .returned (.bool (nanW a)) ∧ w = w' := by
  go_enter Try.func51, Try.ntmps51
  go_wp2
  go_ret
  exact ret_eq (congrArg Value.bool (refNaN_eq a ha.out))

/-- cloisterref05.Bits -/
theorem refBits_any (a : Nat) (w : World) (ha : Hid (W a)) : Calls Try.prog 26 #[.float .f64 a] w fun e w' => e = .returned (.int .u64 (formW a)) ∧ w = w' := by
  have hf := run_bits
  by_cases h : nanW a = true
  · have H : Hid (formW a = 9221120237041090560) := by unfold formW; rw [if_pos h]; rfl
    go_enter Try.func26, Try.ntmps26
    go_wp2_with (go_at_call 51; refine (refNaN_any _ _ ha).mono ?_; rintro e w' ⟨rfl, rfl⟩)
    go_ret
    refine ret_eq ?_
    rw [H.out]; rfl
  · have h' : nanW a = false := by simpa using h
    have H : Hid (formW a = a) := by unfold formW; rw [if_neg h]; rfl
    clear h
    go_enter Try.func26, Try.ntmps26
    go_wp2_with (go_at_call 51; refine (refNaN_any _ _ ha).mono ?_; rintro e w' ⟨rfl, rfl⟩)
    go_ret
    refine ret_eq ?_
    rw [H.out]; rfl

end Go.Proofs.Ytebnekpccdcnmaa
