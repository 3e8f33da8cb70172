/- The walks over the layer clock: floats as their bits. -/
import Derived.Test.YtdbgdpcfddpfeaaChecked
import Derived.Test.YtdbgdpcfddpfeaaFm
namespace Go.Proofs.Ytdbgdpcfddpfeaa
set_option linter.unusedVariables false
open Go.RowKit Fl

theorem bits_entry : Extern.find Try.f12 = some Extern.MathFloatBits.float64bits := by kernel_rfl
theorem frombits_entry : Extern.find Try.f18 = some Extern.MathFloatBits.float64frombits := by kernel_rfl
theorem run_bits (a : Nat) (w : World) : (callFunc 12 #[.float .f64 a]).run Try.prog w = .ok (.value (.int .u64 a)) w :=
  (run_callFunc_extern Try.func12 (by kernel_rfl) (by kernel_rfl) (by kernel_rfl) bits_entry _ w).trans rfl
theorem run_frombits (a : Int) (w : World) : (callFunc 18 #[.int .u64 a]).run Try.prog w = .ok (.value (.float .f64 a.toNat)) w :=
  (run_callFunc_extern Try.func18 (by kernel_rfl) (by kernel_rfl) (by kernel_rfl) frombits_entry _ w).trans rfl

theorem ret_eq {a b : Value} {w : World} (h : a = b) : Ending.returned a = Ending.returned b ∧ w = w := ⟨by rw [h], rfl⟩

/-- math.IsNaN -/
theorem isNaN_any (a : Nat) (w : World) : Calls Try.prog 28 #[.float .f64 a] w fun e w' => e = .returned (.bool (nanW a)) ∧ w = w' := by
  go_enter Try.func28, Try.ntmps28
  go_wp2
  go_ret
  exact ret_eq (congrArg Value.bool (nanT_eq a))

/-- clock.form -/
theorem form_any (a : Nat) (w : World) : Calls Try.prog 27 #[.float .f64 a] w fun e w' => e = .returned (.float .f64 (formW a)) ∧ w = w' := by
  have hf := run_frombits
  by_cases h : nanW a = true
  · have H : Hid (formW a = 9221120237041090560) := by unfold formW; rw [if_pos h]; rfl
    go_enter Try.func27, Try.ntmps27
    go_wp2_with (go_at_call 28; refine (isNaN_any _ _).mono ?_; rintro e w' ⟨rfl, rfl⟩)
    go_ret
    exact ret_eq (congrArg (Value.float .f64) H.out.symm)
  · have h' : nanW a = false := by simpa using h
    have H : Hid (formW a = a) := by unfold formW; rw [if_neg h]; rfl
    clear h
    go_enter Try.func27, Try.ntmps27
    go_wp2_with (go_at_call 28; refine (isNaN_any _ _).mono ?_; rintro e w' ⟨rfl, rfl⟩)
    go_ret
    exact ret_eq (congrArg (Value.float .f64) H.out.symm)

/-- clock.Bits -/
theorem bits_any (a : Nat) (w : World) : Calls Try.prog 16 #[.float .f64 a] w fun e w' => e = .returned (.int .u64 (formW a)) ∧ w = w' := by
  have hf := run_bits
  go_enter Try.func16, Try.ntmps16
  go_wp2_with (go_at_call 27; refine (form_any _ _).mono ?_; rintro e w' ⟨rfl, rfl⟩)
  go_ret
  exact ⟨rfl, rfl⟩

/-- cloisterref05.isNaN -/
theorem refNaN_any (a : Nat) (w : World) (ha : Hid (W a)) : Calls Try.prog 25 #[.int .u64 a] w fun e w' => e = .returned (.bool (nanW a)) ∧ w = w' := by
  go_enter Try.func25, Try.ntmps25
  go_wp2
  go_ret
  exact ret_eq (congrArg Value.bool (refNaN_eq a ha.out))

/-- cloisterref05.Bits -/
theorem refBits_any (a : Nat) (w : World) (ha : Hid (W a)) : Calls Try.prog 17 #[.float .f64 a] w fun e w' => e = .returned (.int .u64 (formW a)) ∧ w = w' := by
  have hf := run_bits
  by_cases h : nanW a = true
  · have H : Hid (formW a = 9221120237041090560) := by unfold formW; rw [if_pos h]; rfl
    go_enter Try.func17, Try.ntmps17
    go_wp2_with (go_at_call 25; refine (refNaN_any _ _ ha).mono ?_; rintro e w' ⟨rfl, rfl⟩)
    go_ret
    refine ret_eq ?_
    rw [H.out]; rfl
  · have h' : nanW a = false := by simpa using h
    have H : Hid (formW a = a) := by unfold formW; rw [if_neg h]; rfl
    clear h
    go_enter Try.func17, Try.ntmps17
    go_wp2_with (go_at_call 25; refine (refNaN_any _ _ ha).mono ?_; rintro e w' ⟨rfl, rfl⟩)
    go_ret
    refine ret_eq ?_
    rw [H.out]; rfl

/-- math.Signbit -/
theorem signbit_any (a : Nat) (w : World) (ha : Hid (W a)) : Calls Try.prog 20 #[.float .f64 a] w fun e w' => e = .returned (.bool (negW a)) ∧ w = w' := by
  have hb := run_bits
  go_enter Try.func20, Try.ntmps20
  go_wp2
  go_ret
  exact ret_eq (congrArg Value.bool (neg_eq a ha.out))

/-- cloisterref05.rank -/
theorem rank_any (a : Nat) (w : World) (ha : Hid (W a)) : Calls Try.prog 29 #[.int .u64 a] w fun e w' => e = .returned (.int .i64 (rankW a)) ∧ w = w' := by
  by_cases hn : negW a = true
  · have hd : decide (9223372036854775808 ≤ (a : Int)) = true := (big_eq a ha.out).trans hn
    have hb := and_low a ha.out
    have H : Hid (wrap64 (- wrap64 ((a % 9223372036854775808 : Nat) : Int)) = rankW a) := rank_neg_eq a ha.out hn
    clear hn
    generalize a % 9223372036854775808 = m at *
    go_enter Try.func29, Try.ntmps29
    go_wp2
    go_ret
    exact ret_eq (congrArg (Value.int .i64) H.out)
  · have hn' : negW a = false := by simpa using hn
    have hd : decide (9223372036854775808 ≤ (a : Int)) = false := (big_eq a ha.out).trans hn'
    have H : Hid (wrap64 (a : Int) = rankW a) := rank_pos_eq a ha.out hn'
    clear hn hn'
    go_enter Try.func29, Try.ntmps29
    go_wp2
    go_ret
    exact ret_eq (congrArg (Value.int .i64) H.out)
end Go.Proofs.Ytdbgdpcfddpfeaa
