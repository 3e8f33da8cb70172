/- What the document fixes of the clock; and the laws ClockTicks, ClockRuns over it. -/
import Derived.Test.YtdbgdpcfddpfeaaCt
import Derived.Test.YtdbgdpcfddpfeaaSu
namespace Go.Proofs.Ytdbgdpcfddpfeaa
set_option linter.unusedVariables false
open Go.RowKit Fl

/-- cloisterlaw05.fixed -/
theorem fixed_any (w : World) : Calls Try.prog 11 #[] w fun e w' => e = .returned (.bool true) ∧ w = w' := by
  have hf := run_frombits
  have H1 : Hid (W 4609434218613702656) := by unfold W Hid; decide
  have n1 : nanW 4609434218613702656 = false := by decide
  have n2 : negW 4609434218613702656 = false := by decide
  have n3 : (!nanW 4611686018427387904 && decide (0 ≤ rankW 4611686018427387904)) = true := by decide
  have n4 : floatBits .add .f64 4609434218613702656 4611686018427387904 = some 4615063718147915776 := by decide +kernel
  have T := fun w => tick_on 4609434218613702656 4611686018427387904 4615063718147915776 w H1 n1 n2 n3 n4
  have B := fun w => bits_any 9221120237041090561 w
  have n5 : formW 9221120237041090561 = 9221120237041090560 := by decide
  rw [n5] at B
  have n6 : (FloatKind.f64.format.order 4615063718147915776 4615063718147915776 == some .eq) = true := by decide +kernel
  clear n1 n2 n3 n4 n5 H1
  go_enter Try.func11, Try.ntmps11
  go_wp2_with (first | (go_at_call 9; refine (T _).mono ?_; rintro e w' ⟨rfl, rfl⟩) | (go_at_call 16; refine (B _).mono ?_; rintro e w' ⟨rfl, rfl⟩))
  go_ret
  exact ⟨rfl, rfl⟩
end Go.Proofs.Ytdbgdpcfddpfeaa
