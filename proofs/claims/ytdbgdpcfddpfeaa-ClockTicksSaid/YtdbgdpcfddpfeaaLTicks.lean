/- The walk of ClockTicks: one call of either Tick, the same answers. -/
import Derived.Test.YtdbgdpcfddpfeaaFx
namespace Go.Proofs.Ytdbgdpcfddpfeaa
set_option linter.unusedVariables false
open Go.RowKit Fl

theorem ticks_core (a b r : Nat) (e : Int) (w : World)
    (T : ∀ w, Calls Try.prog 9 #[.float .f64 a, .float .f64 b] w fun q w' => q = .returned (.tuple #[.float .f64 r, .int .i64 e]) ∧ w = w')
    (R : ∀ w, Calls Try.prog 10 #[.float .f64 a, .float .f64 b] w fun q w' => q = .returned (.tuple #[.int .u64 r, .int .i64 e]) ∧ w = w') :
    Calls Try.prog 3 #[.float .f64 a, .float .f64 b] w fun q w' => q = .returned (.bool true) ∧ Below w.heap.size w w' := by
  have hf := run_bits
  go_enter Try.func3, Try.ntmps3
  go_wp2_with (first | (go_at_call 9; refine (T _).mono ?_; rintro e w' ⟨rfl, rfl⟩) | (go_at_call 10; refine (R _).mono ?_; rintro e w' ⟨rfl, rfl⟩) | (go_at_call 11; refine (fixed_any _).mono ?_; rintro e w' ⟨rfl, rfl⟩))
  go_ret
  exact ⟨rfl, Below.refl _ _⟩

theorem ticks_walk (a b : Nat) (w : World) (wa : (Lit.float .f64 a).wf = true) (wb : (Lit.float .f64 b).wf = true) :
    Calls Try.prog 3 #[.float .f64 a, .float .f64 b] w fun q w' => q = .returned (.bool true) ∧ Below w.heap.size w w' := by
  have ha : W a := by simpa [Lit.wf, W] using wa
  have hb : W b := by simpa [Lit.wf, W] using wb
  cases h1 : nanW a
  · cases h2 : negW a
    · cases h3 : (!nanW b && decide (0 ≤ rankW b))
      · refine ticks_core a b 0 2 w (fun w => tick_range a b w ha h1 h2 h3) ?_
        cases h4 : nanW b
        · rw [h4] at h3
          have h5 : decide (0 ≤ rankW b) = false := by simpa using h3
          exact fun w => refTick_back a b w ha hb h1 h2 h4 h5
        · exact fun w => refTick_bnan a b w ha hb h1 h2 h4
      · obtain ⟨r, hr, _, _⟩ := add_on a b (time_le ha h1 h2) (by_le hb h3)
        have hr' : floatBits .add .f64 a b = some r := hr
        rw [Bool.and_eq_true, Bool.not_eq_true'] at h3
        exact ticks_core a b r 0 w (fun w => tick_on a b r w ha h1 h2 (by rw [h3.1, h3.2]; rfl) hr') (fun w => refTick_on a b r w ha hb h1 h2 h3.1 h3.2 hr')
    · exact ticks_core a b 0 3 w (fun w => tick_shape a b w ha (Or.inr h2)) (fun w => refTick_neg a b w ha h1 h2)
  · exact ticks_core a b 0 3 w (fun w => tick_shape a b w ha (Or.inl h1)) (fun w => refTick_nan a b w ha h1)
end Go.Proofs.Ytdbgdpcfddpfeaa
