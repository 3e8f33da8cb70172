/- The walks of ClockForms and ClockOrders. -/
import Derived.Test.YtdbgdpcfddpfeaaRa
import Derived.OpenShut
namespace Go.Proofs.Ytdbgdpcfddpfeaa
set_option linter.unusedVariables false
open Go.RowKit Fl

theorem form_form (a : Nat) : formW (formW a) = formW a := by
  unfold formW
  cases h : nanW a
  · simp [h]
  · simp only [if_true]
    decide

theorem forms_bad (t b : Nat) (w : World) (ht : Hid (W t)) (hb : Hid (W b)) (h : Hid (formW b ≠ b)) :
    Calls Try.prog 5 #[.float .f64 t, .int .u64 b] w fun q w' => q = .returned (.bool true) ∧ Below w.heap.size w w' := by
  have hf := run_bits
  have hg := run_frombits
  have hx : (((formW b : Nat) : Int) != (b : Int)) = true := by have := h.out; rw [bne_iff_ne]; omega
  have hy : Hid (formW (formW t) = formW t) := form_form t
  have B2 : ∀ w, Calls Try.prog 16 #[.float .f64 (formW t)] w fun e w' => e = .returned (.int .u64 (formW t)) ∧ w = w' := fun w => by
    have := bits_any (formW t) w; rw [form_form] at this; exact this
  go_enter Try.func5, Try.ntmps5
  go_wp2_with (first
    | (go_at_call 15; first | ((with_reducible refine (from_bad b _ h).mono ?_); rintro e w' ⟨rfl, rfl⟩) | ((with_reducible refine (from_good (formW t) _ hy).mono ?_); rintro e w' ⟨rfl, rfl⟩))
    | (go_at_call 16; first | ((with_reducible refine (bits_any t _).mono ?_); rintro e w' ⟨rfl, rfl⟩) | ((with_reducible refine (B2 _).mono ?_); rintro e w' ⟨rfl, rfl⟩))
    | (go_at_call 17; first | ((with_reducible refine (refBits_any t _ ht).mono ?_); rintro e w' ⟨rfl, rfl⟩) | ((with_reducible refine (refBits_any b _ hb).mono ?_); rintro e w' ⟨rfl, rfl⟩))
    | (go_at_call 11; refine (fixed_any _).mono ?_; rintro e w' ⟨rfl, rfl⟩))
  go_ret
  exact ⟨rfl, Below.refl _ _⟩

theorem forms_good (t b : Nat) (w : World) (ht : Hid (W t)) (hb : Hid (W b)) (h : Hid (formW b = b)) :
    Calls Try.prog 5 #[.float .f64 t, .int .u64 b] w fun q w' => q = .returned (.bool true) ∧ Below w.heap.size w w' := by
  have hf := run_bits
  have hg := run_frombits
  have hx : (((formW b : Nat) : Int) != (b : Int)) = false := by rw [h.out]; simp
  have hy : Hid (formW (formW t) = formW t) := form_form t
  have B2 : ∀ w, Calls Try.prog 16 #[.float .f64 (formW t)] w fun e w' => e = .returned (.int .u64 (formW t)) ∧ w = w' := fun w => by
    have := bits_any (formW t) w; rw [form_form] at this; exact this
  go_enter Try.func5, Try.ntmps5
  go_wp2_with (first
    | (go_at_call 15; first | ((with_reducible refine (from_good b _ h).mono ?_); rintro e w' ⟨rfl, rfl⟩) | ((with_reducible refine (from_good (formW t) _ hy).mono ?_); rintro e w' ⟨rfl, rfl⟩))
    | (go_at_call 16; first | ((with_reducible refine (bits_any t _).mono ?_); rintro e w' ⟨rfl, rfl⟩) | ((with_reducible refine (B2 _).mono ?_); rintro e w' ⟨rfl, rfl⟩))
    | (go_at_call 17; first | ((with_reducible refine (refBits_any t _ ht).mono ?_); rintro e w' ⟨rfl, rfl⟩) | ((with_reducible refine (refBits_any b _ hb).mono ?_); rintro e w' ⟨rfl, rfl⟩))
    | (go_at_call 11; refine (fixed_any _).mono ?_; rintro e w' ⟨rfl, rfl⟩))
  go_ret
  exact ⟨rfl, Below.refl _ _⟩

theorem forms_walk (t : Nat) (b : Int) (w : World) (wt : (Lit.float .f64 t).wf = true) (wb : (Lit.int .u64 b).wf = true) :
    Calls Try.prog 5 #[.float .f64 t, .int .u64 b] w fun q w' => q = .returned (.bool true) ∧ Below w.heap.size w w' := by
  have ht : W t := by simpa [Lit.wf, W] using wt
  have hb := bounds_u64 wb
  obtain ⟨n, rfl⟩ := Int.eq_ofNat_of_zero_le hb.1
  have hn : W n := by unfold W; omega
  by_cases h : formW n = n
  · exact forms_good t n w ht hn h
  · exact forms_bad t n w ht hn h

theorem ord_le (a b : Nat) : ordW a b ≤ 0 ↔ (nanW b = true ∨ (nanW a = false ∧ rankW a ≤ rankW b)) := by
  unfold ordW
  cases nanW a <;> cases nanW b <;> simp only [Bool.false_eq_true, if_true, if_false, true_and, false_or, true_or, false_and, or_self, Bool.true_eq_false, iff_true, iff_false] <;> try omega
  all_goals
    by_cases h : rankW a < rankW b
    · rw [if_pos h]; omega
    · by_cases h2 : rankW b < rankW a
      · rw [if_neg h, if_pos h2]; omega
      · rw [if_neg h, if_neg h2]; omega
theorem ordW_back (a b : Nat) : ordW b a = - ordW a b := by
  unfold ordW
  cases nanW a <;> cases nanW b <;> simp only [Bool.false_eq_true, if_true, if_false] <;> try rfl
  by_cases h : rankW a < rankW b
  · have h2 : ¬ rankW b < rankW a := by omega
    rw [if_neg h2, if_pos h, if_pos h]; rfl
  · by_cases h2 : rankW b < rankW a
    · rw [if_pos h2, if_neg h, if_pos h2]
    · rw [if_neg h2, if_neg h, if_neg h, if_neg h2]; rfl
theorem ordW_over (a b c : Nat) (h1 : ordW a b ≤ 0) (h2 : ordW b c ≤ 0) : ordW a c ≤ 0 := by
  rw [ord_le] at *
  rcases h2 with h2 | ⟨h2, h3⟩
  · exact Or.inl h2
  · rcases h1 with h1 | ⟨h1, h4⟩
    · rw [h1] at h2; cases h2
    · exact Or.inr ⟨h1, by omega⟩

theorem orders_core (a b c : Nat) (x y z : Int) (w : World) (wa : Hid (W a)) (wb : Hid (W b)) (hx : Hid (ordW a b = x)) (hy : Hid (ordW b c = y)) (hz : Hid (ordW a c = z)) (hx3 : -1 ≤ x) (hx4 : x ≤ 1)
    (h1 : Hid (x ≤ 0 → y ≤ 0 → z ≤ 0)) (h2 : Hid (0 ≤ x → 0 ≤ y → 0 ≤ z)) :
    Calls Try.prog 7 #[.float .f64 a, .float .f64 b, .float .f64 c] w fun q w' => q = .returned (.bool true) ∧ Below w.heap.size w w' := by
  have hf := run_bits
  have O1 : ∀ w, Calls Try.prog 19 #[.float .f64 a, .float .f64 b] w fun e w' => e = .returned (.int .i64 x) ∧ w = w' := fun w => by rw [← hx.out]; exact order_any a b w
  have O2 : ∀ w, Calls Try.prog 19 #[.float .f64 b, .float .f64 c] w fun e w' => e = .returned (.int .i64 y) ∧ w = w' := fun w => by rw [← hy.out]; exact order_any b c w
  have O3 : ∀ w, Calls Try.prog 19 #[.float .f64 a, .float .f64 c] w fun e w' => e = .returned (.int .i64 z) ∧ w = w' := fun w => by rw [← hz.out]; exact order_any a c w
  have O4 : ∀ w, Calls Try.prog 19 #[.float .f64 b, .float .f64 a] w fun e w' => e = .returned (.int .i64 (-x)) ∧ w = w' := fun w => by rw [← hx.out, ← ordW_back]; exact order_any b a w
  have R1 : ∀ w, Calls Try.prog 21 #[.float .f64 a, .float .f64 b] w fun e w' => e = .returned (.int .i64 x) ∧ w = w' := fun w => by rw [← hx.out]; exact refOrder_any a b w wa wb
  go_enter Try.func7, Try.ntmps7
  go_wp2_with (first
    | (go_at_call 19; first | ((with_reducible refine (O1 _).mono ?_); rintro e w' ⟨rfl, rfl⟩) | ((with_reducible refine (O2 _).mono ?_); rintro e w' ⟨rfl, rfl⟩) | ((with_reducible refine (O3 _).mono ?_); rintro e w' ⟨rfl, rfl⟩) | ((with_reducible refine (O4 _).mono ?_); rintro e w' ⟨rfl, rfl⟩))
    | (go_at_call 21; refine (R1 _).mono ?_; rintro e w' ⟨rfl, rfl⟩)
    | (go_at_call 22; refine (later_any _ _ _).mono ?_; rintro e w' ⟨rfl, rfl⟩)
    | (go_at_call 23; refine (refLater_any _ _ _ wa wb).mono ?_; rintro e w' ⟨rfl, rfl⟩)
    | (go_at_call 11; refine (fixed_any _).mono ?_; rintro e w' ⟨rfl, rfl⟩))
  all_goals first
    | (exfalso; have g1 := h1.out; have g2 := h2.out; omega)
    | (go_ret; exact ⟨rfl, Below.refl _ _⟩)

theorem orders_walk (a b c : Nat) (w : World) (wa : (Lit.float .f64 a).wf = true) (wb : (Lit.float .f64 b).wf = true) (wc : (Lit.float .f64 c).wf = true) :
    Calls Try.prog 7 #[.float .f64 a, .float .f64 b, .float .f64 c] w fun q w' => q = .returned (.bool true) ∧ Below w.heap.size w w' := by
  have ha : W a := by simpa [Lit.wf, W] using wa
  have hb : W b := by simpa [Lit.wf, W] using wb
  refine orders_core a b c _ _ _ w ha hb rfl rfl rfl (by have := ordW_cases a b; omega) (by have := ordW_cases a b; omega) (ordW_over a b c) ?_
  intro g1 g2
  have e1 := ordW_back a b
  have e2 := ordW_back b c
  have e3 := ordW_back a c
  have := ordW_over c b a (by omega) (by omega)
  omega
end Go.Proofs.Ytdbgdpcfddpfeaa
