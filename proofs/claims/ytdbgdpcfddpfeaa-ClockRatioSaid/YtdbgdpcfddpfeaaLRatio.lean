/- The walk of ClockRatio. -/
import Derived.Test.YtdbgdpcfddpfeaaRa
import Derived.Test.YtdbgdpcfddpfeaaQm
import Derived.OpenShut
namespace Go.Proofs.Ytdbgdpcfddpfeaa
set_option linter.unusedVariables false
open Go.RowKit Fl

/-- math.Abs at what is not negative -/
theorem abs_pos (a : Nat) (w : World) (h : Hid (bits BinOp.andNot IntKind.u64 (a : Int) 9223372036854775808 = (a : Int))) : Calls Try.prog 30 #[.float .f64 a] w fun q w' => q = .returned (.float .f64 a) ∧ w = w' := by
  have hf := run_bits
  have hg := run_frombits
  go_enter Try.func30, Try.ntmps30
  go_wp2
  go_ret
  exact ret_eq (by show Value.float .f64 _ = _; rw [h.out]; rfl)

/-- math.IsInf upwards -/
theorem isInf_up (a : Nat) (w : World) (b : Bool) (h : (FloatKind.f64.format.order a 9218868437227405311 == some .gt) = b) : Calls Try.prog 24 #[.float .f64 a, .int .i64 1] w fun q w' => q = .returned (.bool b) ∧ w = w' := by
  go_enter Try.func24, Try.ntmps24
  go_wp2
  go_ret
  exact ⟨rfl, rfl⟩
theorem isInf_any (a : Nat) (w : World) (b : Bool) (h : (FloatKind.f64.format.order a 9218868437227405311 == some .gt) = b) (hp : Hid (bits BinOp.andNot IntKind.u64 (a : Int) 9223372036854775808 = (a : Int))) : Calls Try.prog 24 #[.float .f64 a, .int .i64 0] w fun q w' => q = .returned (.bool b) ∧ w = w' := by
  go_enter Try.func24, Try.ntmps24
  go_wp2_with (go_at_call 30; refine (abs_pos _ _ hp).mono ?_; rintro e w' ⟨rfl, rfl⟩)
  go_ret
  exact ⟨rfl, rfl⟩

/-- What the law wants of the two numbers: A, B, and of their ratios X, Y. -/
theorem ratio_inf (a b : Int) (A B X Y : Nat) (w : World) (ha : wrap64 (IntKind.u64.wrap a / 4096) = (A : Int)) (hb : wrap64 (IntKind.u64.wrap b / 4096) = (B : Int)) (ha1 : wrap64 ((A : Int) + 1) = (A : Int) + 1)
    (hX : ∀ w, Calls Try.prog 13 #[.int .i64 A, .int .i64 B] w fun q w' => q = .returned (.float .f64 X) ∧ Below w.heap.size w w')
    (hY : ∀ w, Calls Try.prog 13 #[.int .i64 ((A : Int) + 1), .int .i64 B] w fun q w' => q = .returned (.float .f64 Y) ∧ Below w.heap.size w w')
    (h0 : ((B : Int) == 0) = true) (h1 : decide (0 < A) = true)
    (h2 : (FloatKind.f64.format.order X 9218868437227405311 == some .gt) = true) (h3 : (FloatKind.f64.format.order Y 9218868437227405311 == some .gt) = true) :
    Calls Try.prog 8 #[.int .i64 a, .int .i64 b] w fun q w' => q = .returned (.bool true) ∧ Below w.heap.size w w' := by
  have I := fun w => isInf_up X w true h2
  have J := fun w => isInf_up Y w true h3
  clear h2 h3
  go_enter Try.func8, Try.ntmps8
  go_wp2_with (first
    | (go_at_call 13; first | ((with_reducible refine (hX _).mono ?_); rintro e w1 ⟨rfl, h1⟩; have H1 := Lib.hid h1; clear h1) | ((with_reducible refine (hY _).mono ?_); rintro e w2 ⟨rfl, h2⟩; have H2 := Lib.hid h2; clear h2))
    | (go_at_call 11; refine (fixed_any _).mono ?_; rintro e w' ⟨rfl, rfl⟩)
    | (go_at_call 24; first | ((with_reducible refine (I _).mono ?_); rintro e w' ⟨rfl, rfl⟩) | ((with_reducible refine (J _).mono ?_); rintro e w' ⟨rfl, rfl⟩)))
  go_ret
  exact ⟨rfl, H1.out.trans (H2.out.mono H1.out.size)⟩

theorem ratio_nan (a b : Int) (A B Y : Nat) (w : World) (ha : wrap64 (IntKind.u64.wrap a / 4096) = (A : Int)) (hb : wrap64 (IntKind.u64.wrap b / 4096) = (B : Int)) (ha1 : wrap64 ((A : Int) + 1) = (A : Int) + 1)
    (hX : ∀ w, Calls Try.prog 13 #[.int .i64 A, .int .i64 B] w fun q w' => q = .returned (.float .f64 9221120237041090560) ∧ Below w.heap.size w w')
    (hY : ∀ w, Calls Try.prog 13 #[.int .i64 ((A : Int) + 1), .int .i64 B] w fun q w' => q = .returned (.float .f64 Y) ∧ Below w.heap.size w w')
    (h0 : ((B : Int) == 0) = true) (h1 : decide (0 < A) = false) :
    Calls Try.prog 8 #[.int .i64 a, .int .i64 b] w fun q w' => q = .returned (.bool true) ∧ Below w.heap.size w w' := by
  have hf := run_bits
  go_enter Try.func8, Try.ntmps8
  go_wp2_with (first
    | (go_at_call 13; first | ((with_reducible refine (hX _).mono ?_); rintro e w1 ⟨rfl, h1⟩; have H1 := Lib.hid h1; clear h1) | ((with_reducible refine (hY _).mono ?_); rintro e w2 ⟨rfl, h2⟩; have H2 := Lib.hid h2; clear h2))
    | (go_at_call 11; refine (fixed_any _).mono ?_; rintro e w' ⟨rfl, rfl⟩))
  go_ret
  exact ⟨rfl, H1.out.trans (H2.out.mono H1.out.size)⟩

theorem ratio_num (a b : Int) (A B X Y : Nat) (o : Int) (t : Bool) (w : World) (ha : wrap64 (IntKind.u64.wrap a / 4096) = (A : Int)) (hb : wrap64 (IntKind.u64.wrap b / 4096) = (B : Int)) (ha1 : wrap64 ((A : Int) + 1) = (A : Int) + 1)
    (hX : ∀ w, Calls Try.prog 13 #[.int .i64 A, .int .i64 B] w fun q w' => q = .returned (.float .f64 X) ∧ Below w.heap.size w w')
    (hY : ∀ w, Calls Try.prog 13 #[.int .i64 ((A : Int) + 1), .int .i64 B] w fun q w' => q = .returned (.float .f64 Y) ∧ Below w.heap.size w w')
    (h0 : ((B : Int) == 0) = false) (h1 : ((A : Int) == (B : Int)) = t) (h2 : (FloatKind.f64.format.order X 4607182418800017408 == some .eq) = t)
    (h3 : (FloatKind.f64.format.order X 0 == some .gt || FloatKind.f64.format.order X 0 == some .eq) = true)
    (h4 : (FloatKind.f64.format.order X 9218868437227405311 == some .gt) = false) (h5 : Hid (bits BinOp.andNot IntKind.u64 (X : Int) 9223372036854775808 = (X : Int))) (h6 : Hid (W X)) (h7 : Hid (negW X = false)) (h8 : Hid (ordW X Y = o)) (h9 : o ≤ 0) :
    Calls Try.prog 8 #[.int .i64 a, .int .i64 b] w fun q w' => q = .returned (.bool true) ∧ Below w.heap.size w w' := by
  have O : ∀ w, Calls Try.prog 19 #[.float .f64 X, .float .f64 Y] w fun q w' => q = .returned (.int .i64 o) ∧ w = w' := fun w => by rw [← h8.out]; exact order_any X Y w
  have I := fun w => isInf_any X w false h4 h5
  clear h4
  go_enter Try.func8, Try.ntmps8
  go_wp2_with (first
    | (go_at_call 13; first | ((with_reducible refine (hX _).mono ?_); rintro e w1 ⟨rfl, h1⟩; have H1 := Lib.hid h1; clear h1) | ((with_reducible refine (hY _).mono ?_); rintro e w2 ⟨rfl, h2⟩; have H2 := Lib.hid h2; clear h2))
    | (go_at_call 11; refine (fixed_any _).mono ?_; rintro e w' ⟨rfl, rfl⟩)
    | (go_at_call 19; refine (O _).mono ?_; rintro e w' ⟨rfl, rfl⟩)
    | (go_at_call 20; refine (signbit_w X _ h6 false h7).mono ?_; rintro e w' ⟨rfl, rfl⟩)
    | (go_at_call 24; refine (I _).mono ?_; rintro e w' ⟨rfl, rfl⟩))
  go_ret
  exact ⟨rfl, H1.out.trans (H2.out.mono H1.out.size)⟩
end Go.Proofs.Ytdbgdpcfddpfeaa
