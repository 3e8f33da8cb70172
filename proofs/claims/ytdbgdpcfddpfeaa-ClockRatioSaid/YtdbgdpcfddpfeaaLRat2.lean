/- ClockRatio, joined: the ratios' facts, and the walk. -/
import Derived.Test.YtdbgdpcfddpfeaaLRatio
import Derived.Test.YtdbgdpcfddpfeaaLForms
namespace Go.Proofs.Ytdbgdpcfddpfeaa
set_option linter.unusedVariables false
open Go.RowKit Fl

theorem ratioW_some {a b : Int} {r : Nat} (h : floatBits .quo .f64 (floatOfInt .f64 a) (floatOfInt .f64 b) = some r) (hn : nanW r = false) : ratioW a b = r := by
  unfold ratioW; rw [h]; unfold formW; simp [hn]
theorem ratioW_none {a b : Int} (h : floatBits .quo .f64 (floatOfInt .f64 a) (floatOfInt .f64 b) = none) : ratioW a b = 9221120237041090560 := by
  unfold ratioW; rw [h]

theorem small_fin {x : Nat} (h : x ≤ 1080 * 2 ^ 52) : x ≤ 2047 * 2 ^ 52 := Nat.le_trans h (by decide)

theorem ratio_at {A B : Nat} (ha : A ≠ 0) (hA : A < 2 ^ 53) (hb : B ≠ 0) (hB : B < 2 ^ 53) : ratioW A B = quo A B :=
  ratioW_some (div_eq ha hA hb hB) (le_time (small_fin (quo_fin ha hA hb hB))).2.1
theorem ratio_zero {B : Nat} (hb : B ≠ 0) (hB : B < 2 ^ 53) : ratioW (0 : Nat) B = 0 :=
  ratioW_some (div_zero_left hb hB) nan_zero
theorem ratio_over {A : Nat} (ha : A ≠ 0) (hA : A < 2 ^ 53) : ratioW A (0 : Nat) = 2047 * 2 ^ 52 :=
  ratioW_some (div_zero_right ha hA) (by decide)
theorem ratio_none : ratioW (0 : Nat) (0 : Nat) = 9221120237041090560 := ratioW_none div_zero_both

theorem andNot_top {X : Nat} (h : X ≤ 1080 * 2 ^ 52) : bits BinOp.andNot IntKind.u64 (X : Int) 9223372036854775808 = (X : Int) := by
  have hX : X < 9223372036854775808 := Nat.lt_of_le_of_lt h (by decide)
  have e : (9223372036854775808 : Int) = ((9223372036854775808 : Nat) : Int) := rfl
  rw [e, u64_andNot_nat X 9223372036854775808 (Nat.lt_trans hX (by decide)) (by decide)]
  congr 1
  have e2 : 18446744073709551615 - 9223372036854775808 = 2 ^ 63 - 1 := by decide
  rw [e2, Nat.and_two_pow_sub_one_eq_mod]
  exact Nat.mod_eq_of_lt hX

theorem big_inf : (FloatKind.f64.format.order (2047 * 2 ^ 52) 9218868437227405311 == some .gt) = true := by decide +kernel

theorem fin_notinf {X : Nat} (h : X ≤ 1080 * 2 ^ 52) : (FloatKind.f64.format.order X 9218868437227405311 == some .gt) = false := by
  obtain ⟨_, hn, _, hr⟩ := le_time (small_fin h)
  obtain ⟨_, hn2, _, hr2⟩ := le_time (r := 9218868437227405311) (by decide)
  rw [gt_eq _ _ hn hn2, hr, hr2, decide_eq_false_iff_not]
  have : X ≤ 9218868437227405311 := Nat.le_trans h (by decide)
  omega
theorem one_eq {X : Nat} (h : X ≤ 1080 * 2 ^ 52) : (FloatKind.f64.format.order X 4607182418800017408 == some .eq) = (X == 4607182418800017408) := by
  obtain ⟨_, hn, _, hr⟩ := le_time (small_fin h)
  obtain ⟨_, hn2, _, hr2⟩ := le_time (r := 4607182418800017408) (by decide)
  show (Ieee.double.order X 4607182418800017408 == some .eq) = _
  rw [ord_eq, hn, hn2, hr, hr2, Bool.eq_iff_iff]
  simp only [Bool.not_false, Bool.true_and, decide_eq_true_eq, beq_iff_eq]
  exact Int.ofNat_inj
theorem fin_ge {X : Nat} (h : X ≤ 1080 * 2 ^ 52) : (FloatKind.f64.format.order X 0 == some .gt || FloatKind.f64.format.order X 0 == some .eq) = true := by
  obtain ⟨_, hn, hg, hr⟩ := le_time (small_fin h)
  exact ge_of X true (by rw [hn, decide_eq_true (pos_rank hg)]; rfl)
theorem fin_ord {X Y : Nat} (hX : X ≤ 1080 * 2 ^ 52) (hY : Y ≤ 1080 * 2 ^ 52) (h : X ≤ Y) : ordW X Y ≤ 0 := by
  obtain ⟨_, hn, hg, hr⟩ := le_time (small_fin hX)
  obtain ⟨_, hn2, hg2, hr2⟩ := le_time (small_fin hY)
  rw [ord_le, hn, hn2, hr, hr2]
  right
  exact ⟨rfl, Int.ofNat_le.2 h⟩

/-- The shifted argument. -/
theorem shifted (a : Int) : ∃ A : Nat, A < 2 ^ 52 ∧ wrap64 (IntKind.u64.wrap a / 4096) = (A : Int) ∧ wrap64 ((A : Int) + 1) = (A : Int) + 1 := by
  have h0 : IntKind.u64.wrap a = a % 18446744073709551616 := by simp [IntKind.wrap, IntKind.signed, IntKind.bits]
  rw [h0]
  refine ⟨(a % 18446744073709551616 / 4096).toNat, ?_, ?_, ?_⟩
  · rw [k52]; omega
  · unfold wrap64; omega
  · unfold wrap64; omega

theorem ratio_walk (a b : Int) (w : World) (wa : (Lit.int .i64 a).wf = true) (wb : (Lit.int .i64 b).wf = true) : Calls Try.prog 8 #[.int .i64 a, .int .i64 b] w fun q w' => q = .returned (.bool true) ∧ Below w.heap.size w w' := by
  obtain ⟨A, hA, ha, ha1⟩ := shifted a
  obtain ⟨B, hB, hb, _⟩ := shifted b
  have hA3 : A < 2 ^ 53 := Nat.lt_trans hA (by decide)
  have hA1 : A + 1 < 2 ^ 53 := by rw [k52] at hA; rw [k53]; omega
  have hB3 : B < 2 ^ 53 := Nat.lt_trans hB (by decide)
  have hY0 : ∀ w, Calls Try.prog 13 #[.int .i64 ((A : Int) + 1), .int .i64 B] w fun q w' => q = .returned (.float .f64 (ratioW ((A + 1 : Nat) : Int) B)) ∧ Below w.heap.size w w' := fun w => ratio_any _ _ w
  have hX0 : ∀ w, Calls Try.prog 13 #[.int .i64 (A : Int), .int .i64 B] w fun q w' => q = .returned (.float .f64 (ratioW (A : Int) B)) ∧ Below w.heap.size w w' := fun w => ratio_any _ _ w
  by_cases hb0 : B = 0
  · subst hb0
    by_cases ha0 : A = 0
    · subst ha0
      rw [show ratioW ((0 : Nat) : Int) ((0 : Nat) : Int) = _ from ratio_none] at hX0
      exact ratio_nan a b 0 0 _ w ha hb ha1 hX0 hY0 rfl rfl
    · rw [ratio_over ha0 hA3] at hX0
      rw [ratio_over (by omega) hA1] at hY0
      exact ratio_inf a b A 0 _ _ w ha hb ha1 hX0 hY0 rfl (decide_eq_true (by omega)) big_inf big_inf
  · rw [ratio_at (by omega) hA1 hb0 hB3] at hY0
    have hYf := quo_fin (a := A + 1) (by omega) hA1 hb0 hB3
    have h0 : ((B : Int) == 0) = false := by rw [beq_eq_false_iff_ne]; omega
    obtain ⟨X, hX, hXf, hXY, hone⟩ : ∃ X, ratioW (A : Int) B = X ∧ X ≤ 1080 * 2 ^ 52 ∧ X ≤ quo (A + 1) B ∧ (X == 4607182418800017408) = ((A : Int) == (B : Int)) := by
      by_cases ha0 : A = 0
      · subst ha0
        refine ⟨0, ratio_zero hb0 hB3, Nat.zero_le _, Nat.zero_le _, ?_⟩
        have : (((0 : Nat) : Int) == (B : Int)) = false := by rw [beq_eq_false_iff_ne]; omega
        rw [this]; rfl
      · refine ⟨quo A B, ratio_at ha0 hA3 hb0 hB3, quo_fin ha0 hA3 hb0 hB3, quo_grows ha0 hA hb0 hB3, ?_⟩
        rcases Nat.lt_trichotomy A B with h | h | h
        · have h1 := quo_less ha0 hB h
          have h2 : ((A : Int) == (B : Int)) = false := by rw [beq_eq_false_iff_ne]; omega
          rw [h2, beq_eq_false_iff_ne]; omega
        · subst h
          rw [quo_same ha0 hA3]; simp
        · have h1 := quo_more hb0 hA h
          have h2 : ((A : Int) == (B : Int)) = false := by rw [beq_eq_false_iff_ne]; omega
          rw [h2, beq_eq_false_iff_ne]; omega
    rw [hX] at hX0
    obtain ⟨hXW, _, hXg, _⟩ := le_time (small_fin hXf)
    exact ratio_num a b A B X (quo (A + 1) B) (ordW X (quo (A + 1) B)) ((A : Int) == (B : Int)) w ha hb ha1 hX0 hY0 h0 rfl ((one_eq hXf).trans hone) (fin_ge hXf) (fin_notinf hXf) (andNot_top hXf) hXW hXg rfl (fin_ord hXf hYf hXY)
end Go.Proofs.Ytdbgdpcfddpfeaa
