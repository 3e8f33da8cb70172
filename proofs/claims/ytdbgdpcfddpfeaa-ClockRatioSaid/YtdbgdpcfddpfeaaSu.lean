/- Plain: the sum of two floats neither of which runs back. -/
import Derived.Test.YtdbgdpcfddpfeaaFm
namespace Go.Proofs.Ytdbgdpcfddpfeaa
set_option linter.unusedVariables false
open Go.RowKit Fl Ieee

theorem word_pos (r : Nat) : double.word false r = r := rfl

theorem write_inf : double.write (.infinity false) = 2047 * 2 ^ 52 := by decide

theorem nearest_zero (B : Int) : double.nearest false 0 B = 0 := by
  unfold Format.nearest
  rw [if_pos rfl]; rfl

/-- a: a time; b: no NaN and not below 0. Their sum is a time no less than a. -/
theorem add_on (a b : Nat) (ha : a ≤ 2047 * 2 ^ 52) (hb : b ≤ 2047 * 2 ^ 52 ∨ b = 2 ^ 63) : ∃ r, double.add a b = some r ∧ a ≤ r ∧ r ≤ 2047 * 2 ^ 52 := by
  have ra : a % 2 ^ 63 = a := Nat.mod_eq_of_lt (Nat.lt_of_le_of_lt ha (by decide))
  have na : negW a = false := by
    unfold negW
    rw [Nat.div_eq_of_lt (Nat.lt_of_le_of_lt ha (by decide))]; rfl
  obtain ⟨q, s, hq, hs, hqle, hsq⟩ : ∃ q s, b % 2 ^ 63 = q ∧ negW b = s ∧ q ≤ 2047 * 2 ^ 52 ∧ (s = true → q = 0) := by
    refine ⟨_, _, rfl, rfl, ?_, ?_⟩
    · rcases hb with hb | hb
      · exact Nat.le_trans (Nat.mod_le _ _) hb
      · subst hb; decide
    · intro h
      rcases hb with hb | hb
      · unfold negW at h
        rw [Nat.div_eq_of_lt (Nat.lt_of_le_of_lt hb (by decide))] at h
        cases h
      · subst hb; decide
  unfold Format.add
  rw [read_eq, read_eq, ra, na, hq, hs]
  by_cases h1 : a < 2047 * 2 ^ 52
  · rw [if_pos h1]
    by_cases h2 : q < 2047 * 2 ^ 52
    · rw [if_pos h2]
      simp only [Datum.sum, signed_eq]
      have hB1 : min (plc a) (plc q) ≤ plc a := by omega
      generalize hB : min (plc a) (plc q) = B at *
      have e1 : sg false (mant a * 2 ^ (plc a - B).toNat) = ((mant a * 2 ^ (plc a - B).toNat : Nat) : Int) := rfl
      have e2 : sg s (mant q * 2 ^ (plc q - B).toNat) = ((mant q * 2 ^ (plc q - B).toNat : Nat) : Int) := by
        cases s with
        | false => rfl
        | true =>
          have h0 : q = 0 := hsq rfl
          subst h0
          rw [show mant 0 = 0 from rfl, Nat.zero_mul]; rfl
      rw [e1, e2, ← Int.natCast_add]
      generalize hX : mant a * 2 ^ (plc a - B).toNat = X at *
      generalize mant q * 2 ^ (plc q - B).toNat = Y at *
      have hneg : (if ((X + Y : Nat) : Int) = 0 then (false && s) else decide (((X + Y : Nat) : Int) < 0)) = false := by
        split
        · rfl
        · exact decide_eq_false (by omega)
      rw [hneg, Int.natAbs_natCast]
      refine ⟨_, rfl, ?_, ?_⟩
      · show a ≤ double.nearest false (X + Y) B
        by_cases ha0 : a = 0
        · omega
        · have hm : mant a ≠ 0 := by unfold mant; split <;> omega
          have hp : 0 < 2 ^ (plc a - B).toNat := Nat.two_pow_pos _
          have hX0 : X ≠ 0 := by rw [← hX]; exact Nat.mul_ne_zero hm (by omega)
          rw [nearest_eq _ _ _ (by omega), word_pos]
          have hr := near_rung a ha0 h1
          refine Nat.le_trans (Nat.le_of_eq hr.symm) ?_
          refine near_mono (b := B) hm (by omega) hB1 (Int.le_refl _) ?_
          rw [hX, Int.sub_self]
          simp
      · show double.nearest false (X + Y) B ≤ _
        by_cases h0 : X + Y = 0
        · rw [h0, nearest_zero]
          exact Nat.zero_le _
        · rw [nearest_eq _ _ _ h0, word_pos]; exact near_le _ _
    · rw [if_neg h2, if_pos (by omega)]
      have h3 : s = false := by
        cases s with
        | false => rfl
        | true => have := hsq rfl; omega
      subst h3
      exact ⟨_, rfl, by rw [write_inf]; omega, by rw [write_inf]; omega⟩
  · rw [if_neg h1, if_pos (by omega)]
    by_cases h2 : q < 2047 * 2 ^ 52
    · rw [if_pos h2]
      exact ⟨_, rfl, by rw [write_inf]; omega, by rw [write_inf]; omega⟩
    · rw [if_neg h2, if_pos (by omega)]
      have h3 : s = false := by
        cases s with
        | false => rfl
        | true => have := hsq rfl; omega
      subst h3
      simp only [Datum.sum, if_true]
      exact ⟨_, rfl, by rw [write_inf]; omega, by rw [write_inf]; omega⟩

/-- The same, by the tests of Tick. -/
theorem time_le {a : Nat} (hW : W a) (h1 : nanW a = false) (h2 : negW a = false) : a ≤ 2047 * 2 ^ 52 := by
  unfold nanW negW W at *
  rw [decide_eq_false_iff_not] at h1
  rw [beq_eq_false_iff_ne] at h2
  rw [show (2 ^ 63 : Nat) = 9223372036854775808 from rfl] at *
  rw [show (2047 * 2 ^ 52 : Nat) = 9218868437227405312 from rfl] at *
  omega
theorem by_le {b : Nat} (hW : W b) (h : (!nanW b && decide (0 ≤ rankW b)) = true) : b ≤ 2047 * 2 ^ 52 ∨ b = 2 ^ 63 := by
  rw [Bool.and_eq_true, decide_eq_true_eq, Bool.not_eq_true'] at h
  obtain ⟨h1, h2⟩ := h
  cases hn : negW b
  · exact Or.inl (time_le hW h1 hn)
  · right
    unfold rankW at h2
    rw [hn, if_pos rfl] at h2
    unfold negW W at *
    rw [beq_iff_eq] at hn
    rw [show (2 ^ 63 : Nat) = 9223372036854775808 from rfl] at *
    omega
theorem le_time {r : Nat} (h : r ≤ 2047 * 2 ^ 52) : W r ∧ nanW r = false ∧ negW r = false ∧ rankW r = r := by
  have hl : r < 2 ^ 63 := Nat.lt_of_le_of_lt h (by decide)
  have hn : negW r = false := by unfold negW; rw [Nat.div_eq_of_lt hl]; rfl
  refine ⟨Nat.lt_trans hl (by decide), ?_, hn, ?_⟩
  · unfold nanW; rw [Nat.mod_eq_of_lt hl, decide_eq_false_iff_not]; omega
  · unfold rankW; rw [hn, Nat.mod_eq_of_lt hl]; rfl
end Go.Proofs.Ytdbgdpcfddpfeaa
