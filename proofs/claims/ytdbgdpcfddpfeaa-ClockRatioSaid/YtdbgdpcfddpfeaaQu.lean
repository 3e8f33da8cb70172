/- Plain: the quotient of two small naturals as floats: finite, 1 just for equal ones, growing with the first. -/
import Derived.Test.YtdbgdpcfddpfeaaSu
namespace Go.Proofs.Ytdbgdpcfddpfeaa
set_option linter.unusedVariables false
open Go.RowKit Fl Ieee

/-- The normal digits of a natural below 2^53. -/
def nrm (a : Nat) : Nat := a * 2 ^ (52 - a.log2)

theorem log_le {a : Nat} (h0 : a ≠ 0) (h : a < 2 ^ 53) : a.log2 ≤ 52 := by
  have := (Nat.log2_lt h0).2 h
  omega
theorem nrm_bd {a : Nat} (h0 : a ≠ 0) (h : a < 2 ^ 53) : 2 ^ 52 ≤ nrm a ∧ nrm a < 2 ^ 53 := by
  have hl := log_le h0 h
  have h1 := Nat.log2_self_le h0
  have h2 := Nat.lt_log2_self (n := a)
  unfold nrm
  constructor
  · calc 2 ^ 52 = 2 ^ a.log2 * 2 ^ (52 - a.log2) := by rw [← Nat.pow_add]; congr 1; omega
      _ ≤ _ := Nat.mul_le_mul_right _ h1
  · calc a * 2 ^ (52 - a.log2) < 2 ^ (a.log2 + 1) * 2 ^ (52 - a.log2) := Nat.mul_lt_mul_of_pos_right h2 (Nat.two_pow_pos _)
      _ = 2 ^ 53 := by rw [← Nat.pow_add]; congr 1; omega
theorem nrm_log {a : Nat} (h0 : a ≠ 0) (h : a < 2 ^ 53) : (nrm a).log2 = 52 := by
  obtain ⟨h1, h2⟩ := nrm_bd h0 h
  have hn : nrm a ≠ 0 := by omega
  have a1 : 52 ≤ (nrm a).log2 := (Nat.le_log2 hn).2 h1
  have a2 : (nrm a).log2 < 53 := (Nat.log2_lt hn).2 h2
  omega

/-- A small natural as a float, and what that float reads as. -/
def fl (a : Nat) : Nat := floatOfInt .f64 (a : Int)

theorem fl_zero : double.read (fl 0) = .number false 0 (-1074) := by decide +kernel

theorem fl_arith (l m : Nat) (hl : l ≤ 52) (hm : m < 2 ^ 53) : min ((l + 1022) * 2 ^ 52 + m) (2047 * 2 ^ 52) = (l + 1022) * 2 ^ 52 + m := by
  rw [show (2 ^ 52 : Nat) = 4503599627370496 from rfl]
  rw [show (2 ^ 53 : Nat) = 9007199254740992 from rfl] at hm
  omega
theorem fl_arith2 (l m : Nat) (hl : l ≤ 52) (hm0 : 2 ^ 52 ≤ m) (hm : m < 2 ^ 53) : (l + 1022) * 2 ^ 52 + m < 2047 * 2 ^ 52 ∧ ((l + 1022) * 2 ^ 52 + m) % 2 ^ 52 = m - 2 ^ 52 ∧ ((l + 1022) * 2 ^ 52 + m) / 2 ^ 52 = l + 1023 ∧ ¬ ((l + 1022) * 2 ^ 52 + m) < 2 ^ 52 ∧ 2 ^ 52 + (m - 2 ^ 52) = m := by
  rw [show (2 ^ 52 : Nat) = 4503599627370496 from rfl] at *
  rw [show (2 ^ 53 : Nat) = 9007199254740992 from rfl] at hm
  omega
theorem fl_eq {a : Nat} (h0 : a ≠ 0) (h : a < 2 ^ 53) : fl a = (a.log2 + 1022) * 2 ^ 52 + nrm a := by
  have e : fl a = double.nearest false a 0 := by
    unfold fl floatOfInt FloatKind.nearest FloatKind.encode
    have : decide ((a : Int) < 0) = false := decide_eq_false (by omega)
    rw [this]
    rfl
  rw [e, nearest_eq _ _ _ h0, word_pos]
  have hl := log_le h0 h
  have hL : lastOf a 0 = (a.log2 : Int) - 52 := by unfold lastOf; omega
  unfold near
  rw [hL]
  have x1 : ((a.log2 : Int) - 52 + 1074).toNat = a.log2 + 1022 := by omega
  have x2 : (0 - ((a.log2 : Int) - 52)).toNat = 52 - a.log2 := by omega
  have x3 : ((a.log2 : Int) - 52 - 0).toNat = 0 := by omega
  rw [x1, x2, x3, cutN_zero]
  have hb := nrm_bd h0 h
  show min ((a.log2 + 1022) * 2 ^ 52 + nrm a) (2047 * 2 ^ 52) = _
  exact fl_arith _ _ hl hb.2

theorem fl_read {a : Nat} (h0 : a ≠ 0) (h : a < 2 ^ 53) : double.read (fl a) = .number false (nrm a) ((a.log2 : Int) - 52) := by
  have hf := fl_eq h0 h
  have hb := nrm_bd h0 h
  have hl := log_le h0 h
  generalize nrm a = m at *
  rw [hf, read_eq]
  generalize a.log2 = l at *
  obtain ⟨hr, e1, e2, e3, e4⟩ := fl_arith2 l m hl hb.1 hb.2
  have hm : ((l + 1022) * 2 ^ 52 + m) % 2 ^ 63 = (l + 1022) * 2 ^ 52 + m := Nat.mod_eq_of_lt (Nat.lt_trans hr (by decide))
  have hn : negW ((l + 1022) * 2 ^ 52 + m) = false := by unfold negW; rw [Nat.div_eq_of_lt (Nat.lt_trans hr (by decide))]; rfl
  rw [hm, hn, if_pos hr]
  unfold mant plc
  rw [if_neg e3, if_neg e3, e1, e2, e4]
  have e5 : (-1074 + ((l + 1023 - 1 : Nat) : Int)) = (l : Int) - 52 := by omega
  rw [e5]

/-- The digits of a quotient, with one more for what is left over. -/
def stick (X n : Nat) : Nat := 2 * (X / n) + (X % n != 0).toNat
def plq (a b : Nat) : Int := ((a.log2 : Int) - 52) - ((b.log2 : Int) - 52) - 54 - 1
def quo (a b : Nat) : Nat := near (stick (nrm a * 2 ^ 54) (nrm b)) (plq a b)

theorem stick_pos {a b : Nat} (ha : a ≠ 0) (hA : a < 2 ^ 53) (hb : b ≠ 0) (hB : b < 2 ^ 53) : 2 ^ 54 ≤ stick (nrm a * 2 ^ 54) (nrm b) := by
  have h1 := nrm_bd ha hA
  have h2 := nrm_bd hb hB
  unfold stick
  have : 2 ^ 53 ≤ nrm a * 2 ^ 54 / nrm b := by
    rw [Nat.le_div_iff_mul_le (by omega)]
    omega
  omega

theorem div_eq {a b : Nat} (ha : a ≠ 0) (hA : a < 2 ^ 53) (hb : b ≠ 0) (hB : b < 2 ^ 53) : double.div (fl a) (fl b) = some (quo a b) := by
  unfold Format.div
  rw [fl_read ha hA, fl_read hb hB]
  have h1 := nrm_log ha hA
  have h2 := nrm_log hb hB
  have h3 := stick_pos ha hA hb hB
  have h4 := nrm_bd hb hB
  simp only [Datum.quotient]
  rw [if_neg (by omega), h1, h2]
  simp only [Nat.shiftLeft_eq, Option.map_some, Bool.xor_self]
  congr 1
  show double.nearest false (stick (nrm a * 2 ^ 54) (nrm b)) (plq a b) = _
  rw [nearest_eq _ _ _ (by omega), word_pos]
  rfl
end Go.Proofs.Ytdbgdpcfddpfeaa
