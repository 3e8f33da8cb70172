/- Plain: the quotient of two small naturals: finite, 1 just for equal ones, growing with the first. -/
import Derived.Test.YtdbgdpcfddpfeaaQu
namespace Go.Proofs.Ytdbgdpcfddpfeaa
set_option linter.unusedVariables false
open Go.RowKit Fl Ieee

def K52 : Nat := 4503599627370496
theorem k52 : (2 : Nat) ^ 52 = 4503599627370496 := rfl
theorem k53 : (2 : Nat) ^ 53 = 9007199254740992 := rfl
theorem k54 : (2 : Nat) ^ 54 = 18014398509481984 := rfl

theorem stick_le (X n : Nat) : stick X n ≤ 2 * (X / n) + 1 := by unfold stick; cases (X % n != 0) <;> simp
theorem stick_ge (X n : Nat) : 2 * (X / n) ≤ stick X n := by unfold stick; omega

theorem stick_mono {X Y n : Nat} (h : X ≤ Y) : stick X n ≤ stick Y n := by
  have h1 : X / n ≤ Y / n := Nat.div_le_div_right h
  by_cases he : X / n = Y / n
  · unfold stick
    rw [he]
    have d1 := Nat.div_add_mod X n
    have d2 := Nat.div_add_mod Y n
    rw [he] at d1
    by_cases hx : X % n = 0
    · rw [hx]; simp
    · have hy : Y % n ≠ 0 := by omega
      rw [bne_iff_ne.2 hx, bne_iff_ne.2 hy]
      exact Nat.le_refl _
  · have a1 := stick_le X n
    have a2 := stick_ge Y n
    omega

theorem stick_ne {S : Nat} (h : 2 ^ 54 ≤ S) : S ≠ 0 := by
  intro e; rw [e] at h; exact absurd h (by decide)

/-- A value that is at most 2^57 is finite. -/
theorem near_57 : near (2 ^ 57) 0 = 1080 * 2 ^ 52 := by decide +kernel

theorem quo_fin {a b : Nat} (ha : a ≠ 0) (hA : a < 2 ^ 53) (hb : b ≠ 0) (hB : b < 2 ^ 53) : quo a b ≤ 1080 * 2 ^ 52 := by
  have h1 := nrm_bd ha hA
  have h2 := nrm_bd hb hB
  have h3 := stick_pos ha hA hb hB
  have hl := log_le ha hA
  have hq : nrm a * 2 ^ 54 / nrm b < 2 ^ 55 := by
    rw [Nat.div_lt_iff_lt_mul (by omega)]
    obtain ⟨x1, x2⟩ := h1
    obtain ⟨y1, y2⟩ := h2
    rw [k52] at y1
    rw [k53] at x2
    rw [show (2 : Nat) ^ 54 = 18014398509481984 from rfl, show (2 : Nat) ^ 55 = 36028797018963968 from rfl]
    omega
  have hs := stick_le (nrm a * 2 ^ 54) (nrm b)
  rw [← near_57]
  unfold quo
  have hp : plq a b ≤ 0 := by unfold plq; omega
  refine near_mono (b := plq a b) (stick_ne h3) (by decide) (Int.le_refl _) hp ?_
  rw [Int.sub_self]
  have hS : stick (nrm a * 2 ^ 54) (nrm b) ≤ 2 ^ 57 := by
    rw [show (2 : Nat) ^ 55 = 36028797018963968 from rfl] at hq
    rw [show (2 : Nat) ^ 57 = 144115188075855872 from rfl]
    omega
  generalize stick (nrm a * 2 ^ 54) (nrm b) = S at *
  have hpow : 1 ≤ 2 ^ (0 - plq a b).toNat := Nat.two_pow_pos _
  calc S * 2 ^ (0 : Int).toNat = S := Nat.mul_one S
    _ ≤ 2 ^ 57 := hS
    _ = 2 ^ 57 * 1 := (Nat.mul_one _).symm
    _ ≤ _ := Nat.mul_le_mul_left _ hpow

theorem near_one : near (2 ^ 55) (-55) = 4607182418800017408 := by decide +kernel
theorem near_below : near (2 ^ 53 - 1) (-53) = 4607182418800017407 := by decide +kernel
theorem near_above : near (2 ^ 52 + 1) (-52) = 4607182418800017409 := by decide +kernel

theorem quo_same {a : Nat} (ha : a ≠ 0) (hA : a < 2 ^ 53) : quo a a = 4607182418800017408 := by
  have h1 := nrm_bd ha hA
  unfold quo
  have hp : plq a a = -55 := by unfold plq; omega
  have hd : nrm a * 2 ^ 54 / nrm a = 2 ^ 54 := Nat.mul_div_cancel_left _ (by omega)
  have hm : nrm a * 2 ^ 54 % nrm a = 0 := Nat.mul_mod_right _ _
  have hs : stick (nrm a * 2 ^ 54) (nrm a) = 2 ^ 55 := by unfold stick; rw [hd, hm]; rfl
  rw [hp, hs, near_one]

theorem log_mono {a b : Nat} (ha : a ≠ 0) (h : a ≤ b) : a.log2 ≤ b.log2 := by
  have := Nat.log2_self_le ha
  exact (Nat.le_log2 (by omega)).2 (by omega)

theorem nrm_scale {a b : Nat} (hl : a.log2 ≤ b.log2) (hb : b.log2 ≤ 52) : nrm b * 2 ^ (b.log2 - a.log2) = b * 2 ^ (52 - a.log2) := by
  unfold nrm
  rw [Nat.mul_assoc, ← Nat.pow_add]
  congr 2
  omega

theorem quo_less {a b : Nat} (ha : a ≠ 0) (hB : b < 2 ^ 52) (h : a < b) : quo a b ≤ 4607182418800017407 := by
  have hb : b ≠ 0 := by omega
  have hB' : b < 2 ^ 53 := by rw [k52] at hB; rw [k53]; omega
  have hA' : a < 2 ^ 53 := by omega
  have hl := log_mono ha (Nat.le_of_lt h)
  have hl2 := log_le hb hB'
  have h3 := stick_pos ha hA' hb hB'
  rw [← near_below]
  unfold quo
  have hp : plq a b ≤ -53 := by unfold plq; omega
  refine near_mono (b := plq a b) (stick_ne h3) (by decide) (Int.le_refl _) hp ?_
  rw [Int.sub_self]
  refine Nat.le_trans (Nat.le_of_eq (Nat.mul_one _)) ?_
  refine Nat.le_trans (stick_le _ _) ?_
  have ep : (-53 - plq a b).toNat = (b.log2 - a.log2) + 2 := by unfold plq; omega
  rw [ep, Nat.pow_add]
  have hs := nrm_scale hl hl2
  have hn := nrm_bd hb hB'
  have hz : nrm a * 2 ^ 54 / nrm b < (2 ^ 54 - 2) * 2 ^ (b.log2 - a.log2) := by
    rw [Nat.div_lt_iff_lt_mul (by omega)]
    rw [Nat.mul_assoc, Nat.mul_comm (2 ^ (b.log2 - a.log2)), hs]
    unfold nrm
    rw [Nat.mul_right_comm, ← Nat.mul_assoc]
    refine Nat.mul_lt_mul_of_pos_right ?_ (Nat.two_pow_pos _)
    rw [k54]; rw [k52] at hB
    omega
  generalize nrm a * 2 ^ 54 / nrm b = z at *
  generalize 2 ^ (b.log2 - a.log2) = g at *
  rw [k54] at hz
  rw [k53]
  omega

theorem quo_more {a b : Nat} (hb : b ≠ 0) (hA : a < 2 ^ 52) (h : b < a) : 4607182418800017409 ≤ quo a b := by
  have ha : a ≠ 0 := by omega
  have hA' : a < 2 ^ 53 := by rw [k52] at hA; rw [k53]; omega
  have hB' : b < 2 ^ 53 := by omega
  have hl := log_mono hb (Nat.le_of_lt h)
  have hl2 := log_le ha hA'
  have hla : a.log2 ≤ 51 := by have := (Nat.log2_lt ha).2 hA; omega
  have h3 := stick_pos ha hA' hb hB'
  rw [← near_above]
  unfold quo
  have hp : -55 ≤ plq a b := by unfold plq; omega
  refine near_mono (b := -55) (by decide) (stick_ne h3) (by decide) hp ?_
  have e1 : ((-52 : Int) - -55).toNat = 3 := rfl
  have e2 : (plq a b - -55).toNat = a.log2 - b.log2 := by unfold plq; omega
  rw [e1, e2]
  refine Nat.le_trans ?_ (Nat.mul_le_mul_right _ (stick_ge _ _))
  have hs := nrm_scale hl hl2
  have hn := nrm_bd hb hB'
  have hlt : nrm a * 2 ^ 54 < nrm b * (nrm a * 2 ^ 54 / nrm b + 1) := by
    have := Nat.lt_div_mul_add (a := nrm a * 2 ^ 54) (b := nrm b) (by omega)
    rw [Nat.mul_add, Nat.mul_one, Nat.mul_comm (nrm b) (nrm a * 2 ^ 54 / nrm b)]; exact this
  generalize hz : nrm a * 2 ^ 54 / nrm b = z at *
  -- in whole numbers: (z+1) 2^D b > a 2^54
  have hb2 : b < 2 ^ (b.log2 + 1) := Nat.lt_log2_self
  have hs2 : nrm b * 2 ^ (a.log2 - b.log2) * 0 = 0 := Nat.mul_zero _
  have hnb : nrm b = b * 2 ^ (a.log2 - b.log2) * 2 ^ (52 - a.log2) := by
    unfold nrm
    rw [Nat.mul_assoc, ← Nat.pow_add]; congr 2; omega
  have hkey : a * 2 ^ 54 < b * 2 ^ (a.log2 - b.log2) * (z + 1) := by
    rw [hnb] at hlt
    have e : nrm a * 2 ^ 54 = a * 2 ^ 54 * 2 ^ (52 - a.log2) := by unfold nrm; rw [Nat.mul_right_comm]
    have e' : b * 2 ^ (a.log2 - b.log2) * 2 ^ (52 - a.log2) * (z + 1) = b * 2 ^ (a.log2 - b.log2) * (z + 1) * 2 ^ (52 - a.log2) := by rw [Nat.mul_right_comm]
    rw [e, e'] at hlt
    exact Nat.lt_of_mul_lt_mul_right hlt
  have hbD : b * 2 ^ (a.log2 - b.log2) ≤ 2 ^ 52 := by
    refine Nat.le_trans (Nat.mul_le_mul_right _ (Nat.le_of_lt hb2)) ?_
    rw [← Nat.pow_add]
    exact Nat.pow_le_pow_right (by omega) (by omega)
  generalize hg : 2 ^ (a.log2 - b.log2) = g at *
  have hg1 : 1 ≤ g := by rw [← hg]; exact Nat.two_pow_pos _
  -- if not, z g is small, against hkey
  refine Classical.byContradiction fun hc => ?_
  have hc1 : z * g ≤ 2 ^ 54 + 3 := by
    rw [k52] at hc
    rw [k54]
    have : 2 * z * g = 2 * (z * g) := Nat.mul_assoc _ _ _
    rw [this] at hc
    omega
  have hc2 : b * g * (z + 1) = b * (z * g) + b * g := by
    rw [Nat.mul_add, Nat.mul_one, Nat.mul_assoc, Nat.mul_comm g z]
  rw [hc2] at hkey
  have hc3 : b * (z * g) ≤ b * (2 ^ 54 + 3) := Nat.mul_le_mul_left _ hc1
  have hb3 : b ≤ b * g := Nat.le_mul_of_pos_right _ hg1
  generalize b * (z * g) = u at *
  generalize b * g = v at *
  rw [k54] at *
  rw [k52] at *
  omega
end Go.Proofs.Ytdbgdpcfddpfeaa
