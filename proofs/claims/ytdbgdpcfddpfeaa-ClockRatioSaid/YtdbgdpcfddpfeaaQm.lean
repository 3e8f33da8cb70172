/- Plain: the quotient of two small naturals grows with the first. -/
import Derived.Test.YtdbgdpcfddpfeaaQv
namespace Go.Proofs.Ytdbgdpcfddpfeaa
set_option linter.unusedVariables false
open Go.RowKit Fl Ieee

/-- One more at the very end is not seen, where an odd digit stands ahead of it. -/
theorem cut_odd (q d : Nat) (hq : q % 2 = 1) (hd : 3 ≤ d) : cutN (2 * q + 1) d = cutN (2 * q) d := by
  obtain ⟨e, rfl⟩ : ∃ e, d = e + 3 := ⟨d - 3, by omega⟩
  have hg : (2 : Nat) ^ (e + 3) = 8 * 2 ^ e := by rw [Nat.pow_add, Nat.mul_comm]
  have hp : 0 < 2 ^ e := Nat.two_pow_pos e
  unfold cutN more
  rw [hg]
  generalize 2 ^ e = p at *
  have h1 : (2 * q + 1) / (8 * p) = 2 * q / (8 * p) := by
    rw [show 8 * p = 2 * (4 * p) by omega, ← Nat.div_div_eq_div_mul (2 * q + 1) 2 (4 * p), ← Nat.div_div_eq_div_mul (2 * q) 2 (4 * p)]
    congr 1; omega
  have d1 := Nat.div_add_mod (2 * q + 1) (8 * p)
  have d2 := Nat.div_add_mod (2 * q) (8 * p)
  rw [h1] at d1
  have h2 : (2 * q + 1) % (8 * p) = 2 * q % (8 * p) + 1 := by omega
  have h4 : 2 * q % (8 * p) = 2 * (q % (4 * p)) := by
    rw [show 8 * p = 2 * (4 * p) by omega, Nat.mul_mod_mul_left]
  have h5 : q % (4 * p) % 2 = 1 := by
    rw [Nat.mod_mod_of_dvd _ ⟨2 * p, by omega⟩]; exact hq
  rw [h1, h2, h4]
  generalize q % (4 * p) = t at *
  congr 2
  have x1 : (8 * p < 2 * (2 * t + 1)) ↔ (8 * p < 2 * (2 * t)) := by omega
  have x2 : (8 * p == 2 * (2 * t + 1)) = false := by rw [beq_eq_false_iff_ne]; omega
  have x3 : (8 * p == 2 * (2 * t)) = false := by rw [beq_eq_false_iff_ne]; omega
  rw [x2, x3, Bool.false_and, decide_eq_decide.2 x1]

theorem near_odd (q : Nat) (p : Int) (hq : q % 2 = 1) (h : 2 ^ 54 ≤ q) : near (2 * q + 1) p = near (2 * q) p := by
  have h0 : q ≠ 0 := stick_ne h
  have hl : 54 ≤ q.log2 := (Nat.le_log2 h0).2 h
  have l1 : (2 * q).log2 = q.log2 + 1 := by
    have := log2_shift q 1 h0
    rw [Nat.pow_one, Nat.mul_comm] at this; exact this
  have l2 : (2 * q + 1).log2 = q.log2 + 1 := by
    have a1 : q.log2 + 1 ≤ (2 * q + 1).log2 := by
      refine (Nat.le_log2 (by omega)).2 ?_
      have := Nat.log2_self_le h0
      rw [Nat.pow_add, Nat.pow_one]; omega
    have a2 : (2 * q + 1).log2 < q.log2 + 2 := by
      refine (Nat.log2_lt (by omega)).2 ?_
      have := Nat.lt_log2_self (n := q)
      rw [show q.log2 + 2 = (q.log2 + 1) + 1 by omega, Nat.pow_add _ (q.log2 + 1), Nat.pow_one]; omega
    omega
  unfold near
  have eL : lastOf (2 * q + 1) p = lastOf (2 * q) p := by unfold lastOf; rw [l1, l2]
  rw [eL]
  have hL : p + 3 ≤ lastOf (2 * q) p := by unfold lastOf; rw [l1]; omega
  generalize lastOf (2 * q) p = L at *
  have z : (p - L).toNat = 0 := by omega
  have m1 : ∀ n : Nat, n * 2 ^ (p - L).toNat = n := fun n => by rw [z]; exact Nat.mul_one n
  rw [m1, m1, cut_odd q _ hq (by omega)]

theorem near_double (q : Nat) (p : Int) (h : q ≠ 0) : near (2 * q) p = near q (p + 1) := by
  have := near_shift q 1 (p + 1) h
  rw [Nat.pow_one, Nat.mul_comm] at this
  rw [← this]
  congr 1
  omega

theorem quo_core (X Y n : Nat) (p : Int) (hb0 : 0 < n) (hY : Y < 2 * X) (h1 : 2 ^ 54 ≤ stick Y n) (h2 : 2 ^ 54 ≤ stick X n) : near (stick Y n) p ≤ near (stick X n) (p + 1) := by
  have near_le_of : ∀ u v : Nat, 2 ^ 54 ≤ u → u ≤ v → near u (p) ≤ near v (p) := by
    intro u v hu huv
    have hv : v ≠ 0 := by have := stick_ne hu; omega
    exact near_mono (b := p) (stick_ne hu) hv (Int.le_refl _) (Int.le_refl _) (Nat.mul_le_mul_right _ huv)
  by_cases hdiv : X % n = 0
  · have hs : stick X n = 2 * (X / n) := by unfold stick; rw [hdiv]; rfl
    have hz : Y / n < 2 * (X / n) := by
      rw [Nat.div_lt_iff_lt_mul hb0]
      have := Nat.div_add_mod X n
      rw [hdiv, Nat.add_zero] at this
      rw [Nat.mul_assoc, Nat.mul_comm (X / n), this]; exact hY
    have hle : stick Y n ≤ 2 * stick X n := by have := stick_le Y n; omega
    rw [← near_double _ _ (stick_ne h2)]
    exact near_le_of _ _ h1 hle
  · have hs : stick X n = 2 * (X / n) + 1 := by unfold stick; rw [bne_iff_ne.2 hdiv]; rfl
    have hz : Y / n ≤ 2 * (X / n) + 1 := by
      have hh : Y / n < 2 * (X / n) + 2 := by
        rw [Nat.div_lt_iff_lt_mul hb0]
        have h5 := Nat.lt_div_mul_add (a := X) hb0
        have h6 : (2 * (X / n) + 2) * n = 2 * (X / n * n + n) := by
          rw [Nat.add_mul, Nat.mul_assoc, Nat.mul_add]
        rw [h6]; omega
      omega
    have hle : stick Y n ≤ 2 * stick X n + 1 := by have := stick_le Y n; omega
    have hodd : stick X n % 2 = 1 := by omega
    rw [← near_double _ _ (stick_ne h2), ← near_odd _ _ hodd h2]
    exact near_le_of _ _ h1 hle

theorem quo_grows {a b : Nat} (ha : a ≠ 0) (hA : a < 2 ^ 52) (hb : b ≠ 0) (hB : b < 2 ^ 53) : quo a b ≤ quo (a + 1) b := by
  have hA1 : a + 1 < 2 ^ 53 := by rw [k52] at hA; rw [k53]; omega
  have hA0 : a < 2 ^ 53 := by omega
  have hl := log_mono ha (show a ≤ a + 1 by omega)
  have h1 := stick_pos ha hA0 hb hB
  have h2 := stick_pos (a := a + 1) (by omega) hA1 hb hB
  by_cases he : a.log2 = (a + 1).log2
  · unfold quo
    have hp : plq (a + 1) b = plq a b := by unfold plq; rw [he]
    rw [hp]
    have hm : nrm a ≤ nrm (a + 1) := by
      unfold nrm; rw [← he]; exact Nat.mul_le_mul_right _ (by omega)
    exact near_mono (b := plq a b) (stick_ne h1) (stick_ne h2) (Int.le_refl _) (Int.le_refl _) (Nat.mul_le_mul_right _ (stick_mono (Nat.mul_le_mul_right _ hm)))
  · -- a + 1 is a power of two
    have hlt : a.log2 + 1 ≤ (a + 1).log2 := by omega
    have p1 := Nat.log2_self_le (n := a + 1) (by omega)
    have p2 := Nat.lt_log2_self (n := a)
    have p3 : 2 ^ (a.log2 + 1) ≤ 2 ^ (a + 1).log2 := Nat.pow_le_pow_right (by omega) hlt
    have hpw : a + 1 = 2 ^ (a.log2 + 1) := by omega
    have hlog : (a + 1).log2 = a.log2 + 1 := by
      have : 2 ^ (a + 1).log2 ≤ 2 ^ (a.log2 + 1) := by omega
      have := (Nat.pow_le_pow_iff_right (by omega : 1 < 2)).1 this
      omega
    have hla : a.log2 ≤ 51 := by have := (Nat.log2_lt ha).2 hA; omega
    have hn1 : nrm (a + 1) = 2 ^ 52 := by
      unfold nrm
      rw [hlog, hpw, ← Nat.pow_add]; congr 1; omega
    have hn0 : nrm a + 1 ≤ 2 * 2 ^ 52 := by
      have := (nrm_bd ha hA0).2
      rw [k53] at this; rw [k52]; omega
    have hp : plq (a + 1) b = plq a b + 1 := by unfold plq; rw [hlog]; omega
    have hb1 := (nrm_bd hb hB)
    have hb0 : 0 < nrm b := by have := hb1.1; rw [k52] at this; omega
    unfold quo
    rw [hp, hn1]
    rw [hn1] at h2
    refine quo_core _ _ _ _ hb0 ?_ h1 h2
    rw [← Nat.mul_assoc]
    exact Nat.mul_lt_mul_of_pos_right (by omega) (Nat.two_pow_pos _)

theorem fl_zero_val : fl 0 = 0 := by decide +kernel
theorem div_zero_left {b : Nat} (hb : b ≠ 0) (hB : b < 2 ^ 53) : double.div (fl 0) (fl b) = some 0 := by
  unfold Format.div
  rw [fl_zero, fl_read hb hB]
  have h4 := nrm_bd hb hB
  have hb0 : nrm b ≠ 0 := by have := h4.1; rw [k52] at this; omega
  simp only [Datum.quotient]
  rw [if_neg hb0]
  simp only [Nat.shiftLeft_eq, Option.map_some, Bool.xor_self, Nat.zero_mul, Nat.zero_div, Nat.zero_mod, Nat.mul_zero]
  exact congrArg some (nearest_zero _)
theorem div_zero_right {a : Nat} (ha : a ≠ 0) (hA : a < 2 ^ 53) : double.div (fl a) (fl 0) = some (2047 * 2 ^ 52) := by
  unfold Format.div
  rw [fl_zero, fl_read ha hA]
  have h4 := nrm_bd ha hA
  have ha0 : nrm a ≠ 0 := by have := h4.1; rw [k52] at this; omega
  simp only [Datum.quotient]
  rw [if_pos trivial, if_neg ha0]
  exact congrArg some write_inf
theorem div_zero_both : double.div (fl 0) (fl 0) = none := by decide +kernel
end Go.Proofs.Ytdbgdpcfddpfeaa
