/- Plain facts on IEEE doubles: rounding is monotone, words are ordered by their rungs. -/
import Derived.Laws.FloatArith
namespace Go.Proofs.Ytebnekpccdcnmaa.Fl
open Ieee

/-! Rounding: the cut, without its clip. -/
def more (n g : Nat) : Bool := decide (g < 2 * (n % g)) || (g == 2 * (n % g) && n / g % 2 == 1)
def cutN (n d : Nat) : Nat := n / 2 ^ d + (more n (2 ^ d)).toNat

theorem pow_pos' (d : Nat) : 0 < 2 ^ d := Nat.two_pow_pos d

theorem more_small {n g : Nat} (h : 2 * n < g) : more n g = false := by
  have : n < g := by omega
  unfold more
  rw [Nat.mod_eq_of_lt this, Nat.div_eq_of_lt this]
  simp
  omega

theorem cut_eq (neg : Bool) (n d : Nat) : Toward.even.cut neg n d = cutN n d := by
  unfold Toward.cut cutN
  simp only [Nat.shiftLeft_eq, Nat.one_mul]
  have hn : n < 2 ^ (n.log2 + 1) := Nat.lt_log2_self
  by_cases h : d ≤ n.log2 + 2
  · rw [Nat.min_eq_left h]; rfl
  · have h' : n.log2 + 2 ≤ d := by omega
    rw [Nat.min_eq_right h']
    have e : 2 ^ (n.log2 + 2) = 2 * 2 ^ (n.log2 + 1) := by rw [Nat.pow_succ]; omega
    have l1 : 2 ^ (n.log2 + 2) ≤ 2 ^ d := Nat.pow_le_pow_right (by omega) h'
    have m1 := more_small (n := n) (g := 2 ^ (n.log2 + 2)) (by omega)
    have m2 := more_small (n := n) (g := 2 ^ d) (by omega)
    show n / 2 ^ (n.log2 + 2) + (more n (2 ^ (n.log2 + 2))).toNat = _
    rw [m1, m2, Nat.div_eq_of_lt (by omega), Nat.div_eq_of_lt (by omega)]

theorem more_shift (n g j : Nat) (hj : 0 < j) : more (n * j) (g * j) = more n g := by
  unfold more
  rw [Nat.mul_mod_mul_right, Nat.mul_div_mul_right _ _ hj]
  have e1 : (g * j < 2 * (n % g * j)) ↔ (g < 2 * (n % g)) := by
    rw [← Nat.mul_assoc]; exact Nat.mul_lt_mul_right hj
  have e2 : (g * j = 2 * (n % g * j)) ↔ (g = 2 * (n % g)) := by
    rw [← Nat.mul_assoc]; exact Nat.mul_left_inj (by omega)
  have e2' : (g * j == 2 * (n % g * j)) = (g == 2 * (n % g)) := by
    rw [Bool.eq_iff_iff, beq_iff_eq, beq_iff_eq]; exact e2
  rw [e2']
  congr 1
  exact decide_eq_decide.2 e1

theorem cutN_shift (n d j : Nat) : cutN (n * 2 ^ j) (d + j) = cutN n d := by
  unfold cutN
  rw [Nat.pow_add, Nat.mul_div_mul_right _ _ (pow_pos' j), more_shift _ _ _ (pow_pos' j)]

theorem cutN_zero (n : Nat) : cutN n 0 = n := by
  unfold cutN more
  simp [Nat.mod_one]

theorem cutN_mono {n k : Nat} (d : Nat) (h : n ≤ k) : cutN n d ≤ cutN k d := by
  unfold cutN
  have hg := pow_pos' d
  generalize 2 ^ d = g at *
  have b1 : (more n g).toNat ≤ 1 := by cases more n g <;> simp
  have hq : n / g ≤ k / g := Nat.div_le_div_right h
  by_cases hlt : n / g < k / g
  · omega
  · have he : n / g = k / g := by omega
    have m1 := Nat.div_add_mod n g
    have m2 := Nat.div_add_mod k g
    rw [he] at m1
    have hr : n % g ≤ k % g := by omega
    rw [he]
    suffices hs : more n g = true → more k g = true by
      cases h1 : more n g with
      | false => simp
      | true => rw [hs h1]; simp
    unfold more
    rw [he]
    simp only [Bool.or_eq_true, decide_eq_true_eq, Bool.and_eq_true, beq_iff_eq]
    rintro (h1 | ⟨h1, h2⟩)
    · left; omega
    · by_cases h3 : g = 2 * (k % g)
      · right; exact ⟨h3, h2⟩
      · left; omega

theorem cutN_ge (n d : Nat) : n / 2 ^ d ≤ cutN n d := by unfold cutN; omega
theorem cutN_le (n d : Nat) : cutN n d ≤ n / 2 ^ d + 1 := by
  unfold cutN
  cases more n (2 ^ d) <;> simp

/-! nearest, of doubles, as a rung. -/
def lastOf (mag : Nat) (place : Int) : Int := max (place + mag.log2 - 52) (-1074)
def near (mag : Nat) (place : Int) : Nat :=
  min ((lastOf mag place + 1074).toNat * 2 ^ 52 + cutN (mag * 2 ^ (place - lastOf mag place).toNat) (lastOf mag place - place).toNat) (2047 * 2 ^ 52)

theorem nearest_eq (neg : Bool) (mag : Nat) (place : Int) (h : mag ≠ 0) : double.nearest neg mag place = double.word neg (near mag place) := by
  unfold Format.nearest
  rw [if_neg h]
  simp only [cut_eq, Nat.shiftLeft_eq]
  have e1 : double.leastPlace = -1074 := by decide
  have e2 : double.binade = 2 ^ 52 := rfl
  have e3 : double.infRung = 2047 * 2 ^ 52 := by decide
  have e4 : double.fractionBits = 52 := rfl
  rw [e1, e2, e3, e4]
  have e5 : max (place + (mag.log2 : Int) - ((52 : Nat) : Int)) (-1074) = lastOf mag place := rfl
  rw [e5]
  have e6 : lastOf mag place - -1074 = lastOf mag place + 1074 := by omega
  rw [e6]
  rfl

theorem log2_shift (n j : Nat) (h : n ≠ 0) : (n * 2 ^ j).log2 = n.log2 + j := by
  have h1 : n * 2 ^ j ≠ 0 := Nat.mul_ne_zero h (by have := pow_pos' j; omega)
  have l1 : 2 ^ n.log2 ≤ n := Nat.log2_self_le h
  have l2 : n < 2 ^ (n.log2 + 1) := Nat.lt_log2_self
  have a1 : 2 ^ (n.log2 + j) ≤ n * 2 ^ j := by rw [Nat.pow_add]; exact Nat.mul_le_mul_right _ l1
  have a2 : n * 2 ^ j < 2 ^ (n.log2 + j + 1) := by
    rw [show n.log2 + j + 1 = (n.log2 + 1) + j by omega, Nat.pow_add]; exact Nat.mul_lt_mul_of_pos_right l2 (pow_pos' j)
  have b1 := (Nat.le_log2 h1).2 a1
  have b2 := (Nat.log2_lt h1).2 a2
  omega

/-- A number written with other digits rounds alike. -/
theorem near_shift (n j : Nat) (place : Int) (h : n ≠ 0) : near (n * 2 ^ j) (place - j) = near n place := by
  unfold near
  have el : lastOf (n * 2 ^ j) (place - j) = lastOf n place := by
    unfold lastOf; rw [log2_shift n j h]; congr 1; omega
  rw [el]
  generalize lastOf n place = L
  congr 2
  -- the cuts
  by_cases h1 : L ≤ place - j
  · have e1 : (L - (place - j)).toNat = 0 := by omega
    have e2 : (L - place).toNat = 0 := by omega
    rw [e1, e2, cutN_zero, cutN_zero, Nat.mul_assoc, ← Nat.pow_add]
    congr 2; omega
  · by_cases h2 : L ≤ place
    · have e1 : (place - j - L).toNat = 0 := by omega
      have e2 : (L - place).toNat = 0 := by omega
      have e3 : (L - (place - j)).toNat = 0 + (L - (place - j)).toNat := by omega
      have e4 : n * 2 ^ j * 2 ^ 0 = n * 2 ^ (place - L).toNat * 2 ^ (L - (place - j)).toNat := by
        rw [Nat.pow_zero, Nat.mul_one, Nat.mul_assoc, ← Nat.pow_add]; congr 2; omega
      rw [e1, e2, e4]
      generalize (L - (place - j)).toNat = u
      have := cutN_shift (n * 2 ^ (place - L).toNat) 0 u
      rw [Nat.zero_add] at this
      exact this
    · have e1 : (place - j - L).toNat = 0 := by omega
      have e2 : (place - L).toNat = 0 := by omega
      have e3 : (L - (place - j)).toNat = (L - place).toNat + j := by omega
      rw [e1, e2, e3, Nat.pow_zero, Nat.mul_one, Nat.mul_one, cutN_shift]

theorem mono_core (A C n k : Nat) (Ln Lk place : Int) (hA : A = 4503599627370496) (hk : k ≠ 0) (h : n ≤ k) (hp : place ≤ -1074)
    (el : Ln = max (place + n.log2 - 52) (-1074)) (ek : Lk = max (place + k.log2 - 52) (-1074)) (hl : n.log2 ≤ k.log2) :
    min ((Ln + 1074).toNat * A + cutN n (Ln - place).toNat) C ≤ min ((Lk + 1074).toNat * A + cutN k (Lk - place).toNat) C := by
  have hA2 : A = 2 ^ 52 := hA
  have hL : Ln ≤ Lk := by omega
  suffices hs : (Ln + 1074).toNat * A + cutN n (Ln - place).toNat ≤ (Lk + 1074).toNat * A + cutN k (Lk - place).toNat by omega
  by_cases he : Ln = Lk
  · rw [he]
    have := cutN_mono (Lk - place).toNat h
    omega
  · have hk2 : Lk = place + k.log2 - 52 := by omega
    have hlt : Ln < Lk := by omega
    have c1 : A ≤ cutN k (Lk - place).toNat := by
      refine Nat.le_trans ?_ (cutN_ge _ _)
      rw [Nat.le_div_iff_mul_le (pow_pos' _), hA2, ← Nat.pow_add]
      have : 52 + (Lk - place).toNat = k.log2 := by omega
      rw [this]; exact Nat.log2_self_le hk
    have c2 : cutN n (Ln - place).toNat ≤ 2 * A := by
      refine Nat.le_trans (cutN_le _ _) ?_
      have : n / 2 ^ (Ln - place).toNat < 2 * A := by
        rw [Nat.div_lt_iff_lt_mul (pow_pos' _), hA2, show 2 * 2 ^ 52 = 2 ^ 53 from rfl, ← Nat.pow_add]
        refine Nat.lt_of_lt_of_le (Nat.lt_log2_self (n := n)) (Nat.pow_le_pow_right (by omega) ?_)
        omega
      omega
    have c3 : (Ln + 1074).toNat + 1 ≤ (Lk + 1074).toNat := by omega
    have c4 := Nat.mul_le_mul_right A c3
    have c5 : ((Ln + 1074).toNat + 1) * A = (Ln + 1074).toNat * A + A := by rw [Nat.add_mul, Nat.one_mul]
    omega

/-- At one place, far enough down, a greater number rounds no lower. -/
theorem near_mono_at {n k : Nat} (place : Int) (h0 : n ≠ 0) (h : n ≤ k) (hp : place ≤ -1074) : near n place ≤ near k place := by
  have hk : k ≠ 0 := by omega
  have hl : n.log2 ≤ k.log2 := by
    have := Nat.log2_self_le h0
    exact (Nat.le_log2 hk).2 (by omega)
  have z1 : (place - lastOf n place).toNat = 0 := by unfold lastOf; omega
  have z2 : (place - lastOf k place).toNat = 0 := by unfold lastOf; omega
  have m1 : n * 2 ^ (place - lastOf n place).toNat = n := by rw [z1]; exact Nat.mul_one n
  have m2 : k * 2 ^ (place - lastOf k place).toNat = k := by rw [z2]; exact Nat.mul_one k
  unfold near
  rw [m1, m2]
  exact mono_core _ _ n k _ _ place rfl hk h hp rfl rfl hl

/-- Monotone: 'n 2^p ≤ k 2^q', told at any place below both. -/
theorem near_mono {n k : Nat} {p q b : Int} (h0 : n ≠ 0) (hk : k ≠ 0) (hp : b ≤ p) (hq : b ≤ q) (h : n * 2 ^ (p - b).toNat ≤ k * 2 ^ (q - b).toNat) : near n p ≤ near k q := by
  -- go down to a place at most -1074
  let c : Int := min b (-1074)
  have hc : c ≤ b := by omega
  have e1 : near n p = near (n * 2 ^ (p - c).toNat) c := by
    have := near_shift n (p - c).toNat p h0
    rw [← this]; congr 1; omega
  have e2 : near k q = near (k * 2 ^ (q - c).toNat) c := by
    have := near_shift k (q - c).toNat q hk
    rw [← this]; congr 1; omega
  rw [e1, e2]
  refine near_mono_at c (Nat.mul_ne_zero h0 (by have := pow_pos' (p - c).toNat; omega)) ?_ (by omega)
  have x1 : (p - c).toNat = (p - b).toNat + (b - c).toNat := by omega
  have x2 : (q - c).toNat = (q - b).toNat + (b - c).toNat := by omega
  rw [x1, x2, Nat.pow_add, Nat.pow_add, ← Nat.mul_assoc, ← Nat.mul_assoc]
  exact Nat.mul_le_mul_right _ h

/-! Rungs and what they stand for. -/
def mant (r : Nat) : Nat := if r < 2 ^ 52 then r else 2 ^ 52 + r % 2 ^ 52
def plc (r : Nat) : Int := if r < 2 ^ 52 then -1074 else -1074 + ((r / 2 ^ 52 - 1 : Nat) : Int)

theorem near_rung (r : Nat) (h0 : r ≠ 0) (h : r < 2047 * 2 ^ 52) : near (mant r) (plc r) = r := by
  unfold near mant plc
  by_cases h1 : r < 2 ^ 52
  · rw [if_pos h1, if_pos h1]
    have hl : r.log2 < 52 := (Nat.log2_lt h0).2 h1
    have e : lastOf r (-1074) = -1074 := by unfold lastOf; omega
    rw [e]
    simp only [Int.sub_self, Int.toNat_zero, Nat.pow_zero, Nat.mul_one, cutN_zero]
    rw [show ((-1074 : Int) + 1074).toNat = 0 from rfl]
    omega
  · rw [if_neg h1, if_neg h1]
    have hm : 2 ^ 52 + r % 2 ^ 52 ≠ 0 := by omega
    have hl : (2 ^ 52 + r % 2 ^ 52).log2 = 52 := by
      have a1 : 52 ≤ (2 ^ 52 + r % 2 ^ 52).log2 := (Nat.le_log2 hm).2 (by omega)
      have a2 : (2 ^ 52 + r % 2 ^ 52).log2 < 53 := (Nat.log2_lt hm).2 (by omega)
      omega
    have e : lastOf (2 ^ 52 + r % 2 ^ 52) (-1074 + ((r / 2 ^ 52 - 1 : Nat) : Int)) = -1074 + ((r / 2 ^ 52 - 1 : Nat) : Int) := by
      unfold lastOf; rw [hl]; omega
    rw [e]
    simp only [Int.sub_self, Int.toNat_zero, Nat.pow_zero, Nat.mul_one, cutN_zero]
    have : (-1074 + ((r / 2 ^ 52 - 1 : Nat) : Int) + 1074).toNat = r / 2 ^ 52 - 1 := by omega
    rw [this]
    have := Nat.div_add_mod r (2 ^ 52)
    have : 1 ≤ r / 2 ^ 52 := by omega
    omega

theorem near_le (mag : Nat) (place : Int) : near mag place ≤ 2047 * 2 ^ 52 := Nat.min_le_right _ _

/-! What a rung stands for, as a whole number of least units: strictly monotone. -/
def val (r : Nat) : Nat := mant r * 2 ^ (plc r + 1074).toNat

theorem val_step (r : Nat) : val r < val (r + 1) := by
  unfold val mant plc
  by_cases h1 : r + 1 < 2 ^ 52
  · have h2 : r < 2 ^ 52 := by omega
    rw [if_pos h1, if_pos h1, if_pos h2, if_pos h2]; simp
  · by_cases h2 : r < 2 ^ 52
    · have e : r = 2 ^ 52 - 1 := by omega
      subst e; decide
    · rw [if_neg h1, if_neg h1, if_neg h2, if_neg h2]
      have hd := Nat.div_add_mod r (2 ^ 52)
      have hq : 1 ≤ r / 2 ^ 52 := by omega
      by_cases h3 : r % 2 ^ 52 + 1 < 2 ^ 52
      · have e1 : (r + 1) / 2 ^ 52 = r / 2 ^ 52 := by omega
        have e2 : (r + 1) % 2 ^ 52 = r % 2 ^ 52 + 1 := by omega
        rw [e1, e2]
        exact Nat.mul_lt_mul_of_pos_right (by omega) (pow_pos' _)
      · have e1 : (r + 1) / 2 ^ 52 = r / 2 ^ 52 + 1 := by omega
        have e2 : (r + 1) % 2 ^ 52 = 0 := by omega
        rw [e1, e2]
        have e3 : (-1074 + ((r / 2 ^ 52 + 1 - 1 : Nat) : Int) + 1074).toNat = (-1074 + ((r / 2 ^ 52 - 1 : Nat) : Int) + 1074).toNat + 1 := by omega
        rw [e3, Nat.pow_succ (n := 2) (m := (-1074 + ((r / 2 ^ 52 - 1 : Nat) : Int) + 1074).toNat)]
        have hp := pow_pos' (-1074 + ((r / 2 ^ 52 - 1 : Nat) : Int) + 1074).toNat
        generalize 2 ^ (-1074 + ((r / 2 ^ 52 - 1 : Nat) : Int) + 1074).toNat = g at hp ⊢
        have e4 : r % 2 ^ 52 = 2 ^ 52 - 1 := by omega
        rw [e4]
        have : (2 ^ 52 + 0) * (g * 2) = (2 ^ 52 + (2 ^ 52 - 1)) * g + g := by
          rw [Nat.mul_comm g 2, ← Nat.mul_assoc]
          rw [show (2 ^ 52 + 0) * 2 = (2 ^ 52 + (2 ^ 52 - 1)) + 1 from rfl, Nat.add_mul, Nat.one_mul]
        omega

theorem val_mono {r s : Nat} (h : r < s) : val r < val s := by
  induction s with
  | zero => omega
  | succ s ih =>
    by_cases e : r = s
    · subst e; exact val_step r
    · exact Nat.lt_trans (ih (by omega)) (val_step s)

theorem val_lt {r s : Nat} : val r < val s ↔ r < s := by
  constructor
  · intro h
    rcases Nat.lt_trichotomy r s with h1 | h1 | h1
    · exact h1
    · subst h1; omega
    · have := val_mono h1; omega
  · exact val_mono

theorem val_inj {r s : Nat} : val r = val s ↔ r = s := by
  constructor
  · intro h
    rcases Nat.lt_trichotomy r s with h1 | h1 | h1
    · have := val_mono h1; omega
    · exact h1
    · have := val_mono h1; omega
  · rintro rfl; rfl

/-! Words: NaN, rank, order. -/
def nanW (x : Nat) : Bool := decide (2047 * 2 ^ 52 < x % 2 ^ 63)
def negW (x : Nat) : Bool := x / 2 ^ 63 % 2 == 1
def rankW (x : Nat) : Int := if negW x then -((x % 2 ^ 63 : Nat) : Int) else ((x % 2 ^ 63 : Nat) : Int)

theorem read_eq (x : Nat) : double.read x =
    if x % 2 ^ 63 < 2047 * 2 ^ 52 then .number (negW x) (mant (x % 2 ^ 63)) (plc (x % 2 ^ 63))
    else if x % 2 ^ 63 = 2047 * 2 ^ 52 then .infinity (negW x) else .nan (negW x) (x % 2 ^ 63 - 2047 * 2 ^ 52) := by
  unfold Format.read mant plc negW
  have e1 : double.leastPlace = -1074 := by decide
  have e2 : double.binade = 2 ^ 52 := rfl
  have e3 : double.infRung = 2047 * 2 ^ 52 := by decide
  have e4 : double.signWeight = 2 ^ 63 := rfl
  rw [e1, e2, e3, e4]
  generalize x % 2 ^ 63 = r
  dsimp only
  by_cases h1 : r < 2 ^ 52
  · rw [if_pos h1, if_pos (by omega), if_pos h1, if_pos h1]
  · rw [if_neg h1, if_neg h1, if_neg h1]

def sg (neg : Bool) (n : Nat) : Int := if neg then -(n : Int) else (n : Int)

theorem signed_eq (neg : Bool) (m u : Nat) : signed neg m u = sg neg (m * 2 ^ u) := by
  unfold signed sg; simp [Nat.shiftLeft_eq]

theorem sg_mul (neg : Bool) (n g : Nat) : sg neg (n * g) = sg neg n * (g : Int) := by
  unfold sg; cases neg <;> simp [Int.natCast_mul, Int.neg_mul]

theorem plc_ge (r : Nat) : -1074 ≤ plc r := by unfold plc; split <;> omega

theorem compare_pos {a b c d : Int} (h1 : a < b ↔ c < d) (h2 : a = b ↔ c = d) : compare a b = compare c d := by
  simp only [compare, compareOfLessAndEq]
  by_cases x : a < b
  · rw [if_pos x, if_pos (h1.1 x)]
  · rw [if_neg x, if_neg (fun y => x (h1.2 y))]
    by_cases y : a = b
    · rw [if_pos y, if_pos (h2.1 y)]
    · rw [if_neg y, if_neg (fun z => y (h2.2 z))]

theorem sg_lt {s t : Bool} {r q : Nat} : sg s (val r) < sg t (val q) ↔ sg s r < sg t q := by
  have z0 : val 0 = 0 := by decide
  have a1 := @val_lt r q
  have a2 := @val_lt q r
  have a3 := @val_lt 0 r
  have a4 := @val_lt 0 q
  rw [z0] at a3 a4
  unfold sg
  cases s <;> cases t <;> simp only [Bool.false_eq_true, if_true, if_false] <;> omega

theorem sg_eq {s t : Bool} {r q : Nat} : sg s (val r) = sg t (val q) ↔ sg s r = sg t q := by
  have h1 := @sg_lt s t r q
  have h2 := @sg_lt t s q r
  omega

theorem order_numbers (s t : Bool) (r q : Nat) : Datum.order (.number s (mant r) (plc r)) (.number t (mant q) (plc q)) = some (compare (sg s r) (sg t q)) := by
  simp only [Datum.order, signed_eq]
  have hb : -1074 ≤ min (plc r) (plc q) := by have := plc_ge r; have := plc_ge q; omega
  generalize hB : min (plc r) (plc q) = B at *
  have hg : (0 : Int) < ((2 ^ (B + 1074).toNat : Nat) : Int) := by have := pow_pos' (B + 1074).toNat; omega
  have e1 : val r = mant r * 2 ^ (plc r - B).toNat * 2 ^ (B + 1074).toNat := by
    unfold val; rw [Nat.mul_assoc, ← Nat.pow_add]; congr 2; omega
  have e2 : val q = mant q * 2 ^ (plc q - B).toNat * 2 ^ (B + 1074).toNat := by
    unfold val; rw [Nat.mul_assoc, ← Nat.pow_add]; congr 2; omega
  congr 1
  refine compare_pos ?_ ?_
  · refine Iff.trans ?_ sg_lt
    rw [e1, e2, sg_mul s (mant r * 2 ^ (plc r - B).toNat) (2 ^ (B + 1074).toNat), sg_mul t (mant q * 2 ^ (plc q - B).toNat) (2 ^ (B + 1074).toNat)]
    exact (Int.mul_lt_mul_right hg).symm
  · refine Iff.trans ?_ sg_eq
    rw [e1, e2, sg_mul s (mant r * 2 ^ (plc r - B).toNat) (2 ^ (B + 1074).toNat), sg_mul t (mant q * 2 ^ (plc q - B).toNat) (2 ^ (B + 1074).toNat)]
    exact (Int.mul_eq_mul_right_iff (by omega)).symm

theorem rank_eq (x : Nat) : rankW x = sg (negW x) (x % 2 ^ 63) := rfl

theorem order_eq (x y : Nat) : double.order x y = if nanW x || nanW y then none else some (compare (rankW x) (rankW y)) := by
  unfold Format.order
  rw [read_eq, read_eq, rank_eq, rank_eq]
  unfold nanW
  generalize x % 2 ^ 63 = r
  generalize y % 2 ^ 63 = q
  generalize negW x = s
  generalize negW y = t
  by_cases h1 : r < 2047 * 2 ^ 52
  · rw [if_pos h1]
    have n1 : decide (2047 * 2 ^ 52 < r) = false := by simp; omega
    by_cases h2 : q < 2047 * 2 ^ 52
    · rw [if_pos h2]
      have n2 : decide (2047 * 2 ^ 52 < q) = false := by simp; omega
      rw [n1, n2, order_numbers]; rfl
    · rw [if_neg h2]
      by_cases h3 : q = 2047 * 2 ^ 52
      · rw [if_pos h3]
        have n2 : decide (2047 * 2 ^ 52 < q) = false := by simp; omega
        rw [n1, n2]
        simp only [Datum.order, Bool.or_self, Bool.false_eq_true, if_false]
        congr 1
        subst h3
        unfold sg
        cases s <;> cases t <;> simp only [Bool.false_eq_true, if_true, if_false, compare, compareOfLessAndEq] <;> (first | rw [if_pos (by omega)] | rw [if_neg (by omega), if_neg (by omega)])
      · rw [if_neg h3]
        have n2 : decide (2047 * 2 ^ 52 < q) = true := by simp; omega
        rw [n2]; simp [Datum.order]
  · rw [if_neg h1]
    by_cases h4 : r = 2047 * 2 ^ 52
    · rw [if_pos h4]
      have n1 : decide (2047 * 2 ^ 52 < r) = false := by simp; omega
      by_cases h2 : q < 2047 * 2 ^ 52
      · rw [if_pos h2]
        have n2 : decide (2047 * 2 ^ 52 < q) = false := by simp; omega
        rw [n1, n2]
        simp only [Datum.order, Bool.or_self, Bool.false_eq_true, if_false]
        congr 1
        subst h4
        unfold sg
        cases s <;> cases t <;> simp only [Bool.false_eq_true, if_true, if_false, compare, compareOfLessAndEq] <;> (first | rw [if_pos (by omega)] | rw [if_neg (by omega), if_neg (by omega)])
      · rw [if_neg h2]
        by_cases h3 : q = 2047 * 2 ^ 52
        · rw [if_pos h3]
          have n2 : decide (2047 * 2 ^ 52 < q) = false := by simp; omega
          rw [n1, n2]
          subst h3; subst h4
          cases s <;> cases t <;> decide
        · rw [if_neg h3]
          have n2 : decide (2047 * 2 ^ 52 < q) = true := by simp; omega
          rw [n2]; simp [Datum.order]
    · rw [if_neg h4]
      have n1 : decide (2047 * 2 ^ 52 < r) = true := by simp; omega
      rw [n1]; simp [Datum.order]

/-- The six tests, as plain ones. -/
theorem ord_lt (x y : Nat) : (double.order x y == some .lt) = (!nanW x && !nanW y && decide (rankW x < rankW y)) := by
  rw [order_eq]
  cases nanW x <;> cases nanW y <;> simp only [Bool.or_self, Bool.or_true, Bool.or_false, if_true, Bool.not_true, Bool.not_false, Bool.true_and, Bool.false_and, Bool.and_false, Bool.false_eq_true, if_false] <;> try rfl
  simp only [compare, compareOfLessAndEq]
  by_cases h : rankW x < rankW y
  · simp [h]
  · by_cases h2 : rankW x = rankW y <;> simp [h, h2]
theorem ord_gt (x y : Nat) : (double.order x y == some .gt) = (!nanW x && !nanW y && decide (rankW y < rankW x)) := by
  rw [order_eq]
  cases nanW x <;> cases nanW y <;> simp only [Bool.or_self, Bool.or_true, Bool.or_false, if_true, Bool.not_true, Bool.not_false, Bool.true_and, Bool.false_and, Bool.and_false, Bool.false_eq_true, if_false] <;> try rfl
  simp only [compare, compareOfLessAndEq]
  by_cases h : rankW x < rankW y
  · have h3 : ¬ rankW y < rankW x := by omega
    simp [h, h3]
  · by_cases h2 : rankW x = rankW y
    · simp [h2]
    · have h3 : rankW y < rankW x := by omega
      simp [h, h2, h3]
theorem ord_eq (x y : Nat) : (double.order x y == some .eq) = (!nanW x && !nanW y && decide (rankW x = rankW y)) := by
  rw [order_eq]
  cases nanW x <;> cases nanW y <;> simp only [Bool.or_self, Bool.or_true, Bool.or_false, if_true, Bool.not_true, Bool.not_false, Bool.true_and, Bool.false_and, Bool.and_false, Bool.false_eq_true, if_false] <;> try rfl
  simp only [compare, compareOfLessAndEq]
  by_cases h : rankW x < rankW y
  · have h3 : ¬ rankW x = rankW y := by omega
    simp [h, h3]
  · by_cases h2 : rankW x = rankW y <;> simp [h2, h]
end Go.Proofs.Ytebnekpccdcnmaa.Fl
