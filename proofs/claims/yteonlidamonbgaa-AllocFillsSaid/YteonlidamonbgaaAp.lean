/- The layer alloc, plainly: counts, first places, the best group. -/
import Derived.Test.YteonlidamonbgaaCr
import Derived.Test.YteonlidamonbgaaCo
namespace Go.Proofs.Yteonlidamonbgaa
set_option linter.unusedVariables false
open Go.RowKit Fl

/-- How many of m places from lo on are free. -/
def cntTo (f : Nat → Bool) (lo : Nat) : Nat → Nat
  | 0 => 0
  | m + 1 => cntTo f lo m + (f (lo + m)).toNat
theorem cntTo_le (f : Nat → Bool) (lo m : Nat) : cntTo f lo m ≤ m := by
  induction m with
  | zero => exact Nat.le_refl _
  | succ m ih => unfold cntTo; have : (f (lo + m)).toNat ≤ 1 := by cases f (lo + m) <;> simp
                 omega
theorem cntTo_zero {f : Nat → Bool} {lo m : Nat} : cntTo f lo m = 0 ↔ ∀ t, lo ≤ t → t < lo + m → f t = false := by
  induction m with
  | zero => exact ⟨fun _ t h1 h2 => by omega, fun _ => rfl⟩
  | succ m ih =>
    unfold cntTo
    constructor
    · intro h t h1 h2
      have h3 : cntTo f lo m = 0 := by omega
      have h4 : (f (lo + m)).toNat = 0 := by omega
      by_cases e : t = lo + m
      · rw [e]; cases hf : f (lo + m) <;> simp [hf] at h4 ⊢
      · exact ih.1 h3 t h1 (by omega)
    · intro h
      rw [ih.2 (fun t h1 h2 => h t h1 (by omega)), h (lo + m) (by omega) (by omega)]
      rfl
theorem cntTo_shift (f : Nat → Bool) (lo m : Nat) : cntTo (fun i => f (lo + i)) 0 m = cntTo f lo m := by
  induction m with
  | zero => rfl
  | succ m ih => unfold cntTo; rw [ih]; simp
theorem cntTo_congr {f g : Nat → Bool} {lo m : Nat} (h : ∀ t, lo ≤ t → t < lo + m → f t = g t) : cntTo f lo m = cntTo g lo m := by
  induction m with
  | zero => rfl
  | succ m ih => unfold cntTo; rw [ih (fun t h1 h2 => h t h1 (by omega)), h (lo + m) (by omega) (by omega)]

/-- The first free place from lo on, below hi; -1: there is none. -/
def FstIs (f : Nat → Bool) (lo hi : Nat) (r : Int) : Prop :=
  (r = -1 ∧ ∀ t, lo ≤ t → t < hi → f t = false) ∨ (∃ j : Nat, r = j ∧ lo ≤ j ∧ j < hi ∧ f j = true ∧ ∀ t, lo ≤ t → t < j → f t = false)
theorem FstIs.one {f : Nat → Bool} {lo hi : Nat} {r s : Int} (h : FstIs f lo hi r) (k : FstIs f lo hi s) : r = s := by
  rcases h with ⟨rfl, h⟩ | ⟨j, rfl, h1, h2, h3, h4⟩ <;> rcases k with ⟨rfl, k⟩ | ⟨i, rfl, k1, k2, k3, k4⟩
  · rfl
  · rw [h i k1 k2] at k3; cases k3
  · rw [k j h1 h2] at h3; cases h3
  · have : j = i := by
      rcases Nat.lt_trichotomy j i with e | e | e
      · rw [k4 j h1 e] at h3; cases h3
      · exact e
      · rw [h4 i k1 e] at k3; cases k3
    rw [this]
theorem FstIs.some_pos {f : Nat → Bool} {lo hi : Nat} {r : Int} (h : FstIs f lo hi r) : r = -1 ∨ 0 ≤ r := by
  rcases h with ⟨rfl, h⟩ | ⟨j, rfl, _⟩
  · exact Or.inl rfl
  · exact Or.inr (by omega)
theorem FstIs.none_iff {f : Nat → Bool} {lo m : Nat} {r : Int} (h : FstIs f lo (lo + m) r) : r = -1 ↔ cntTo f lo m = 0 := by
  rw [cntTo_zero]
  constructor
  · intro e
    rcases h with ⟨_, h⟩ | ⟨j, rfl, _⟩
    · exact h
    · omega
  · intro k
    rcases h with ⟨e, _⟩ | ⟨j, rfl, h1, h2, h3, _⟩
    · exact e
    · rw [k j h1 h2] at h3; cases h3
theorem FstIs.exists (f : Nat → Bool) (lo hi : Nat) : ∃ r, FstIs f lo hi r := by
  induction hi with
  | zero => exact ⟨-1, Or.inl ⟨rfl, fun t _ h => absurd h (Nat.not_lt_zero _)⟩⟩
  | succ hi ih =>
    obtain ⟨r, h⟩ := ih
    rcases h with ⟨rfl, h⟩ | ⟨j, rfl, h1, h2, h3, h4⟩
    · by_cases hf : f hi = true ∧ lo ≤ hi
      · exact ⟨hi, Or.inr ⟨hi, rfl, hf.2, by omega, hf.1, h⟩⟩
      · refine ⟨-1, Or.inl ⟨rfl, fun t h1 h2 => ?_⟩⟩
        by_cases e : t = hi
        · subst e
          cases hc : f t
          · rfl
          · exact absurd ⟨hc, h1⟩ hf
        · exact h t h1 (by omega)
    · exact ⟨j, Or.inr ⟨j, rfl, h1, by omega, h3, h4⟩⟩

theorem FstIs.next_no {f : Nat → Bool} {lo hi : Nat} {r : Int} (h : FstIs f lo hi r) (hf : f hi = false) : FstIs f lo (hi + 1) r := by
  rcases h with ⟨rfl, h⟩ | ⟨j, rfl, h1, h2, h3, h4⟩
  · refine Or.inl ⟨rfl, fun t h1 h2 => ?_⟩
    by_cases e : t = hi
    · rw [e]; exact hf
    · exact h t h1 (by omega)
  · exact Or.inr ⟨j, rfl, h1, by omega, h3, h4⟩
theorem FstIs.next_first {f : Nat → Bool} {lo hi : Nat} {r : Int} (h : FstIs f lo hi r) (hr : r = -1) (hlo : lo ≤ hi) (hf : f hi = true) : FstIs f lo (hi + 1) (hi : Int) := by
  rcases h with ⟨_, h⟩ | ⟨j, rfl, h1, h2, h3, h4⟩
  · exact Or.inr ⟨hi, rfl, hlo, by omega, hf, h⟩
  · omega
theorem FstIs.next_have {f : Nat → Bool} {lo hi : Nat} {r : Int} (h : FstIs f lo hi r) (hr : r ≠ -1) : FstIs f lo (hi + 1) r := by
  rcases h with ⟨rfl, h⟩ | ⟨j, rfl, h1, h2, h3, h4⟩
  · exact absurd rfl hr
  · exact Or.inr ⟨j, rfl, h1, by omega, h3, h4⟩

/-! Groups of eight of n places. -/
def gsz (n g : Nat) : Nat := min n (8 * g + 8) - 8 * g
def nn (f : Nat → Bool) (n g : Nat) : Nat := cntTo f (8 * g) (gsz n g)
def uu (f : Nat → Bool) (n g : Nat) : Nat := gsz n g - nn f n g
theorem gsz_le (n g : Nat) : gsz n g ≤ 8 := by unfold gsz; omega
theorem nn_le (f : Nat → Bool) (n g : Nat) : nn f n g ≤ gsz n g := cntTo_le _ _ _
theorem nu_sum (f : Nat → Bool) (n g : Nat) : nn f n g + uu f n g = gsz n g := by unfold uu; have := nn_le f n g; omega
theorem gsz_pos {n g : Nat} (h : 8 * g < n) : 0 < gsz n g ∧ 8 * g + gsz n g ≤ n := by unfold gsz; omega

/-- Is the group c better than b? -/
def gt (f : Nat → Bool) (n c b : Nat) : Prop := nn f n b * uu f n c < nn f n c * uu f n b

/-- The group b, whose first free place is r, is the first of the best ones below g. -/
structure BestAt (f : Nat → Bool) (n g b : Nat) (r : Int) : Prop where
  lt : b < g
  fst : FstIs f (8 * b) (8 * b + gsz n b) r
  some : r ≠ -1
  top : ∀ c, c < g → 0 < nn f n c → ¬ gt f n c b
  early : ∀ c, c < b → 0 < nn f n c → gt f n b c
def Best (f : Nat → Bool) (n g : Nat) (r : Int) : Prop := (r = -1 ∧ ∀ c, c < g → nn f n c = 0) ∨ ∃ b, BestAt f n g b r

theorem BestAt.free {f : Nat → Bool} {n g b : Nat} {r : Int} (h : BestAt f n g b r) : 0 < nn f n b := by
  rcases Nat.eq_zero_or_pos (nn f n b) with e | e
  · exact absurd (h.fst.none_iff.2 e) h.some
  · exact e
theorem Best.one {f : Nat → Bool} {n g : Nat} {r s : Int} (h : Best f n g r) (k : Best f n g s) : r = s := by
  rcases h with ⟨rfl, h⟩ | ⟨b, h⟩ <;> rcases k with ⟨rfl, k⟩ | ⟨c, k⟩
  · rfl
  · have := k.free; rw [h c k.lt] at this; omega
  · have := h.free; rw [k b h.lt] at this; omega
  · have e : b = c := by
      rcases Nat.lt_trichotomy b c with e | e | e
      · exact absurd (k.early b e h.free) (h.top c k.lt k.free)
      · exact e
      · exact absurd (h.early c e k.free) (k.top b h.lt h.free)
    subst e
    exact h.fst.one k.fst

theorem frac_trans {a b c d e f : Nat} (hc : 0 < c) (h1 : c * b < a * d) (h2 : e * d ≤ c * f) (he : 0 < e) : e * b < a * f := by
  have hd : 0 < d := by
    rcases Nat.eq_zero_or_pos d with r | r
    · subst r; simp at h1
    · exact r
  have hf : 0 < f := by
    rcases Nat.eq_zero_or_pos f with r | r
    · subst r; have := Nat.mul_pos he hd; omega
    · exact r
  -- e*b*d*c? : e*d*b ≤ c*f*b = f*(c*b) < f*(a*d)
  have s1 : e * d * b ≤ c * f * b := Nat.mul_le_mul_right b h2
  have s2 : f * (c * b) < f * (a * d) := Nat.mul_lt_mul_of_pos_left h1 hf
  have e1 : e * d * b = d * (e * b) := by rw [Nat.mul_comm e d, Nat.mul_assoc]
  have e2 : c * f * b = f * (c * b) := by rw [Nat.mul_comm c f, Nat.mul_assoc]
  have e3 : f * (a * d) = d * (a * f) := by rw [← Nat.mul_assoc, Nat.mul_comm (f * a) d, Nat.mul_comm f a]
  rw [e1, e2] at s1
  rw [e3] at s2
  exact Nat.lt_of_mul_lt_mul_left (Nat.lt_of_le_of_lt s1 s2)

theorem BestAt.skip {f : Nat → Bool} {n g b : Nat} {r : Int} (h : BestAt f n g b r) (hg : nn f n g = 0 ∨ ¬ gt f n g b) : BestAt f n (g + 1) b r :=
  ⟨Nat.lt_succ_of_lt h.lt, h.fst, h.some, fun c hc hf => by
    by_cases e : c = g
    · subst e
      rcases hg with hg | hg
      · omega
      · exact hg
    · exact h.top c (by omega) hf, h.early⟩
theorem BestAt.turn {f : Nat → Bool} {n g b : Nat} {r s : Int} (h : BestAt f n g b r) (hs : FstIs f (8 * g) (8 * g + gsz n g) s) (hs1 : s ≠ -1) (hgt : gt f n g b) : BestAt f n (g + 1) g s := by
  have hg : ∀ c, c < g → 0 < nn f n c → gt f n g c := fun c hc hf => frac_trans h.free hgt (Nat.le_of_not_lt (h.top c hc hf)) hf
  refine ⟨Nat.lt_succ_self _, hs, hs1, fun c hc hf => ?_, hg⟩
  by_cases e : c = g
  · subst e; exact Nat.lt_irrefl _
  · have := hg c (by omega) hf
    exact Nat.not_lt.2 (Nat.le_of_lt this)
theorem best_first {f : Nat → Bool} {n g : Nat} {s : Int} (h : ∀ c, c < g → nn f n c = 0) (hs : FstIs f (8 * g) (8 * g + gsz n g) s) (hs1 : s ≠ -1) : BestAt f n (g + 1) g s := by
  refine ⟨Nat.lt_succ_self _, hs, hs1, fun c hc hf => ?_, fun c hc hf => ?_⟩
  · by_cases e : c = g
    · subst e; exact Nat.lt_irrefl _
    · have := h c (by omega); omega
  · have := h c hc; omega

/-! Scores as floats. -/
def allTo (k : Nat) (f : Nat → Bool) : Bool := (List.range k).all f
theorem allTo_at {k : Nat} {f : Nat → Bool} (h : allTo k f = true) {i : Nat} (hi : i < k) : f i = true := List.all_eq_true.1 h i (List.mem_range.2 hi)
def rkTab : List Int := (List.range 81).map fun k => rankW (ratioW ((k / 9 : Nat) : Int) ((k % 9 : Nat) : Int))
theorem tab_rank : allTo 81 (fun a => allTo 81 (fun b => (a == 0) || (b == 0) || (decide (rkTab.getD a 0 < rkTab.getD b 0) == decide (a / 9 * (b % 9) < b / 9 * (a % 9))))) = true := by decide +kernel
theorem tab_nan : allTo 81 (fun a => (a == 0) || !nanW (ratioW ((a / 9 : Nat) : Int) ((a % 9 : Nat) : Int))) = true := by decide +kernel
theorem score_num {n u : Nat} (hn : n ≤ 8) (hu : u ≤ 8) (h0 : 0 < n + u) : nanW (ratioW (n : Int) (u : Int)) = false := by
  have := allTo_at tab_nan (show 9 * n + u < 81 by omega)
  rw [show (9 * n + u) / 9 = n by omega, show (9 * n + u) % 9 = u by omega] at this
  have e : (9 * n + u == 0) = false := by rw [beq_eq_false_iff_ne]; omega
  rw [e, Bool.false_or] at this
  simpa using this
theorem rkTab_at {n u : Nat} (hn : n ≤ 8) (hu : u ≤ 8) : rkTab.getD (9 * n + u) 0 = rankW (ratioW (n : Int) (u : Int)) := by
  unfold rkTab
  have : 9 * n + u < 81 := by omega
  simp only [List.getD, List.getElem?_map, List.getElem?_range this, Option.map_some, Option.getD_some]
  rw [show (9 * n + u) / 9 = n by omega, show (9 * n + u) % 9 = u by omega]
theorem score_lt {n u m v : Nat} (hn : n ≤ 8) (hu : u ≤ 8) (h0 : 0 < n + u) (hm : m ≤ 8) (hv : v ≤ 8) (h1 : 0 < m + v) : rankW (ratioW (n : Int) (u : Int)) < rankW (ratioW (m : Int) (v : Int)) ↔ n * v < m * u := by
  have := allTo_at (allTo_at tab_rank (show 9 * n + u < 81 by omega)) (show 9 * m + v < 81 by omega)
  rw [show (9 * n + u) / 9 = n by omega, show (9 * n + u) % 9 = u by omega, show (9 * m + v) / 9 = m by omega, show (9 * m + v) % 9 = v by omega, rkTab_at hn hu, rkTab_at hm hv] at this
  have e : (9 * n + u == 0) = false := by rw [beq_eq_false_iff_ne]; omega
  have e2 : (9 * m + v == 0) = false := by rw [beq_eq_false_iff_ne]; omega
  rw [e, e2, Bool.false_or, Bool.false_or, beq_iff_eq] at this
  exact decide_eq_decide.1 this
def scoreG (f : Nat → Bool) (n g : Nat) : Nat := ratioW (nn f n g : Int) (uu f n g : Int)
theorem nu_le (f : Nat → Bool) (n g : Nat) : nn f n g ≤ 8 ∧ uu f n g ≤ 8 := by have := nu_sum f n g; have := gsz_le n g; omega
theorem score_nan {f : Nat → Bool} {n g : Nat} (hg : 8 * g < n) : nanW (scoreG f n g) = false :=
  score_num (nu_le f n g).1 (nu_le f n g).2 (by have := nu_sum f n g; have := (gsz_pos hg).1; omega)
theorem score_gt {f : Nat → Bool} {n c b : Nat} (hc : 8 * c < n) (hb : 8 * b < n) : rankW (scoreG f n b) < rankW (scoreG f n c) ↔ gt f n c b :=
  score_lt (nu_le f n b).1 (nu_le f n b).2 (by have := nu_sum f n b; have := (gsz_pos hb).1; omega) (nu_le f n c).1 (nu_le f n c).2 (by have := nu_sum f n c; have := (gsz_pos hc).1; omega)
theorem ord_score {f : Nat → Bool} {n c b : Nat} (hc : 8 * c < n) (hb : 8 * b < n) : ordW (scoreG f n c) (scoreG f n b) ≤ 0 ↔ ¬ gt f n c b := by
  rw [← score_gt hc hb]
  unfold ordW
  rw [if_neg (by rw [score_nan hc]; simp), if_neg (by rw [score_nan hb]; simp)]
  by_cases h1 : rankW (scoreG f n c) < rankW (scoreG f n b)
  · rw [if_pos h1]; constructor
    · intro _; omega
    · intro _; decide
  · rw [if_neg h1]
    by_cases h2 : rankW (scoreG f n b) < rankW (scoreG f n c)
    · rw [if_pos h2]; constructor
      · intro h; exact absurd h (by decide)
      · intro h; exact absurd h2 h
    · rw [if_neg h2]; constructor
      · intro _; exact h2
      · intro _; decide
end Go.Proofs.Yteonlidamonbgaa
