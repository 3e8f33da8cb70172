/- The layer extent, plainly: the list that homes are built into; where its blocks lie. -/
import Derived.Test.YtebnekpccdcnmaaEc
namespace Go.Proofs.Ytebnekpccdcnmaa
set_option linter.unusedVariables false
set_option linter.unusedSimpArgs false
open Go.RowKit

/-- How many blocks lie in the first m extents. -/
def sumN (N : Nat → Int) : Nat → Int
  | 0 => 0
  | m + 1 => sumN N m + N m
theorem sumN_bd {F H N : Nat → Int} {m : Nat} (h : RightP m F H N) : 0 ≤ sumN N m ∧ sumN N m ≤ 40 * m := by
  induction m with
  | zero => exact ⟨Int.le_refl _, by simp [sumN]⟩
  | succ m ih =>
    have h1 := ih h.less
    have h2 := h.one m (by omega)
    unfold sumN
    have := h2.1
    have := h2.2.1
    omega

open Classical in
noncomputable def cntE (n : Nat) (F H N : Nat → Int) : Int := if Right n F H N then sumN N n else 0

/-- An extent. -/
structure Ext where
  f : Int
  h : Int
  n : Int
def eF (xs : List Ext) (i : Nat) : Int := (xs.getD i ⟨0, 0, 0⟩).f
def eH (xs : List Ext) (i : Nat) : Int := (xs.getD i ⟨0, 0, 0⟩).h
def eN (xs : List Ext) (i : Nat) : Int := (xs.getD i ⟨0, 0, 0⟩).n
/-- The last one made longer by 1. -/
def bump (xs : List Ext) : List Ext := xs.modify (xs.length - 1) (fun x => ⟨x.f, x.h, x.n + 1⟩)
/-- Is the block b joined to the one before? (homes and 1 more; 0 of a hole) -/
def joins (g : Nat → Int) : Nat → Bool
  | 0 => false
  | b + 1 => g b != 0 && g (b + 1) == g b + 1
/-- The list of the first b blocks. -/
def bld (g : Nat → Int) : Nat → List Ext
  | 0 => []
  | b + 1 => if g b = 0 then bld g b else if joins g b = true then bump (bld g b) else bld g b ++ [⟨b, g b - 1, 1⟩]

theorem bump_len (xs : List Ext) : (bump xs).length = xs.length := by simp [bump]
theorem app_lt {xs : List Ext} {x : Ext} {i : Nat} (h : i < xs.length) : eF (xs ++ [x]) i = eF xs i ∧ eH (xs ++ [x]) i = eH xs i ∧ eN (xs ++ [x]) i = eN xs i := by
  unfold eF eH eN
  rw [List.getD_eq_getElem?_getD, List.getD_eq_getElem?_getD, List.getElem?_append_left h]
  exact ⟨rfl, rfl, rfl⟩
theorem app_eq (xs : List Ext) (x : Ext) : eF (xs ++ [x]) xs.length = x.f ∧ eH (xs ++ [x]) xs.length = x.h ∧ eN (xs ++ [x]) xs.length = x.n := by
  unfold eF eH eN
  simp
theorem bump_lt {xs : List Ext} {i : Nat} (h : i + 1 < xs.length) : eF (bump xs) i = eF xs i ∧ eH (bump xs) i = eH xs i ∧ eN (bump xs) i = eN xs i := by
  unfold eF eH eN bump
  rw [List.getD_eq_getElem?_getD, List.getD_eq_getElem?_getD, List.getElem?_modify]
  have e : ¬ xs.length - 1 = i := by omega
  simp [e]
theorem bump_eq {xs : List Ext} {i : Nat} (h : i + 1 = xs.length) : eF (bump xs) i = eF xs i ∧ eH (bump xs) i = eH xs i ∧ eN (bump xs) i = eN xs i + 1 := by
  unfold eF eH eN bump
  rw [List.getD_eq_getElem?_getD, List.getD_eq_getElem?_getD, List.getElem?_modify]
  have : xs[i]? = some (xs[i]'(by omega)) := List.getElem?_eq_getElem (by omega)
  have e : xs.length - 1 = i := by omega
  simp [this, e]

/-- What holds of the list of the first b blocks. -/
structure BInv (g : Nat → Int) (b : Nat) (xs : List Ext) : Prop where
  one : ∀ i, i < xs.length → 1 ≤ eN xs i ∧ 0 ≤ eF xs i ∧ eF xs i + eN xs i ≤ b ∧ 0 ≤ eH xs i
  home : ∀ i, i < xs.length → ∀ s : Nat, eF xs i ≤ s → s < eF xs i + eN xs i → g s = eH xs i + (s - eF xs i) + 1
  all : ∀ s : Nat, s < b → g s ≠ 0 → ∃ i, i < xs.length ∧ eF xs i ≤ s ∧ s < eF xs i + eN xs i
  next : ∀ i, i + 1 < xs.length → eF xs i + eN xs i ≤ eF xs (i + 1) ∧ ¬ (eF xs (i + 1) = eF xs i + eN xs i ∧ eH xs (i + 1) = eH xs i + eN xs i)

theorem BInv.last {g : Nat → Int} {b : Nat} {xs : List Ext} (hI : BInv g b xs) {i : Nat} (hi : i < xs.length) (h : eF xs i + eN xs i = b) : i + 1 = xs.length := by
  refine Classical.byContradiction fun hc => ?_
  have h1 := (hI.next i (by omega)).1
  have h2 := hI.one (i + 1) (by omega)
  omega
/-- The program's test of a join is the document's. -/
theorem BInv.test {g : Nat → Int} {b : Nat} {xs : List Ext} (hg : ∀ s, 0 ≤ g s) (hI : BInv g b xs) (hb : g b ≠ 0) :
    joins g b = true ↔ (0 < xs.length ∧ eF xs (xs.length - 1) + eN xs (xs.length - 1) = b ∧ eH xs (xs.length - 1) + eN xs (xs.length - 1) = g b - 1) := by
  constructor
  · intro h
    cases b with
    | zero => cases h
    | succ b =>
      obtain ⟨h1, h2⟩ : g b ≠ 0 ∧ g (b + 1) = g b + 1 := by simpa [joins] using h
      obtain ⟨i, hi, k1, k2⟩ := hI.all b (by omega) h1
      have k3 := hI.one i hi
      have k4 := hI.home i hi b k1 k2
      have k5 := hI.last hi (by omega)
      rw [show xs.length - 1 = i by omega]
      exact ⟨by omega, by omega, by omega⟩
  · rintro ⟨h0, h1, h2⟩
    have k3 := hI.one (xs.length - 1) (by omega)
    cases b with
    | zero => omega
    | succ b =>
      have k4 := hI.home (xs.length - 1) (by omega) b (by omega) (by omega)
      have : g b ≠ 0 ∧ g (b + 1) = g b + 1 := ⟨by omega, by omega⟩
      simpa [joins] using this
theorem bld_inv (g : Nat → Int) (hg : ∀ s, 0 ≤ g s) (b : Nat) : BInv g b (bld g b) := by
  induction b with
  | zero => exact ⟨fun i hi => by simp [bld] at hi, fun i hi => by simp [bld] at hi, fun s hs => by omega, fun i hi => by simp [bld] at hi⟩
  | succ b ih =>
    have hgb := hg b
    unfold bld
    by_cases h0 : g b = 0
    · rw [if_pos h0]
      refine ⟨fun i hi => ?_, ih.home, fun s hs hne => ?_, ih.next⟩
      · have := ih.one i hi; omega
      · by_cases e : s = b
        · rw [e] at hne; exact absurd h0 hne
        · exact ih.all s (by omega) hne
    · rw [if_neg h0]
      by_cases hj : joins g b = true
      · rw [if_pos hj]
        obtain ⟨j0, j1, j2⟩ := (ih.test hg h0).1 hj
        have hk : ∀ i, i < (bump (bld g b)).length → (i + 1 < (bld g b).length ∧ eF (bump (bld g b)) i = eF (bld g b) i ∧ eH (bump (bld g b)) i = eH (bld g b) i ∧ eN (bump (bld g b)) i = eN (bld g b) i) ∨
            (i + 1 = (bld g b).length ∧ eF (bump (bld g b)) i = eF (bld g b) i ∧ eH (bump (bld g b)) i = eH (bld g b) i ∧ eN (bump (bld g b)) i = eN (bld g b) i + 1 ∧ eF (bld g b) i + eN (bld g b) i = b ∧ eH (bld g b) i + eN (bld g b) i = g b - 1) := by
          intro i hi
          rw [bump_len] at hi
          by_cases e : i + 1 = (bld g b).length
          · right
            obtain ⟨e1, e2, e3⟩ := bump_eq e
            rw [show (bld g b).length - 1 = i by omega] at j1 j2
            exact ⟨e, e1, e2, e3, j1, j2⟩
          · left
            obtain ⟨e1, e2, e3⟩ := bump_lt (xs := bld g b) (i := i) (by omega)
            exact ⟨by omega, e1, e2, e3⟩
        refine ⟨fun i hi => ?_, fun i hi s s1 s2 => ?_, fun s hs hne => ?_, fun i hi => ?_⟩
        · have := ih.one i (by rw [bump_len] at hi; exact hi)
          rcases hk i hi with ⟨k, e1, e2, e3⟩ | ⟨k, e1, e2, e3, e4, e5⟩ <;> rw [e1, e2, e3] <;> omega
        · have hi' : i < (bld g b).length := by rw [bump_len] at hi; exact hi
          rcases hk i hi with ⟨k, e1, e2, e3⟩ | ⟨k, e1, e2, e3, e4, e5⟩
          · rw [e1] at s1 s2 ⊢; rw [e2]; rw [e3] at s2; exact ih.home i hi' s s1 s2
          · rw [e1] at s1 s2 ⊢; rw [e2]; rw [e3] at s2
            by_cases e : s = b
            · rw [e]; omega
            · exact ih.home i hi' s s1 (by omega)
        · by_cases e : s = b
          · refine ⟨(bld g b).length - 1, by rw [bump_len]; omega, ?_⟩
            have := (ih.one ((bld g b).length - 1) (by omega))
            rcases hk ((bld g b).length - 1) (by rw [bump_len]; omega) with ⟨k, e1, e2, e3⟩ | ⟨k, e1, e2, e3, e4, e5⟩
            · omega
            · rw [e1, e3]; omega
          · obtain ⟨i, hi, a1, a2⟩ := ih.all s (by omega) hne
            refine ⟨i, by rw [bump_len]; exact hi, ?_⟩
            rcases hk i (by rw [bump_len]; exact hi) with ⟨k, e1, e2, e3⟩ | ⟨k, e1, e2, e3, e4, e5⟩ <;> rw [e1, e3] <;> omega
        · rw [bump_len] at hi
          have h1 := ih.next i hi
          rcases hk i (by rw [bump_len]; omega) with ⟨k, e1, e2, e3⟩ | ⟨k, e1, e2, e3, e4, e5⟩
          · rcases hk (i + 1) (by rw [bump_len]; omega) with ⟨k', f1, f2, f3⟩ | ⟨k', f1, f2, f3, f4, f5⟩ <;> rw [e1, e2, e3, f1, f2] <;> exact h1
          · omega
      · rw [if_neg hj]
        have hk : ∀ i, i < (bld g b ++ [(⟨b, g b - 1, 1⟩ : Ext)]).length → (i < (bld g b).length ∧ eF (bld g b ++ [(⟨b, g b - 1, 1⟩ : Ext)]) i = eF (bld g b) i ∧ eH (bld g b ++ [(⟨b, g b - 1, 1⟩ : Ext)]) i = eH (bld g b) i ∧ eN (bld g b ++ [(⟨b, g b - 1, 1⟩ : Ext)]) i = eN (bld g b) i) ∨
            (i = (bld g b).length ∧ eF (bld g b ++ [(⟨b, g b - 1, 1⟩ : Ext)]) i = b ∧ eH (bld g b ++ [(⟨b, g b - 1, 1⟩ : Ext)]) i = g b - 1 ∧ eN (bld g b ++ [(⟨b, g b - 1, 1⟩ : Ext)]) i = 1) := by
          intro i hi
          by_cases e : i = (bld g b).length
          · right
            obtain ⟨e1, e2, e3⟩ := app_eq (bld g b) ⟨b, g b - 1, 1⟩
            rw [e]; exact ⟨rfl, e1, e2, e3⟩
          · left
            have hlt : i < (bld g b).length := by simp at hi; omega
            obtain ⟨e1, e2, e3⟩ := app_lt (x := ⟨b, g b - 1, 1⟩) hlt
            exact ⟨hlt, e1, e2, e3⟩
        refine ⟨fun i hi => ?_, fun i hi s s1 s2 => ?_, fun s hs hne => ?_, fun i hi => ?_⟩
        · rcases hk i hi with ⟨k, e1, e2, e3⟩ | ⟨k, e1, e2, e3⟩
          · have := ih.one i k; rw [e1, e2, e3]; omega
          · rw [e1, e2, e3]; omega
        · rcases hk i hi with ⟨k, e1, e2, e3⟩ | ⟨k, e1, e2, e3⟩
          · rw [e1] at s1 s2 ⊢; rw [e2]; rw [e3] at s2; exact ih.home i k s s1 s2
          · rw [e1] at s1 s2 ⊢; rw [e2]; rw [e3] at s2
            obtain rfl : s = b := by omega
            omega
        · by_cases e : s = b
          · refine ⟨(bld g b).length, by simp, ?_⟩
            rcases hk (bld g b).length (by simp) with ⟨k, e1, e2, e3⟩ | ⟨k, e1, e2, e3⟩
            · omega
            · rw [e1, e3]; omega
          · obtain ⟨i, hi, a1, a2⟩ := ih.all s (by omega) hne
            refine ⟨i, by simp; omega, ?_⟩
            rcases hk i (by simp; omega) with ⟨k, e1, e2, e3⟩ | ⟨k, e1, e2, e3⟩
            · rw [e1, e3]; exact ⟨a1, a2⟩
            · omega
        · rcases hk i (by omega) with ⟨k, e1, e2, e3⟩ | ⟨k, e1, e2, e3⟩
          · rcases hk (i + 1) hi with ⟨k', f1, f2, f3⟩ | ⟨k', f1, f2, f3⟩
            · rw [e1, e2, e3, f1, f2]; exact ih.next i k'
            · rw [e1, e2, e3, f1, f2]
              have hb1 := ih.one i k
              refine ⟨hb1.2.2.1, fun hc => hj ?_⟩
              rw [ih.test hg h0]
              rw [show (bld g b).length - 1 = i by omega]
              omega
          · have : i + 1 < (bld g b).length + 1 := by simpa using hi
            omega

/-- Homes as they may be: each below 256, no two alike. -/
structure Homes (g : Nat → Int) : Prop where
  low : ∀ s, 0 ≤ g s
  high : ∀ s, g s ≤ 256
  apart : ∀ s t, s < 40 → t < 40 → g s ≠ 0 → g s = g t → s = t
theorem BInv.chain {g : Nat → Int} {b : Nat} {xs : List Ext} (h : BInv g b xs) : ∀ i k, k < i → i < xs.length → eF xs k + eN xs k ≤ eF xs i := by
  intro i
  induction i with
  | zero => intro k hk; omega
  | succ i ih =>
    intro k hk hi
    by_cases e : k = i
    · rw [e]; exact (h.next i hi).1
    · have h1 := ih k (by omega) (by omega)
      have h2 := (h.next i hi).1
      have h3 := (h.one i (by omega)).1
      omega
/-- So many extents lie in b blocks at most. -/
theorem BInv.few {g : Nat → Int} {b : Nat} {xs : List Ext} (h : BInv g b xs) : xs.length ≤ b := by
  have : ∀ i, i < xs.length → (i : Int) ≤ eF xs i := by
    intro i
    induction i with
    | zero => intro hi; have := h.one 0 hi; omega
    | succ i ih =>
      intro hi
      have h1 := ih (by omega)
      have h2 := h.next i hi
      have h3 := h.one i (by omega)
      omega
  by_cases e : xs.length = 0
  · omega
  · have h1 := this (xs.length - 1) (by omega)
    have h2 := h.one (xs.length - 1) (by omega)
    omega
theorem bld_right {g : Nat → Int} (hg : Homes g) : Right (bld g 40).length (eF (bld g 40)) (eH (bld g 40)) (eN (bld g 40)) := by
  have hI := bld_inv g hg.low 40
  generalize bld g 40 = xs at hI
  refine ⟨hI.few, fun i hi => ?_, fun i hi => hI.next i hi, fun k i hk hi => ?_⟩
  · have h1 := hI.one i hi
    obtain ⟨t, ht⟩ := Int.eq_ofNat_of_zero_le (show 0 ≤ eF xs i + eN xs i - 1 by omega)
    have h2 := hI.home i hi t (by omega) (by omega)
    have h3 := hg.high t
    unfold oneP
    omega
  · refine Classical.byContradiction fun hc => ?_
    have hk1 := hI.one k (by omega)
    have hi1 := hI.one i hi
    have hch := hI.chain i k hk hi
    have key : ∀ s t : Nat, eF xs k ≤ s → s < eF xs k + eN xs k → eF xs i ≤ t → t < eF xs i + eN xs i → eH xs k + (s - eF xs k) = eH xs i + (t - eF xs i) → False := by
      intro s t s1 s2 t1 t2 e
      have a1 := hI.home k (by omega) s s1 s2
      have a2 := hI.home i hi t t1 t2
      have := hg.apart s t (by omega) (by omega) (by omega) (by omega)
      omega
    by_cases e : eH xs k ≤ eH xs i
    · obtain ⟨s, hs⟩ := Int.eq_ofNat_of_zero_le (show 0 ≤ eF xs k + (eH xs i - eH xs k) by omega)
      obtain ⟨t, ht⟩ := Int.eq_ofNat_of_zero_le (show 0 ≤ eF xs i by omega)
      exact key s t (by omega) (by omega) (by omega) (by omega) (by omega)
    · obtain ⟨s, hs⟩ := Int.eq_ofNat_of_zero_le (show 0 ≤ eF xs k by omega)
      obtain ⟨t, ht⟩ := Int.eq_ofNat_of_zero_le (show 0 ≤ eF xs i + (eH xs k - eH xs i) by omega)
      exact key s t (by omega) (by omega) (by omega) (by omega) (by omega)

/-- The home and 1 more of the block b among the first m; 0 of a hole. -/
def hm (F H N : Nat → Int) : Nat → Int → Int
  | 0, _ => 0
  | m + 1, b => if F m ≤ b ∧ b < F m + N m then H m + (b - F m) + 1 else hm F H N m b
theorem hm_none {F H N : Nat → Int} {m : Nat} {b : Int} (h : ∀ i, i < m → ¬ (F i ≤ b ∧ b < F i + N i)) : hm F H N m b = 0 := by
  induction m with
  | zero => rfl
  | succ m ih => unfold hm; rw [if_neg (h m (by omega))]; exact ih fun i hi => h i (by omega)
theorem hm_of {F H N : Nat → Int} {m : Nat} {b : Int} (hr : RightP m F H N) {i : Nat} (hi : i < m) (h : F i ≤ b ∧ b < F i + N i) : hm F H N m b = H i + (b - F i) + 1 := by
  induction m with
  | zero => omega
  | succ m ih =>
    unfold hm
    by_cases e : i = m
    · rw [e] at h; rw [if_pos h, e]
    · have := hr.chain m i (by omega) (by omega)
      rw [if_neg (by omega)]
      exact ih hr.less (by omega)
theorem hm_cases {F H N : Nat → Int} {m : Nat} (b : Int) (hr : RightP m F H N) : (hm F H N m b = 0 ∧ ∀ i, i < m → ¬ (F i ≤ b ∧ b < F i + N i)) ∨ ∃ i, i < m ∧ (F i ≤ b ∧ b < F i + N i) ∧ hm F H N m b = H i + (b - F i) + 1 := by
  by_cases e : ∃ i, i < m ∧ (F i ≤ b ∧ b < F i + N i)
  · obtain ⟨i, hi, h⟩ := e
    exact Or.inr ⟨i, hi, h, hm_of hr hi h⟩
  · have h : ∀ i, i < m → ¬ (F i ≤ b ∧ b < F i + N i) := fun i hi hc => e ⟨i, hi, hc⟩
    exact Or.inl ⟨hm_none h, h⟩
theorem hm_bd {F H N : Nat → Int} {m : Nat} (b : Int) (hr : RightP m F H N) : 0 ≤ hm F H N m b ∧ hm F H N m b ≤ 256 := by
  rcases hm_cases b hr with ⟨h, _⟩ | ⟨i, hi, h, e⟩
  · rw [h]; omega
  · have := hr.one i hi
    unfold oneP at this
    omega
theorem hm_out {F H N : Nat → Int} {m : Nat} {b : Int} (hr : RightP m F H N) (hb : b < 0 ∨ 40 ≤ b) : hm F H N m b = 0 := by
  refine hm_none fun i hi => ?_
  have := hr.one i hi
  unfold oneP at this
  omega
theorem hm_homes {F H N : Nat → Int} {m : Nat} (hr : RightP m F H N) : Homes (fun s => hm F H N m (s : Int)) := by
  refine ⟨fun s => (hm_bd s hr).1, fun s => (hm_bd s hr).2, fun s t hs ht h0 he => ?_⟩
  have he' : hm F H N m (s : Int) = hm F H N m (t : Int) := he
  have h0' : hm F H N m (s : Int) ≠ 0 := h0
  rcases hm_cases (s : Int) hr with ⟨h, _⟩ | ⟨i, hi, h, e⟩
  · exact absurd h h0'
  · rcases hm_cases (t : Int) hr with ⟨h', _⟩ | ⟨k, hk, h', e'⟩
    · rw [he'] at h0'; exact absurd h' h0'
    · rcases Nat.lt_trichotomy i k with hlt | heq | hlt
      · have := hr.apart i k hlt hk; omega
      · subst heq; omega
      · have := hr.apart k i hlt hi; omega
/-- The homes of a list that was built are those that it was built of. -/
theorem bld_hm {g : Nat → Int} (hg : Homes g) (b : Nat) (hb : b < 40) : hm (eF (bld g 40)) (eH (bld g 40)) (eN (bld g 40)) (bld g 40).length (b : Int) = g b := by
  have hI := bld_inv g hg.low 40
  have hR := (bld_right hg).2
  generalize bld g 40 = xs at *
  by_cases h0 : g b = 0
  · rw [h0]
    refine hm_none fun i hi hc => ?_
    have h1 := hI.home i hi b hc.1 hc.2
    have h2 := hI.one i hi
    omega
  · obtain ⟨i, hi, h⟩ := hI.all b hb h0
    rw [hm_of hR hi h, hI.home i hi b h.1 h.2]
/-- How many of the first b blocks have homes. -/
def cntG (g : Nat → Int) : Nat → Int
  | 0 => 0
  | b + 1 => cntG g b + if g b = 0 then 0 else 1
theorem sumN_congr {N M : Nat → Int} {m : Nat} (h : ∀ i, i < m → N i = M i) : sumN N m = sumN M m := by
  induction m with
  | zero => rfl
  | succ m ih => unfold sumN; rw [ih fun i hi => h i (by omega), h m (by omega)]
theorem bld_sum (g : Nat → Int) (hg : ∀ s, 0 ≤ g s) (b : Nat) : sumN (eN (bld g b)) (bld g b).length = cntG g b := by
  induction b with
  | zero => rfl
  | succ b ih =>
    have hI := bld_inv g hg b
    unfold bld cntG
    by_cases h0 : g b = 0
    · rw [if_pos h0, if_pos h0, ih]; omega
    · rw [if_neg h0, if_neg h0]
      by_cases hj : joins g b = true
      · rw [if_pos hj, bump_len]
        obtain ⟨j0, _⟩ := (hI.test hg h0).1 hj
        obtain ⟨m, hm⟩ : ∃ m, (bld g b).length = m + 1 := ⟨(bld g b).length - 1, by omega⟩
        rw [hm] at ih ⊢
        unfold sumN at ih ⊢
        rw [sumN_congr (M := eN (bld g b)) (fun i hi => (bump_lt (by omega)).2.2), (bump_eq (by omega)).2.2]
        omega
      · rw [if_neg hj]
        have : (bld g b ++ [(⟨b, g b - 1, 1⟩ : Ext)]).length = (bld g b).length + 1 := by simp
        rw [this]
        unfold sumN
        rw [sumN_congr (M := eN (bld g b)) (fun i hi => (app_lt hi).2.2), (app_eq _ _).2.2, ih]
end Go.Proofs.Ytebnekpccdcnmaa
