/- The layer extent, plainly: when a list is right; where its blocks lie. -/
import Derived.Test.YtebnekpccdcnmaaEa
namespace Go.Proofs.Ytebnekpccdcnmaa
set_option linter.unusedVariables false
set_option linter.unusedSimpArgs false
open Go.RowKit

/-- Is the list right, as far as its first m extents? -/
structure RightP (m : Nat) (F H N : Nat → Int) : Prop where
  one : ∀ i, i < m → oneP (F i) (H i) (N i)
  next : ∀ i, i + 1 < m → F i + N i ≤ F (i + 1) ∧ ¬ (F (i + 1) = F i + N i ∧ H (i + 1) = H i + N i)
  apart : ∀ k i, k < i → i < m → H k + N k ≤ H i ∨ H i + N i ≤ H k
def Right (n : Nat) (F H N : Nat → Int) : Prop := n ≤ 40 ∧ RightP n F H N

theorem RightP.zero (F H N : Nat → Int) : RightP 0 F H N := ⟨fun i hi => absurd hi (Nat.not_lt_zero _), fun i hi => absurd hi (Nat.not_lt_zero _), fun k i _ hi => absurd hi (Nat.not_lt_zero _)⟩
theorem RightP.less {m : Nat} {F H N : Nat → Int} (h : RightP (m + 1) F H N) : RightP m F H N :=
  ⟨fun i hi => h.one i (by omega), fun i hi => h.next i (by omega), fun k i hk hi => h.apart k i hk (by omega)⟩
theorem RightP.down {m k : Nat} {F H N : Nat → Int} (h : RightP m F H N) (hk : k ≤ m) : RightP k F H N :=
  ⟨fun i hi => h.one i (by omega), fun i hi => h.next i (by omega), fun a i ha hi => h.apart a i ha (by omega)⟩
theorem RightP.more {m : Nat} {F H N : Nat → Int} (h : RightP m F H N) (h1 : oneP (F m) (H m) (N m)) (h2 : ∀ i, i + 1 = m → F i + N i ≤ F m ∧ ¬ (F m = F i + N i ∧ H m = H i + N i)) (h3 : ∀ k, k < m → H k + N k ≤ H m ∨ H m + N m ≤ H k) : RightP (m + 1) F H N := by
  refine ⟨fun i hi => ?_, fun i hi => ?_, fun k i hk hi => ?_⟩
  · by_cases e : i = m
    · rw [e]; exact h1
    · exact h.one i (by omega)
  · by_cases e : i + 1 = m
    · have := h2 i e; rw [← e] at this; exact this
    · exact h.next i (by omega)
  · by_cases e : i = m
    · rw [e]; exact h3 k (by omega)
    · exact h.apart k i hk (by omega)
/-- The extents lie one behind the other. -/
theorem RightP.chain {m : Nat} {F H N : Nat → Int} (h : RightP m F H N) : ∀ i k, k < i → i < m → F k + N k ≤ F i := by
  intro i
  induction i with
  | zero => intro k hk; omega
  | succ i ih =>
    intro k hk hi
    by_cases e : k = i
    · rw [e]; exact (h.next i hi).1
    · have h1 := ih k (by omega) (by omega)
      have h2 := (h.next i hi).1
      have h3 := (h.one i (by omega)).1
      omega

/-- Is the home s taken by one of the first m? -/
def seenP (m : Nat) (H N : Nat → Int) (s : Int) : Prop := ∃ k, k < m ∧ H k ≤ s ∧ s < H k + N k
theorem seen_more {m : Nat} {H N : Nat → Int} {s : Int} : seenP (m + 1) H N s ↔ (seenP m H N s ∨ (H m ≤ s ∧ s < H m + N m)) := by
  constructor
  · rintro ⟨k, hk, h1, h2⟩
    by_cases e : k = m
    · subst e; exact Or.inr ⟨h1, h2⟩
    · exact Or.inl ⟨k, by omega, h1, h2⟩
  · rintro (⟨k, hk, h1, h2⟩ | ⟨h1, h2⟩)
    · exact ⟨k, by omega, h1, h2⟩
    · exact ⟨m, by omega, h1, h2⟩
/-- None of the homes of the extent at m was taken: it lies apart from those before. -/
theorem apart_of {m : Nat} {H N : Nat → Int} (hm : 1 ≤ N m) (h1 : ∀ k, k < m → 1 ≤ N k) (h : ∀ s, H m ≤ s → s < H m + N m → ¬ seenP m H N s) : ∀ k, k < m → H k + N k ≤ H m ∨ H m + N m ≤ H k := by
  intro k hk
  have hn := h1 k hk
  refine Classical.byContradiction fun hc => ?_
  have hc1 : H m < H k + N k := by omega
  have hc2 : H k < H m + N m := by omega
  by_cases e : H k ≤ H m
  · exact h (H m) (Int.le_refl _) (by omega) ⟨k, hk, e, hc1⟩
  · exact h (H k) (by omega) hc2 ⟨k, hk, Int.le_refl _, by omega⟩
theorem not_apart {m : Nat} {F H N : Nat → Int} {s : Int} (h : RightP (m + 1) F H N) (h1 : H m ≤ s) (h2 : s < H m + N m) : ¬ seenP m H N s := by
  rintro ⟨k, hk, h3, h4⟩
  rcases h.apart k m hk (by omega) with h5 | h5 <;> omega
end Go.Proofs.Ytebnekpccdcnmaa
