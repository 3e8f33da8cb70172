/- The layer inode, plainly: no block behind the size, said block by block. -/
import Derived.Test.YtebnekpccdcnmaaJb
namespace Go.Proofs.Ytebnekpccdcnmaa
set_option linter.unusedVariables false
set_option linter.unusedSimpArgs false
open Go.RowKit

/-- Is the block b behind the size, and taken? -/
def behind (s : Int) (F H N : Nat → Int) (en : Nat) (b : Nat) : Prop := s ≤ (b : Int) * 440 ∧ 0 ≤ hm F H N en b - 1
theorem end_ok {s : Int} {F H N : Nat → Int} {en : Nat} (hr : Right en F H N) (hs : 0 ≤ s) (h : endOk s F N en = true) (b : Nat) (hb : b < 40) : ¬ behind s F H N en b := by
  rintro ⟨h1, h2⟩
  by_cases hc : ∃ i, i < en ∧ F i ≤ (b : Int) ∧ (b : Int) < F i + N i
  · obtain ⟨i, hi, h3, h4⟩ := hc
    cases en with
    | zero => omega
    | succ j =>
      have hE : F j + N j ≤ (s + 440 - 1).tdiv 440 := by unfold endOk at h; simpa using h
      rw [Int.tdiv_eq_ediv_of_nonneg (by omega)] at hE
      have hij : F i + N i ≤ F j + N j := by
        by_cases e : i = j
        · rw [e]; omega
        · have := hr.2.chain j i (by omega) (by omega)
          have := (hr.2.one j (by omega)).1
          omega
      omega
  · rw [hm_none (fun i hi hcc => hc ⟨i, hi, hcc⟩)] at h2
    omega
theorem end_bad {s : Int} {F H N : Nat → Int} {en : Nat} (hr : Right en F H N) (hs : 0 ≤ s) (h : endOk s F N en = false) : ∃ b : Nat, b < 40 ∧ behind s F H N en b := by
  cases en with
  | zero => unfold endOk at h; cases h
  | succ j =>
    have hE : ¬ F j + N j ≤ (s + 440 - 1).tdiv 440 := by unfold endOk at h; simpa using h
    rw [Int.tdiv_eq_ediv_of_nonneg (by omega)] at hE
    obtain ⟨o1, o2, o3, o4, o5, o6⟩ := hr.2.one j (by omega)
    obtain ⟨b, hb⟩ := Int.eq_ofNat_of_zero_le (show 0 ≤ F j + N j - 1 by omega)
    refine ⟨b, by omega, by omega, ?_⟩
    have := hm_home hr.2 (b := (b : Int)) (i := j) (by omega) ⟨by omega, by omega⟩
    omega
theorem right_free {m u g l s : Int} {t0 t1 : Nat} {ln : ByteArray} {xn en : Nat} {F H N : Nat → Int} {XN : Nat → ByteArray} {VN : Nat → Nat} : rightB 0 m u g l s t0 t1 ln xn en F H N XN VN = noneB m u g l s t0 t1 ln xn en := by
  unfold rightB
  have h : goodB 0 m u g l s = false := by unfold goodB; simp
  rw [h]
  unfold freeB noneB
  simp
theorem right_kind {k m u g l s : Int} {t0 t1 : Nat} {ln : ByteArray} {xn en : Nat} {F H N : Nat → Int} {XN : Nat → ByteArray} {VN : Nat → Nat} (hk : k ≠ 0) :
    rightB k m u g l s t0 t1 ln xn en F H N XN VN = (((goodB k m u g l s && timeB t0) && timeB t1) && ((linkOk k s ln en && (rgt en F H N && endOk s F N en)) && xrgt xn XN VN)) := by
  unfold rightB
  have h : freeB k m u g l s t0 t1 ln xn en = false := by
    unfold freeB
    have : (k == 0) = false := beq_eq_false_iff_ne.2 hk
    rw [this]; rfl
  rw [h]; rfl
end Go.Proofs.Ytebnekpccdcnmaa
