/- The layer inode, plainly: when InodeSizes' inode is right. -/
import Derived.Test.YtebnekpccdcnmaaIh
namespace Go.Proofs.Ytebnekpccdcnmaa
set_option linter.unusedVariables false
set_option linter.unusedSimpArgs false
open Go.RowKit

theorem sizes_ex (f : Nat) (hf : f < 40) : Right 1 (fun _ => (f : Int)) (fun _ => 30) (fun _ => 1) := by
  refine ⟨by omega, ⟨fun i hi => ?_, fun i hi => by omega, fun k i hk hi => by omega⟩⟩
  show 1 ≤ (1 : Int) ∧ _
  omega
theorem sizes_time : timeB 0 = true := by
  have : formW 0 = 0 := by decide
  unfold timeB; rw [this]; rfl
theorem sizes_right (s f : Nat) (hs : s ≤ 17600) (hf : f < 40) (XN : Nat → ByteArray) (VN : Nat → Nat) :
    rightB 1 0 0 0 1 s 0 0 ByteArray.empty 0 1 (fun _ => (f : Int)) (fun _ => 30) (fun _ => 1) XN VN = decide ((f : Int) * 440 < (s : Int)) := by
  unfold rightB
  rw [rgt_good (sizes_ex f hf), xrgt_good ⟨by omega, XGood.zero XN VN⟩, sizes_time]
  have h1 : freeB 1 0 0 0 1 s 0 0 ByteArray.empty 0 1 = false := by unfold freeB; simp
  have h2 : goodB 1 0 0 0 1 s = true := by
    unfold goodB
    simp
    omega
  have h3 : linkOk 1 s ByteArray.empty 1 = true := by unfold linkOk; simp
  rw [h1, h2, h3]
  have h4 : endOk s (fun _ => (f : Int)) (fun _ => 1) 1 = decide ((f : Int) + 1 ≤ ((s : Int) + 440 - 1).tdiv 440) := rfl
  rw [h4]
  simp only [Bool.false_or, Bool.true_and, Bool.and_true]
  rw [Int.tdiv_eq_ediv_of_nonneg (by omega)]
  by_cases h : (f : Int) * 440 < (s : Int)
  · rw [decide_eq_true h, decide_eq_true (by omega)]
  · rw [decide_eq_false h, decide_eq_false (by omega)]
theorem sizes_fits (s f : Nat) (hs : s ≤ 17600) (hf : f < 40) (XN : Nat → ByteArray) (VN : Nat → Nat) :
    Fits 1 0 0 0 1 s 0 0 ByteArray.empty 0 1 (fun _ => (f : Int)) (fun _ => 30) (fun _ => 1) XN VN :=
  ⟨by omega, by omega, by omega, by omega, by omega, by omega, by decide, by omega, fun i hi => absurd hi (Nat.not_lt_zero _), sizes_ex f hf⟩
end Go.Proofs.Ytebnekpccdcnmaa
