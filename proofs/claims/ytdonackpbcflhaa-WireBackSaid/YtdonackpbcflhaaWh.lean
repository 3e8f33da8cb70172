/- Plain: what is written is read back. -/
import Derived.Test.YtdonackpbcflhaaWf
namespace Go.Proofs.Ytdonackpbcflhaa
set_option linter.unusedVariables false
set_option linter.unusedSimpArgs false
open Go.RowKit

theorem badT_app (a b : List Int) (n : Int) (h : n = a.length) : badT (a ++ b) false n = false := by
  unfold badT
  rw [decide_eq_false (by omega), decide_eq_false (by rw [List.length_append]; omega)]; rfl
theorem gotT_app (a b : List Int) (n : Int) (h : n = a.length) : gotT (a ++ b) false n = a := by
  unfold gotT
  rw [badT_app a b n h, if_neg (by simp), h, Int.toNat_natCast, List.take_left']
  rfl
theorem restT_app (a b : List Int) (n : Int) (h : n = a.length) : restT (a ++ b) false n = b := by
  unfold restT
  rw [badT_app a b n h, if_neg (by simp), h, Int.toNat_natCast, List.drop_left']
  rfl

theorem beB_succ (v n : Nat) : beB v (n + 1) = beB (v / 256) n ++ [((v % 256 : Nat) : Int)] := by
  unfold beB
  rw [List.range_succ, List.map_append]
  congr 1
  · refine List.map_congr_left fun i hi => ?_
    have hi' : i < n := List.mem_range.1 hi
    have e : n + 1 - 1 - i = (n - 1 - i) + 1 := by omega
    rw [e, Nat.pow_succ, Nat.mul_comm, Nat.div_div_eq_div_mul]
  · simp
theorem foldB_beB (n : Nat) : ∀ v : Nat, v < 256 ^ n → foldB (beB v n) = (v : Int) := by
  induction n with
  | zero => intro v hv; have : v = 0 := by simpa using hv
            subst this; rfl
  | succ n ih =>
    intro v hv
    rw [beB_succ, foldB_snoc, ih (v / 256) (by rw [Nat.pow_succ] at hv; exact Nat.div_lt_of_lt_mul (by rw [Nat.mul_comm]; exact hv))]
    omega
theorem numV_back (v : Nat) (b : List Int) (h : v < 18446744073709551616) : numV (beB v 8 ++ b) false 8 = (v : Int) ∧ restT (beB v 8 ++ b) (badN false 8) 8 = b ∧ badT (beB v 8 ++ b) (badN false 8) 8 = false := by
  have e : badN false 8 = false := by decide
  unfold numV
  rw [e, gotT_app _ _ _ (by rw [beB_len]; rfl), restT_app _ _ _ (by rw [beB_len]; rfl), badT_app _ _ _ (by rw [beB_len]; rfl)]
  exact ⟨foldB_beB 8 v h, rfl, rfl⟩

theorem strOf_strB (s : ByteArray) : strOfNums (strB s) = s := by
  unfold strOfNums strB
  rw [List.map_map]
  have : (fun n : Int => UInt8.ofNat n.toNat) ∘ (fun b : UInt8 => (b.toNat : Int)) = id := by
    funext b; simp
  rw [this, List.map_id]
theorem textB_just (s : ByteArray) : textB s (1 + s.size) = (s.size : Int) :: strB s := by
  unfold textB
  rw [show 1 + s.size - 1 - s.size = 0 by omega]; simp
theorem textV_back (s : ByteArray) (b : List Int) (n : Int) (hn : n = 1 + s.size) :
    textV (textB s (1 + s.size) ++ b) false n = s ∧ restT (textB s (1 + s.size) ++ b) (badX false n) n = b ∧ textBad (textB s (1 + s.size) ++ b) false n = false := by
  have e : badX false n = false := by unfold badX; rw [decide_eq_false (by omega)]; rfl
  have hl : n = ((textB s (1 + s.size)).length : Nat) := by rw [textB_len s _ (by omega)]; omega
  have hN : noText (textB s (1 + s.size)) n = false := by
    unfold noText
    rw [textB_just]
    have h1 : decide (n - 1 < ((s.size : Int) :: strB s).getD 0 0) = false := decide_eq_false (by simp; omega)
    have h2 : ((s.size : Int) :: strB s).drop (1 + (((s.size : Int) :: strB s).getD 0 0).toNat) = [] := by
      refine List.drop_eq_nil_of_le ?_
      simp [strB_len]; omega
    rw [h1, h2]; rfl
  unfold textV textBad
  rw [e, gotT_app _ _ _ hl, restT_app _ _ _ hl, badT_app _ _ _ hl, hN]
  refine ⟨?_, rfl, by simp⟩
  have h3 : (textB s (1 + s.size)).isEmpty = false := by rw [textB_just]; rfl
  rw [h3, if_neg (by simp), textB_just]
  have h4 : (((s.size : Int) :: strB s).take (1 + (((s.size : Int) :: strB s).getD 0 0).toNat)).drop 1 = strB s := by
    rw [List.take_of_length_le (by simp [strB_len]; omega)]; rfl
  rw [h4, strOf_strB]

/-- All that is written: of the first k numbers; and of the first k texts behind them. -/
def NL (ns : Nat → Nat) (k : Nat) : List Int := (List.range k).flatMap fun j => beB (ns j) 8
def TL (ts : Nat → ByteArray) (k : Nat) : List Int := (List.range k).flatMap fun j => textB (ts j) (1 + (ts j).size)
theorem NL_succ (ns : Nat → Nat) (k : Nat) : NL ns (k + 1) = NL ns k ++ beB (ns k) 8 := by simp [NL, List.range_succ]
theorem TL_succ (ts : Nat → ByteArray) (k : Nat) : TL ts (k + 1) = TL ts k ++ textB (ts k) (1 + (ts k).size) := by simp [TL, List.range_succ]
theorem NL_len (ns : Nat → Nat) (k : Nat) : (NL ns k).length = 8 * k := by
  induction k with
  | zero => rfl
  | succ k ih => rw [NL_succ, List.length_append, ih, beB_len]; omega
theorem TL_len (ts : Nat → ByteArray) (k : Nat) (h : ∀ j, j < k → (ts j).size ≤ 255) : (TL ts k).length ≤ 256 * k := by
  induction k with
  | zero => exact Nat.zero_le _
  | succ k ih =>
    have := ih fun j hj => h j (by omega)
    have h2 := h k (by omega)
    rw [TL_succ, List.length_append, textB_len _ _ (by omega)]; omega
theorem NL_range (ns : Nat → Nat) (k : Nat) : ∀ x ∈ NL ns k, 0 ≤ x ∧ x < 256 := by
  intro x hx
  simp only [NL, List.mem_flatMap] at hx
  obtain ⟨j, _, hx⟩ := hx
  exact beB_range _ _ x hx
theorem TL_range (ts : Nat → ByteArray) (k : Nat) (h : ∀ j, j < k → (ts j).size ≤ 255) : ∀ x ∈ TL ts k, 0 ≤ x ∧ x < 256 := by
  intro x hx
  simp only [TL, List.mem_flatMap, List.mem_range] at hx
  obtain ⟨j, hj, hx⟩ := hx
  exact textB_range _ _ (by have := h j hj; omega) x hx
/-- What is left behind the first k of K. -/
def NR (ns : Nat → Nat) (k K : Nat) : List Int := (NL ns K).drop (8 * k)
def TR (ts : Nat → ByteArray) (k K : Nat) : List Int := (TL ts K).drop (TL ts k).length
theorem NR_step (ns : Nat → Nat) (k K : Nat) (h : k < K) : NR ns k K = beB (ns k) 8 ++ NR ns (k + 1) K := by
  induction K with
  | zero => omega
  | succ K ih =>
    unfold NR at *
    have hl := NL_len ns K
    rw [NL_succ]
    by_cases e : k = K
    · subst e
      rw [List.drop_append_of_le_length (by omega), List.drop_eq_nil_of_le (by omega), List.drop_eq_nil_of_le (by rw [List.length_append, beB_len]; omega)]
      simp
    · rw [List.drop_append_of_le_length (by omega), List.drop_append_of_le_length (by omega), ih (by omega), List.append_assoc]
theorem TL_mono (ts : Nat → ByteArray) (k K : Nat) (h : k ≤ K) : (TL ts k).length ≤ (TL ts K).length := by
  induction K with
  | zero => have : k = 0 := by omega
            subst this; exact Nat.le_refl _
  | succ K ih =>
    by_cases e : k = K + 1
    · subst e; exact Nat.le_refl _
    · rw [TL_succ, List.length_append]; have := ih (by omega); omega
theorem TR_step (ts : Nat → ByteArray) (k K : Nat) (h : k < K) : TR ts k K = textB (ts k) (1 + (ts k).size) ++ TR ts (k + 1) K := by
  induction K with
  | zero => omega
  | succ K ih =>
    unfold TR at *
    rw [TL_succ ts K]
    by_cases e : k = K
    · subst e
      rw [List.drop_append_of_le_length (Nat.le_refl _), List.drop_eq_nil_of_le (Nat.le_refl _), List.drop_eq_nil_of_le (by rw [TL_succ]; exact Nat.le_refl _)]
      simp
    · have h1 := TL_mono ts k K (by omega)
      have h2 := TL_mono ts (k + 1) K (by omega)
      rw [List.drop_append_of_le_length h1, List.drop_append_of_le_length h2, ih (by omega), List.append_assoc]
theorem NR_zero (ns : Nat → Nat) (K : Nat) : NR ns 0 K = NL ns K := rfl
theorem NR_end (ns : Nat → Nat) (K : Nat) : NR ns K K = [] := List.drop_eq_nil_of_le (by rw [NL_len]; exact Nat.le_refl _)
theorem TR_zero (ts : Nat → ByteArray) (K : Nat) : TR ts 0 K = TL ts K := rfl
theorem TR_end (ts : Nat → ByteArray) (K : Nat) : TR ts K K = [] := List.drop_eq_nil_of_le (Nat.le_refl _)

/-- How far the texts go. -/
theorem stopAt (ts : Nat → ByteArray) (l : Nat) : ∃ K, K ≤ l ∧ K ≤ 50 ∧ (∀ j, j < K → (ts j).size ≤ 255) ∧ (K = l ∨ (K < l ∧ (50 ≤ K ∨ 255 < (ts K).size))) := by
  induction l with
  | zero => exact ⟨0, Nat.le_refl _, by omega, by simp, Or.inl rfl⟩
  | succ l ih =>
    obtain ⟨K, h1, h2, h3, h4⟩ := ih
    rcases h4 with rfl | ⟨h4, h5⟩
    · by_cases h : 50 ≤ K ∨ 255 < (ts K).size
      · exact ⟨K, by omega, h2, h3, Or.inr ⟨by omega, h⟩⟩
      · refine ⟨K + 1, Nat.le_refl _, by omega, fun j hj => ?_, Or.inl rfl⟩
        by_cases e : j = K
        · subst e; omega
        · exact h3 j (by omega)
    · exact ⟨K, by omega, h2, h3, Or.inr ⟨by omega, h5⟩⟩
end Go.Proofs.Ytdonackpbcflhaa
