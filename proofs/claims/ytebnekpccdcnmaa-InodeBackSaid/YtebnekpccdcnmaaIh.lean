/- The layer inode, plainly: an inode's payload. -/
import Derived.Test.YtebnekpccdcnmaaIg
namespace Go.Proofs.Ytebnekpccdcnmaa
set_option linter.unusedVariables false
set_option linter.unusedSimpArgs false
open Go.RowKit

/-- The first n lists, one behind the other. -/
def catL (f : Nat → List Int) : Nat → List Int
  | 0 => []
  | n + 1 => catL f n ++ f n
theorem catL_len (f : Nat → List Int) (c : Nat) : ∀ n, (∀ i, i < n → (f i).length = c) → (catL f n).length = n * c
  | 0, _ => by simp [catL]
  | n + 1, h => by
    show (catL f n ++ f n).length = _
    rw [List.length_append, catL_len f c n (fun i hi => h i (by omega)), h n (by omega), Nat.succ_mul]
def fv (k m u g l s : Nat) : Nat → Nat
  | 0 => k | 1 => m | 2 => u | 3 => g | 4 => l | _ => s
def nb : Nat → Nat
  | 0 => 1 | 1 => 2 | 2 => 2 | 3 => 2 | 4 => 1 | _ => 4
def tv (t0 t1 : Nat) : Nat → Nat
  | 0 => t0 | _ => t1
def headL (k m u g l s : Nat) (n : Nat) : List Int := catL (fun i => beB (fv k m u g l s i) (nb i)) n
def timesL (t0 t1 : Nat) (n : Nat) : List Int := catL (fun i => beB (formW (tv t0 t1 i)) 8) n
def xattL (XN : Nat → ByteArray) (VB : Nat → List Int) (n : Nat) : List Int := catL (fun i => textB (XN i) 13 ++ textB (strOfNums (VB i)) 41) n
def extL (F H N : Nat → Int) (n : Nat) : List Int := catL (fun i => [F i, H i, N i]) n
def bodyL (k m u g l s : Nat) (t0 t1 : Nat) (ln : ByteArray) (xn en : Nat) (F H N : Nat → Int) (XN : Nat → ByteArray) (VB : Nat → List Int) : List Int :=
  (((((headL k m u g l s 6 ++ timesL t0 t1 2) ++ textB ln 65) ++ beB xn 1) ++ xattL XN VB xn) ++ beB en 1) ++ extL F H N en
def payL (k m u g l s : Nat) (t0 t1 : Nat) (ln : ByteArray) (xn en : Nat) (F H N : Nat → Int) (XN : Nat → ByteArray) (VB : Nat → List Int) : List Int :=
  bodyL k m u g l s t0 t1 ln xn en F H N XN VB ++ List.replicate (440 - (bodyL k m u g l s t0 t1 ln xn en F H N XN VB).length) 0
theorem head_len (k m u g l s : Nat) : (headL k m u g l s 6).length = 12 := by simp [headL, catL, beB_len, nb]
theorem head_few (k m u g l s n : Nat) (hn : n ≤ 6) : (headL k m u g l s n).length ≤ 12 := by
  match n, hn with
  | 0, _ | 1, _ | 2, _ | 3, _ | 4, _ | 5, _ | 6, _ => simp [headL, catL, beB_len, nb]
theorem times_len (t0 t1 n : Nat) : (timesL t0 t1 n).length = n * 8 := catL_len _ _ _ (fun i _ => beB_len _ _)
theorem ext_len (F H N : Nat → Int) (n : Nat) : (extL F H N n).length = n * 3 := catL_len _ _ _ (fun i _ => rfl)

/-- What a right inode's fields fit in. -/
structure Fits (k m u g l s : Nat) (t0 t1 : Nat) (ln : ByteArray) (xn en : Nat) (F H N : Nat → Int) (XN : Nat → ByteArray) (VN : Nat → Nat) : Prop where
  k3 : k ≤ 3
  m9 : m ≤ 511
  u9 : u ≤ 65535
  g9 : g ≤ 65535
  l9 : l ≤ 12
  s9 : s ≤ 17600
  ln64 : ln.size ≤ 64
  xn4 : xn ≤ 4
  xs : ∀ i, i < xn → (XN i).size ≤ 12 ∧ VN i ≤ 40
  ex : Right en F H N
theorem isE_size (b : ByteArray) (h : b.toList.isEmpty = true) : b.size = 0 := by
  rw [Lib.toList_data] at h
  have : b.data.toList = [] := List.isEmpty_iff.1 h
  have h2 : b.data.toList.length = b.size := rfl
  rw [this] at h2
  exact h2.symm
theorem link_size {k s : Int} {ln : ByteArray} {en : Nat} (h : linkOk k s ln en = true) : ln.size ≤ 64 := by
  unfold linkOk at h
  split at h
  · simp only [Bool.and_eq_true] at h
    have := isE_size ln h.2; omega
  · split at h
    · simp only [Bool.and_eq_true, Bool.not_eq_true', decide_eq_false_iff_not] at h
      have := h.2.1; omega
    · have := isE_size ln h; omega
theorem oneX_fits {nm : ByteArray} {n : Nat} (h : oneX nm n = true) : nm.size ≤ 12 ∧ n ≤ 40 := by
  unfold oneX at h
  simp only [Bool.and_eq_true, decide_eq_true_eq] at h
  omega
theorem right_fits {k m u g l s : Int} {t0 t1 : Nat} {ln : ByteArray} {xn en : Nat} {F H N : Nat → Int} {XN : Nat → ByteArray} {VN : Nat → Nat} (h : rightB k m u g l s t0 t1 ln xn en F H N XN VN = true) :
    ∃ k' m' u' g' l' s' : Nat, k = k' ∧ m = m' ∧ u = u' ∧ g = g' ∧ l = l' ∧ s = s' ∧ Fits k' m' u' g' l' s' t0 t1 ln xn en F H N XN VN := by
  unfold rightB at h
  rcases Bool.or_eq_true _ _ ▸ h with h | h
  · unfold freeB at h
    simp only [Bool.and_eq_true, beq_iff_eq] at h
    obtain ⟨rfl, rfl, rfl, rfl, rfl, rfl, h6, h7, h8, h9, h10⟩ := h
    have e1 := isE_size ln h8
    have e2 : xn = 0 := by omega
    have e3 : en = 0 := by omega
    subst e2 e3
    exact ⟨0, 0, 0, 0, 0, 0, rfl, rfl, rfl, rfl, rfl, rfl, by omega, by omega, by omega, by omega, by omega, by omega, by omega, by omega, fun i hi => absurd hi (Nat.not_lt_zero _), by omega, RightP.zero F H N⟩
  · simp only [Bool.and_eq_true] at h
    obtain ⟨⟨⟨hg, _⟩, _⟩, ⟨⟨hl, hr, _⟩, hx⟩⟩ := h
    unfold goodB at hg
    simp only [Bool.and_eq_true, decide_eq_true_eq] at hg
    obtain ⟨g1, g2, ⟨g3, g4⟩, ⟨g5, g6⟩, ⟨g7, g8⟩, ⟨g9, g10⟩, ⟨g11, g12⟩⟩ := hg
    have hR : Right en F H N := by
      by_cases q : Right en F H N
      · exact q
      · rw [rgt_bad q] at hr; cases hr
    have hX : xn ≤ 4 ∧ XGood xn XN VN := by
      by_cases q : xn ≤ 4 ∧ XGood xn XN VN
      · exact q
      · rw [xrgt_bad q] at hx; cases hx
    exact ⟨k.toNat, m.toNat, u.toNat, g.toNat, l.toNat, s.toNat, by omega, by omega, by omega, by omega, by omega, by omega, by omega, by omega, by omega, by omega, by omega, by omega, link_size hl, hX.1, fun i hi => oneX_fits (hX.2 i hi).1, hR⟩
/-- A number fits in its bytes. -/
theorem fits_in (v m : Nat) (hm : m ≤ 8) (h : v < 2 ^ (8 * m)) : Hid (m = 8 ∨ ((v : Int) / 2 ^ (8 * m) != 0) = false) := by
  refine Or.inr ?_
  have h2 : (v : Int) / 2 ^ (8 * m) = 0 := by
    have e : ((2 : Int) ^ (8 * m)) = ((2 ^ (8 * m) : Nat) : Int) := by simp
    rw [e, ← Int.natCast_ediv, Nat.div_eq_of_lt h]; rfl
  rw [h2]; rfl
end Go.Proofs.Ytebnekpccdcnmaa
