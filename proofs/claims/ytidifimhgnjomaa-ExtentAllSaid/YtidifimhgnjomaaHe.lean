/- The layer extent, plainly: lists that were built of homes. -/
import Derived.Test.YtidifimhgnjomaaHd
namespace Go.Proofs.Ytidifimhgnjomaa
set_option linter.unusedVariables false
set_option linter.unusedSimpArgs false
open Go.RowKit

theorem joins_congr {g g' : Nat → Int} {b : Nat} (h : ∀ s, s < b + 1 → g s = g' s) : joins g b = joins g' b := by
  cases b with
  | zero => rfl
  | succ b => show (g b != 0 && g (b + 1) == g b + 1) = (g' b != 0 && g' (b + 1) == g' b + 1); rw [h b (by omega), h (b + 1) (by omega)]
theorem bld_congr {g g' : Nat → Int} {b : Nat} (h : ∀ s, s < b → g s = g' s) : bld g b = bld g' b := by
  induction b with
  | zero => rfl
  | succ b ih => unfold bld; rw [ih fun s hs => h s (by omega), h b (by omega), joins_congr h]
theorem gone_congr {g g' : Nat → Int} {f t : Int} {b : Nat} (h : ∀ s, s < b → g s = g' s) : gone g f t b = gone g' f t b := by
  induction b with
  | zero => rfl
  | succ b ih => unfold gone; rw [ih fun s hs => h s (by omega), h b (by omega)]

theorem chk_bld {g : Nat → Int} (hg : Homes g) : chk (bld g 40).length (eF (bld g 40)) (eH (bld g 40)) (eN (bld g 40)) = 0 := chk_good (bld_right hg)
theorem cnt_bld {g : Nat → Int} (hg : Homes g) : cntE (bld g 40).length (eF (bld g 40)) (eH (bld g 40)) (eN (bld g 40)) = cntG g 40 := by
  unfold cntE
  rw [if_pos (bld_right hg), bld_sum g hg.low]
theorem find_bld {g : Nat → Int} (hg : Homes g) {b : Nat} (hb : b < 40) : findV (bld g 40).length (eF (bld g 40)) (eH (bld g 40)) (eN (bld g 40)) b = if g b = 0 then (0, 4) else (g b - 1, 0) := by
  unfold findV
  rw [if_pos (bld_right hg), if_pos (by omega), bld_hm hg b hb]
/-- One block more. -/
def putG (g : Nat → Int) (b : Nat) (x : Int) (s : Nat) : Int := if s = b then x + 1 else g s
/-- Blocks fewer. -/
def dropG (g : Nat → Int) (f t : Int) (s : Nat) : Int := if f ≤ (s : Int) ∧ (s : Int) < t then 0 else g s
theorem put_bld {g : Nat → Int} (hg : Homes g) {b : Nat} {x : Int} (hb : b < 40) (hx0 : 0 ≤ x) (hx1 : x < 256) (h1 : g b = 0) (h2 : ∀ s, s < 40 → g s ≠ x + 1) :
    putV (bld g 40).length (eF (bld g 40)) (eH (bld g 40)) (eN (bld g 40)) b x = (bld (putG g b x) 40, 0) := by
  unfold putV
  rw [if_pos (bld_right hg), if_pos ⟨by omega, hx0, hx1⟩, if_neg, bld_congr (g' := putG g b x)]
  · intro s hs
    unfold putG
    by_cases e : s = b
    · rw [if_pos e, if_pos (by omega)]
    · rw [if_neg e, if_neg (by omega), bld_hm hg s hs]
  · rintro (h | ⟨s, hs, h⟩)
    · rw [bld_hm hg b hb] at h; exact h h1
    · rw [bld_hm hg s hs] at h; exact h2 s hs h
theorem put_bad {g : Nat → Int} (hg : Homes g) {b x : Int} (h : ¬ ∃ c : Nat, b = (c : Int) ∧ c < 40 ∧ 0 ≤ x ∧ x < 256 ∧ g c = 0 ∧ ∀ s, s < 40 → g s ≠ x + 1) :
    ∃ e, e ≠ 0 ∧ putV (bld g 40).length (eF (bld g 40)) (eH (bld g 40)) (eN (bld g 40)) b x = ([], e) := by
  unfold putV
  rw [if_pos (bld_right hg)]
  by_cases h1 : (0 ≤ b ∧ b < 40) ∧ (0 ≤ x ∧ x < 256)
  · rw [if_pos h1]
    obtain ⟨c, hc⟩ := Int.eq_ofNat_of_zero_le h1.1.1
    refine ⟨17, by decide, if_pos (Classical.byContradiction fun hn => h ⟨c, hc, by omega, h1.2.1, h1.2.2, ?_, ?_⟩)⟩
    · refine Classical.byContradiction fun h0 => hn (Or.inl ?_)
      rw [hc, bld_hm hg c (by omega)]; exact h0
    · intro s hs he
      exact hn (Or.inr ⟨s, hs, by rw [bld_hm hg s hs]; exact he⟩)
  · rw [if_neg h1]
    exact ⟨2, by decide, rfl⟩
theorem drop_bld {g : Nat → Int} (hg : Homes g) {f t : Int} (hf : 0 ≤ f) (ht : f ≤ t) :
    dropV (bld g 40).length (eF (bld g 40)) (eH (bld g 40)) (eN (bld g 40)) f t = (bld (dropG g f t) 40, gone g f t 40, 0) := by
  unfold dropV
  rw [if_pos (bld_right hg), if_pos ⟨hf, ht⟩, bld_congr (g' := dropG g f t), gone_congr (g' := g)]
  · intro s hs; exact bld_hm hg s hs
  · intro s hs
    show (if f ≤ (s : Int) ∧ (s : Int) < t then 0 else _) = _
    unfold dropG
    rw [bld_hm hg s hs]
theorem drop_bad {g : Nat → Int} (hg : Homes g) {f t : Int} (h : ¬ (0 ≤ f ∧ f ≤ t)) :
    dropV (bld g 40).length (eF (bld g 40)) (eH (bld g 40)) (eN (bld g 40)) f t = ([], [], 2) := by
  unfold dropV
  rw [if_pos (bld_right hg), if_neg h]
theorem Homes.put {g : Nat → Int} (hg : Homes g) {b : Nat} {x : Int} (hx0 : 0 ≤ x) (hx1 : x < 256) (h2 : ∀ s, s < 40 → g s ≠ x + 1) : Homes (putG g b x) := by
  refine ⟨fun s => ?_, fun s => ?_, fun s t hs ht h0 he => ?_⟩
  · have := hg.low s; unfold putG; split <;> omega
  · have := hg.high s; unfold putG; split <;> omega
  · unfold putG at h0 he
    by_cases e1 : s = b
    · by_cases e2 : t = b
      · rw [e1, e2]
      · rw [if_pos e1, if_neg e2] at he; exact absurd he.symm (h2 t ht)
    · by_cases e2 : t = b
      · rw [if_neg e1, if_pos e2] at he; exact absurd he (h2 s hs)
      · rw [if_neg e1, if_neg e2] at he; rw [if_neg e1] at h0; exact hg.apart s t hs ht h0 he
theorem Homes.drop {g : Nat → Int} (hg : Homes g) (f t : Int) : Homes (dropG g f t) := by
  refine ⟨fun s => ?_, fun s => ?_, fun s u hs hu h0 he => ?_⟩
  · have := hg.low s; unfold dropG; split <;> omega
  · have := hg.high s; unfold dropG; split <;> omega
  · unfold dropG at h0 he
    by_cases e1 : f ≤ (s : Int) ∧ (s : Int) < t
    · rw [if_pos e1] at h0; exact absurd rfl h0
    · rw [if_neg e1] at h0 he
      by_cases e2 : f ≤ (u : Int) ∧ (u : Int) < t
      · rw [if_pos e2] at he; exact absurd he h0
      · rw [if_neg e2] at he; exact hg.apart s u hs hu h0 he
/-- A list, as far as the walks see it, that was built of the homes g. -/
def Built (g : Nat → Int) (m : Nat) (F H N : Nat → Int) : Prop := m = (bld g 40).length ∧ F = eF (bld g 40) ∧ H = eH (bld g 40) ∧ N = eN (bld g 40)
theorem ExL.built {w : World} {v : Value} {g : Nat → Int} (h : ExL w v (bld g 40)) : ∃ a c L m F H N, v = .slice a m c ∧ ExAt w L 0 a m c F H N ∧ Built g m F H N := by
  obtain ⟨a, c, L, h1, h2, _⟩ := h
  exact ⟨a, c, L, _, _, _, _, h1, h2, rfl, rfl, rfl, rfl⟩
theorem Built.chk {g : Nat → Int} {m : Nat} {F H N : Nat → Int} (h : Built g m F H N) (hg : Homes g) : chk m F H N = 0 := by
  obtain ⟨rfl, rfl, rfl, rfl⟩ := h; exact chk_bld hg
theorem Built.cnt {g : Nat → Int} {m : Nat} {F H N : Nat → Int} (h : Built g m F H N) (hg : Homes g) : cntE m F H N = cntG g 40 := by
  obtain ⟨rfl, rfl, rfl, rfl⟩ := h; exact cnt_bld hg
theorem Built.find {g : Nat → Int} {m : Nat} {F H N : Nat → Int} (h : Built g m F H N) (hg : Homes g) {b : Nat} (hb : b < 40) : findV m F H N b = if g b = 0 then (0, 4) else (g b - 1, 0) := by
  obtain ⟨rfl, rfl, rfl, rfl⟩ := h; exact find_bld hg hb
theorem Built.put {g : Nat → Int} {m : Nat} {F H N : Nat → Int} (h : Built g m F H N) (hg : Homes g) {b : Nat} {x : Int} (hb : b < 40) (hx0 : 0 ≤ x) (hx1 : x < 256) (h1 : g b = 0) (h2 : ∀ s, s < 40 → g s ≠ x + 1) :
    putV m F H N b x = (bld (putG g b x) 40, 0) := by
  obtain ⟨rfl, rfl, rfl, rfl⟩ := h; exact put_bld hg hb hx0 hx1 h1 h2
theorem Built.noPut {g : Nat → Int} {m : Nat} {F H N : Nat → Int} (h : Built g m F H N) (hg : Homes g) {b x : Int} (hn : ¬ ∃ c : Nat, b = (c : Int) ∧ c < 40 ∧ 0 ≤ x ∧ x < 256 ∧ g c = 0 ∧ ∀ s, s < 40 → g s ≠ x + 1) :
    ∃ e, e ≠ 0 ∧ putV m F H N b x = ([], e) := by
  obtain ⟨rfl, rfl, rfl, rfl⟩ := h; exact put_bad hg hn
theorem Built.drop {g : Nat → Int} {m : Nat} {F H N : Nat → Int} (h : Built g m F H N) (hg : Homes g) {f t : Int} (hf : 0 ≤ f) (ht : f ≤ t) :
    dropV m F H N f t = (bld (dropG g f t) 40, gone g f t 40, 0) := by
  obtain ⟨rfl, rfl, rfl, rfl⟩ := h; exact drop_bld hg hf ht
theorem Built.noDrop {g : Nat → Int} {m : Nat} {F H N : Nat → Int} (h : Built g m F H N) (hg : Homes g) {f t : Int} (hn : ¬ (0 ≤ f ∧ f ≤ t)) : dropV m F H N f t = ([], [], 2) := by
  obtain ⟨rfl, rfl, rfl, rfl⟩ := h; exact drop_bad hg hn
theorem Homes.none : Homes (fun _ => 0) := ⟨fun _ => Int.le_refl _, fun _ => by omega, fun s t hs ht h0 => absurd rfl h0⟩
theorem bld_none (b : Nat) : bld (fun _ => 0) b = [] := by
  induction b with
  | zero => rfl
  | succ b ih => unfold bld; rw [if_pos rfl, ih]
theorem cntG_bd (g : Nat → Int) (b : Nat) : 0 ≤ cntG g b ∧ cntG g b ≤ b := by
  induction b with
  | zero => exact ⟨Int.le_refl _, Int.le_refl _⟩
  | succ b ih => unfold cntG; split <;> omega
end Go.Proofs.Ytidifimhgnjomaa
