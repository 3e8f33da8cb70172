/- AllocGoal. -/
import Derived.Test.YteonlidamonbgaaAg
namespace Go.Proofs.Yteonlidamonbgaa
set_option linter.unusedVariables false
set_option linter.unusedSimpArgs false
open Go.ChangeShapes Go.WideShapes Go.ChangeAt Go.RowKit Fl

theorem FstIs.place {f : Nat → Bool} {lo hi : Nat} {r : Int} (h : FstIs f lo hi r) (hr : r ≠ -1) : ∃ t : Nat, r = t ∧ lo ≤ t ∧ t < hi ∧ f t = true := by
  rcases h with ⟨e, _⟩ | ⟨j, e, h1, h2, h3, _⟩
  · exact absurd e hr
  · exact ⟨j, e, h1, h2, h3⟩
theorem grp_hi {n g : Nat} (h : 8 * g < n) : 8 * g + gsz n g ≤ n ∧ 8 * g + gsz n g ≤ 8 * g + 8 := by unfold gsz; omega

/-- What Pick says: it is full, or a free place. -/
theorem PickIs.full {f : Nat → Bool} {n : Nat} {goal r d : Int} (h : PickIs f n goal r d) (hd : d ≠ 0) : d = 5 ∧ cntTo f 0 n = 0 := by
  obtain ⟨p, h1, h2⟩ := h
  rcases h2 with ⟨_, _, rfl⟩ | ⟨_, b, h3, h4⟩
  · exact absurd rfl hd
  · rcases h4 with ⟨rfl, _, rfl⟩ | ⟨_, _, rfl⟩
    · refine ⟨rfl, ?_⟩
      rcases h3 with ⟨_, h3⟩ | ⟨bb, h3⟩
      · exact groups_all h3
      · exact absurd rfl h3.some
    · exact absurd rfl hd
theorem BestAt.place {f : Nat → Bool} {n b : Nat} {r : Int} (h : BestAt f n ((n + 7) / 8) b r) : ∃ t : Nat, r = t ∧ t < n ∧ f t = true ∧ t / 8 = b := by
  obtain ⟨t, e, h1, h2, h3⟩ := h.fst.place h.some
  have hb : 8 * b < n := by have := h.lt; omega
  have := grp_hi hb
  exact ⟨t, e, by omega, h3, by omega⟩
theorem PickIs.place {f : Nat → Bool} {n : Nat} {goal r d : Int} (h : PickIs f n goal r d) (hd : d = 0) : ∃ t : Nat, r = t ∧ t < n ∧ f t = true := by
  obtain ⟨p, h1, h2⟩ := h
  rcases h2 with ⟨hp, rfl, _⟩ | ⟨_, b, h3, h4⟩
  · rcases h1 with ⟨_, e⟩ | ⟨j, _, hj, q, k1, k2⟩
    · omega
    · have hb : 8 * (j / 8) < n := by omega
      have := grp_hi hb
      rcases k2 with ⟨k, rfl⟩ | ⟨_, k⟩
      · obtain ⟨t, e, e1, e2, e3⟩ := k1.place k
        exact ⟨t, e, by omega, e3⟩
      · obtain ⟨t, e, e1, e2, e3⟩ := k.place (by omega)
        exact ⟨t, e, by omega, e3⟩
  · rcases h4 with ⟨_, _, rfl⟩ | ⟨hb, rfl, _⟩
    · exact absurd hd (by decide)
    · rcases h3 with ⟨e, _⟩ | ⟨bb, h3⟩
      · omega
      · obtain ⟨t, e, e1, e2, _⟩ := h3.place
        exact ⟨t, e, e1, e2⟩
theorem PickIs.near {f : Nat → Bool} {n j t : Nat} {d : Int} (h : PickIs f n j t d) (hd : d = 0) (hj : j < n) : t / 8 = j / 8 ↔ 0 < nn f n (j / 8) := by
  obtain ⟨p, h1, h2⟩ := h
  have hb : 8 * (j / 8) < n := by omega
  have hg := grp_hi hb
  rcases h1 with ⟨e, _⟩ | ⟨i, ei, _, q, k1, k2⟩
  · omega
  obtain rfl : j = i := by omega
  rcases h2 with ⟨hp, e, _⟩ | ⟨hp, b, h3, h4⟩
  · have hpl : ∃ s : Nat, p = s ∧ 8 * (j / 8) ≤ s ∧ s < 8 * (j / 8) + gsz n (j / 8) ∧ f s = true := by
      rcases k2 with ⟨k, e⟩ | ⟨_, k⟩
      · obtain ⟨s, e', e1, e2, e3⟩ := k1.place k
        exact ⟨s, by rw [e]; exact e', by omega, e2, e3⟩
      · exact k.place (by omega)
    obtain ⟨s, e1, e2, e3, e4⟩ := hpl
    constructor
    · intro _
      rcases Nat.eq_zero_or_pos (nn f n (j / 8)) with z | z
      · unfold nn at z; rw [cntTo_zero] at z; rw [z s e2 e3] at e4; cases e4
      · exact z
    · intro _; omega
  · have hz : nn f n (j / 8) = 0 := by
      rcases k2 with ⟨k, e⟩ | ⟨_, k⟩
      · exact absurd (e.symm.trans hp) k
      · exact (hp ▸ k).none_iff.1 rfl
    constructor
    · intro ht
      rcases h4 with ⟨_, _, rfl⟩ | ⟨hb', e, _⟩
      · exact absurd hd (by decide)
      · rcases h3 with ⟨e', _⟩ | ⟨bb, h3⟩
        · omega
        · obtain ⟨s, es, _, _, e2⟩ := h3.place
          obtain rfl : t = s := by omega
          have := h3.free
          rw [← e2, ht] at this
          omega
    · intro h0; omega
theorem PickIs.best {f : Nat → Bool} {n : Nat} {r d : Int} (h : PickIs f n (-1) r d) (hd : d = 0) : ∃ bb, BestAt f n ((n + 7) / 8) bb r := by
  obtain ⟨p, h1, h2⟩ := h
  rcases h1 with ⟨_, rfl⟩ | ⟨i, ei, _⟩
  · rcases h2 with ⟨hp, _⟩ | ⟨_, b, h3, h4⟩
    · omega
    · rcases h4 with ⟨_, _, rfl⟩ | ⟨hb', rfl, _⟩
      · exact absurd hd (by decide)
      · rcases h3 with ⟨e', _⟩ | ⟨bb, h3⟩
        · omega
        · exact ⟨bb, h3⟩
  · omega
theorem PickIs.goal {f : Nat → Bool} {n j : Nat} {r d : Int} (h : PickIs f n j r d) (hj : j < n) (hf : f j = true) : r = j ∧ d = 0 := by
  have hm : j < 8 * (j / 8) + gsz n (j / 8) := by unfold gsz; omega
  have k : PickIs f n j j 0 := ⟨j, Or.inr ⟨j, rfl, hj, j, Or.inr ⟨j, rfl, Nat.le_refl _, hm, hf, fun t h1 h2 => by omega⟩, Or.inl ⟨by omega, rfl⟩⟩, Or.inl ⟨by omega, rfl, rfl⟩⟩
  exact h.one k
theorem top_score {f : Nat → Bool} {n b g : Nat} {r : Int} (h : BestAt f n ((n + 7) / 8) b r) (hg : 8 * g < n) : (FloatKind.f64.format.order (scoreG f n g) (scoreG f n b) == some .gt) = false := by
  have hb : 8 * b < n := by have := h.lt; omega
  rw [gt_eq _ _ (score_nan hg) (score_nan hb), decide_eq_false]
  rw [score_gt hg hb]
  rcases Nat.eq_zero_or_pos (nn f n g) with z | z
  · unfold gt; rw [z, Nat.zero_mul]; omega
  · exact h.top g (by omega) z
end Go.Proofs.Yteonlidamonbgaa
