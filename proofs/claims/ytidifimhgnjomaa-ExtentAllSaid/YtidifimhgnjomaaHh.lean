/- The layer extent, plainly: all blocks put, and dropped, in an order. -/
import Derived.Test.YtidifimhgnjomaaHg
namespace Go.Proofs.Ytidifimhgnjomaa
set_option linter.unusedVariables false
set_option linter.unusedSimpArgs false
open Go.RowKit

/-- The homes and 1 more of the blocks of l; 0 of all others. -/
def gT (h : Nat → Int) (l : List Nat) (s : Nat) : Int := if s ∈ l then h s + 1 else 0
/-- Homes of the forty blocks: in bounds, each its own. -/
structure HomeFn (h : Nat → Int) : Prop where
  low : ∀ s, s < 40 → 0 ≤ h s
  high : ∀ s, s < 40 → h s < 256
  inj : ∀ s t, s < 40 → t < 40 → h s = h t → s = t
theorem homeV_fn (sc : Bool) {base : Int} (h0 : 0 ≤ base) (h1 : base < 100) : HomeFn (fun s => homeV sc base (s : Int)) := by
  refine ⟨fun s hs => ?_, fun s hs => ?_, fun s t hs ht he => ?_⟩
  · show 0 ≤ homeV sc base s; unfold homeV; split <;> omega
  · show homeV sc base s < 256; unfold homeV; split <;> omega
  · have he' : homeV sc base s = homeV sc base t := he
    unfold homeV at he'
    split at he' <;> omega
theorem gT_homes {h : Nat → Int} (hh : HomeFn h) {l : List Nat} (hl : ∀ s ∈ l, s < 40) : Homes (gT h l) := by
  refine ⟨fun s => ?_, fun s => ?_, fun s t hs ht h0 he => ?_⟩
  · unfold gT
    by_cases e : s ∈ l
    · rw [if_pos e]; have := hh.low s (hl s e); omega
    · rw [if_neg e]; exact Int.le_refl _
  · unfold gT
    by_cases e : s ∈ l
    · rw [if_pos e]; have := hh.high s (hl s e); omega
    · rw [if_neg e]; omega
  · unfold gT at h0 he
    by_cases e : s ∈ l
    · rw [if_pos e] at he
      by_cases e2 : t ∈ l
      · rw [if_pos e2] at he; exact hh.inj s t hs ht (by omega)
      · rw [if_neg e2] at he; have := hh.low s hs; omega
    · rw [if_neg e] at h0; exact absurd rfl h0
theorem gT_put {h : Nat → Int} {l : List Nat} {b : Nat} : putG (gT h l) b (h b) = gT h (l ++ [b]) := by
  funext s
  unfold putG gT
  by_cases e : s = b
  · subst e; rw [if_pos rfl, if_pos (by simp)]
  · rw [if_neg e]
    by_cases e2 : s ∈ l
    · rw [if_pos e2, if_pos (by simp [e2])]
    · rw [if_neg e2, if_neg (by simp [e2, e])]
theorem gT_drop {h : Nat → Int} {l : List Nat} {b : Nat} (hb : b ∉ l) : dropG (gT h (b :: l)) b ((b : Int) + 1) = gT h l := by
  funext s
  unfold dropG gT
  by_cases e : s = b
  · subst e; rw [if_pos (by omega), if_neg hb]
  · rw [if_neg (by omega)]
    by_cases e2 : s ∈ l
    · rw [if_pos e2, if_pos (by simp [e2])]
    · rw [if_neg e2, if_neg (by simp [e2, e])]
theorem gone_one {g : Nat → Int} {b : Nat} (hb : b < 40) (h : g b ≠ 0) : gone g b ((b : Int) + 1) 40 = [g b - 1] := by
  obtain ⟨k, hk⟩ : ∃ k, 40 = (b + 1) + k := ⟨39 - b, by omega⟩
  rw [hk, gone_same (by omega), gone_take (Int.le_refl _) (by omega) h, gone_none (Int.le_refl _)]
  rfl
theorem gT_nil (h : Nat → Int) : gT h [] = fun _ => 0 := by funext s; unfold gT; simp
theorem gT_all {h : Nat → Int} {l : List Nat} {s : Nat} (hs : s ∈ l) : gT h l s = h s + 1 := by unfold gT; rw [if_pos hs]
theorem gT_out {h : Nat → Int} {l : List Nat} {s : Nat} (hs : s ∉ l) : gT h l s = 0 := by unfold gT; rw [if_neg hs]
theorem cntG_all {g : Nat → Int} {b : Nat} (h : ∀ s, s < b → g s ≠ 0) : cntG g b = b := by
  induction b with
  | zero => rfl
  | succ b ih => unfold cntG; rw [ih fun s hs => h s (by omega), if_neg (h b (by omega))]; omega
theorem bld_far {g : Nat → Int} {base : Int} (h0 : 0 ≤ base) {b : Nat} (h : ∀ s : Nat, s < b → g s = base + 2 * s + 1) : (bld g b).length = b := by
  induction b with
  | zero => rfl
  | succ b ih =>
    have hb := h b (by omega)
    have hj : joins g b = false := by
      cases b with
      | zero => rfl
      | succ b =>
        have hb2 := h b (by omega)
        cases hj : joins g (b + 1) with
        | false => rfl
        | true =>
          obtain ⟨h1, h2⟩ : g b ≠ 0 ∧ g (b + 1) = g b + 1 := by simpa [joins] using hj
          omega
    rw [bld_app (by omega) hj]
    simp [ih fun s hs => h s (by omega)]
theorem bld_near {g : Nat → Int} {base : Int} (h0 : 0 ≤ base) {b : Nat} (h : ∀ s : Nat, s < b + 1 → g s = base + s + 1) : (bld g (b + 1)).length = 1 := by
  induction b with
  | zero =>
    have hb := h 0 (by omega)
    rw [bld_app (by omega) rfl]
    rfl
  | succ b ih =>
    have hb := h b (by omega)
    have hb1 := h (b + 1) (by omega)
    have hj : joins g (b + 1) = true := by
      have : g b ≠ 0 ∧ g (b + 1) = g b + 1 := by omega
      simpa [joins] using this
    rw [bld_bump (by omega) hj, bump_len]
    exact ih fun s hs => h s (by omega)
/-- The length of the list of all forty blocks. -/
theorem bld_all (sc : Bool) {base : Int} (h0 : 0 ≤ base) {l : List Nat} (hl : ∀ s, s < 40 → s ∈ l) : (bld (gT (fun s => homeV sc base (s : Int)) l) 40).length = if sc = true then 40 else 1 := by
  cases sc
  · rw [if_neg (by simp)]
    exact bld_near h0 fun s hs => by rw [gT_all (hl s hs)]; rfl
  · rw [if_pos rfl]
    exact bld_far h0 fun s hs => by rw [gT_all (hl s hs)]; rfl
/-- A list of the forty blocks, each once. -/
structure Blocks (l : List Nat) : Prop where
  low : ∀ s ∈ l, s < 40
  one : l.Nodup
  all : ∀ s, s < 40 → s ∈ l
theorem take_next {l : List Nat} {i b : Nat} (h : l[i]? = some b) : l.take (i + 1) = l.take i ++ [b] := by
  rw [List.take_add_one, h]; rfl
theorem drop_next {l : List Nat} {i b : Nat} (h : l[i]? = some b) : l.drop i = b :: l.drop (i + 1) := by
  obtain ⟨hi, rfl⟩ := List.getElem?_eq_some_iff.1 h
  exact List.drop_eq_getElem_cons hi
theorem not_before {l : List Nat} (hn : l.Nodup) {i b : Nat} (h : l[i]? = some b) : b ∉ l.take i := by
  intro hb
  obtain ⟨j, hj⟩ := List.mem_iff_getElem?.1 hb
  have hji : j < i := by
    rcases Nat.lt_or_ge j i with h | h
    · exact h
    · rw [List.getElem?_take, if_neg (by omega)] at hj; cases hj
  rw [List.getElem?_take, if_pos hji] at hj
  obtain ⟨h1, h2⟩ := List.getElem?_eq_some_iff.1 hj
  obtain ⟨h3, h4⟩ := List.getElem?_eq_some_iff.1 h
  exact (List.pairwise_iff_getElem.1 hn) j i h1 h3 hji (h2.trans h4.symm)
theorem not_after {l : List Nat} (hn : l.Nodup) {i b : Nat} (h : l[i]? = some b) : b ∉ l.drop (i + 1) := by
  intro hb
  obtain ⟨j, hj⟩ := List.mem_iff_getElem?.1 hb
  rw [List.getElem?_drop] at hj
  obtain ⟨h1, h2⟩ := List.getElem?_eq_some_iff.1 hj
  obtain ⟨h3, h4⟩ := List.getElem?_eq_some_iff.1 h
  exact (List.pairwise_iff_getElem.1 hn) i (i + 1 + j) h3 h1 (by omega) (h4.trans h2.symm)
end Go.Proofs.Ytidifimhgnjomaa
