/- The layer path, plainly: pieces put together with slashes. -/
import Derived.Test.YtgmkpdoejehgdaaDoorPe
namespace Go.Proofs.YtgmkpdoejehgdaaDoor
set_option linter.unusedVariables false
set_option linter.unusedSimpArgs false
open Go.RowKit

/-- What is put together so far: it is cut into the pieces that were wanted. -/
structure Joined (l : List UInt8) (want : List (List UInt8)) : Prop where
  first : l.headD 0 = 47
  last : ∃ a, l = a ++ [47]
  zero : (0 : UInt8) ∉ l
  good : (cutL l).filter (fun p => !p.isEmpty) = want
  few : ∀ p ∈ cutL l, p.length ≤ 24
theorem Joined.start : Joined [47] [] := ⟨rfl, ⟨[], rfl⟩, by decide, by decide, by decide⟩
theorem cut_end (a m : List UInt8) : cutL ((a ++ [47]) ++ m) = cutL a ++ cutL m := by
  rw [List.append_assoc]
  exact cut_at a m
theorem cut_slash (a : List UInt8) : cutL (a ++ [47]) = cutL a ++ [[]] := cut_at a []
theorem cut_slashes : ∀ k : Nat, ∀ p ∈ cutL (List.replicate k 47), p = []
  | 0, p, h => by
    have e : cutL (List.replicate 0 47) = [[]] := rfl
    rw [e] at h
    simpa using h
  | k + 1, p, h => by
    have e : cutL (List.replicate (k + 1) 47) = cutL [] ++ cutL (List.replicate k 47) := cut_at [] _
    rw [e] at h
    rcases List.mem_append.1 h with h | h
    · have e0 : cutL [] = [[]] := rfl
      rw [e0] at h
      simpa using h
    · exact cut_slashes k p h
theorem cut_more (k : Nat) {p : List UInt8} (hp : (47 : UInt8) ∉ p) : ∃ es : List (List UInt8), (∀ x ∈ es, x = []) ∧ cutL (List.replicate k 47 ++ p ++ [47]) = es ++ [p, []] := by
  cases k with
  | zero =>
    refine ⟨[], by simp, ?_⟩
    show cutL (p ++ [47]) = [p, []]
    rw [cut_slash, cut_plain hp]
    rfl
  | succ k =>
    refine ⟨cutL (List.replicate k 47), cut_slashes k, ?_⟩
    have e : List.replicate (k + 1) (47 : UInt8) ++ p ++ [47] = (List.replicate k 47 ++ [47]) ++ (p ++ [47]) := by
      rw [List.replicate_succ']; simp
    rw [e, cut_end, cut_slash, cut_plain hp]
    rfl
/-- A piece more. -/
theorem Joined.more {l : List UInt8} {want : List (List UInt8)} (h : Joined l want) (k : Nat) {p : List UInt8} (hp0 : p ≠ []) (hp24 : p.length ≤ 24) (h47 : (47 : UInt8) ∉ p) (hz : (0 : UInt8) ∉ p) :
    Joined (l ++ (List.replicate k 47 ++ p ++ [47])) (want ++ [p]) := by
  obtain ⟨a, ha⟩ := h.last
  obtain ⟨es, he, hc⟩ := cut_more k h47
  have hcut : cutL (l ++ (List.replicate k 47 ++ p ++ [47])) = cutL a ++ (es ++ [p, []]) := by rw [ha, cut_end, hc]
  have hca : cutL l = cutL a ++ [[]] := by rw [ha]; exact cut_slash a
  have hfe : es.filter (fun p => !p.isEmpty) = [] := by
    rw [List.filter_eq_nil_iff]
    intro x hx
    rw [he x hx]; simp
  have hpe : p.isEmpty = false := by cases p; exact absurd rfl hp0; rfl
  refine ⟨?_, ⟨l ++ (List.replicate k 47 ++ p), by simp⟩, ?_, ?_, ?_⟩
  · have := h.first
    cases l with
    | nil => exact absurd this (by decide)
    | cons b l => exact this
  · intro hm
    rcases List.mem_append.1 hm with hm | hm
    · exact h.zero hm
    · rcases List.mem_append.1 hm with hm | hm
      · rcases List.mem_append.1 hm with hm | hm
        · have := List.eq_of_mem_replicate hm
          exact absurd this (by decide)
        · exact hz hm
      · simp at hm
  · have hw := h.good
    rw [hca, List.filter_append] at hw
    have e0 : ([[]] : List (List UInt8)).filter (fun p => !p.isEmpty) = [] := rfl
    rw [e0, List.append_nil] at hw
    rw [hcut, List.filter_append, List.filter_append, hw, hfe]
    simp [hpe]
  · intro x hx
    rw [hcut] at hx
    rcases List.mem_append.1 hx with hx | hx
    · exact h.few x (by rw [hca]; exact List.mem_append_left _ hx)
    · rcases List.mem_append.1 hx with hx | hx
      · rw [he x hx]; exact Nat.zero_le _
      · simp at hx
        rcases hx with rfl | rfl
        · exact hp24
        · exact Nat.zero_le _
/-- What the cut answers. -/
theorem Joined.pcs {l : List UInt8} {want : List (List UInt8)} (h : Joined l want) (hl : l.length ≤ 256) : pcs l 256 true = (want, 0) := by
  unfold Go.Proofs.YtgmkpdoejehgdaaDoor.pcs
  obtain ⟨a, ha⟩ := h.last
  have hne : l ≠ [] := by rw [ha]; simp
  have hb : badS l true = false := by
    unfold badS
    rw [h.first]
    have : l.contains 0 = false := by
      cases hc : l.contains 0 with
      | false => rfl
      | true => exact absurd (by simpa using hc) h.zero
    rw [this]; rfl
  have hlo : longP l = false := by
    unfold longP
    rw [List.any_eq_false]
    intro p hp
    have := h.few p hp
    simpa using this
  rw [if_neg hne, if_neg (by omega), hb, if_neg (by simp), hlo, if_neg (by simp), h.good]
end Go.Proofs.YtgmkpdoejehgdaaDoor
