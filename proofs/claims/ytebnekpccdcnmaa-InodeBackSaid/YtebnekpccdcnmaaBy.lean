/- Bytes in memory: what a slice of bytes reads as, kept while nothing below is written. -/
import Derived.WalkKit
import Derived.WalkLawsBesides
import Derived.Lib.Hide
import Derived.Laws.BytesArg
namespace Go.Proofs.Ytebnekpccdcnmaa
set_option linter.unusedVariables false
set_option linter.unusedSimpArgs false
open Go.RowKit

/-- The slice value v reads as the numbers xs, which lie at block L from off on. -/
def BtsAt (w : World) (L off : Nat) (v : Value) (xs : List Int) : Prop :=
  ∃ a cap, v = .slice a xs.length cap ∧ xs.length ≤ cap ∧ cap ≤ maxLen ∧ (∀ x ∈ xs, 0 ≤ x ∧ x < 256) ∧
    (xs ≠ [] → a = some ⟨L, off, none⟩ ∧ ∀ i, i < xs.length → w.cell? ⟨L, off + i, none⟩ = some (.int .u8 (xs.getD i 0)))

/-- The slice value v reads as the numbers xs, in blocks from B on. -/
def Bts (w : World) (B : Nat) (v : Value) (xs : List Int) : Prop := ∃ L off, B ≤ L ∧ BtsAt w L off v xs

theorem BtsAt.nil (w : World) (L off : Nat) : BtsAt w L off (.slice none 0 0) [] := ⟨none, 0, rfl, Nat.le_refl _, Nat.zero_le _, by simp, by simp⟩
theorem Bts.nil (w : World) (B : Nat) : Bts w B (.slice none 0 0) [] := ⟨B, 0, Nat.le_refl _, BtsAt.nil w B 0⟩

theorem BtsAt.move {w w' : World} {L off : Nat} {v : Value} {xs : List Int} (h : BtsAt w L off v xs) (hc : ∀ i, i < xs.length → w'.cell? ⟨L, off + i, none⟩ = w.cell? ⟨L, off + i, none⟩) : BtsAt w' L off v xs := by
  obtain ⟨a, cap, hv, h1, h2, h3, h4⟩ := h
  exact ⟨a, cap, hv, h1, h2, h3, fun hne => ⟨(h4 hne).1, fun i hi => by rw [hc i hi]; exact (h4 hne).2 i hi⟩⟩

theorem BtsAt.lt {w : World} {L off : Nat} {v : Value} {xs : List Int} (h : BtsAt w L off v xs) (hne : xs ≠ []) : L < w.heap.size := by
  obtain ⟨a, cap, hv, h1, h2, h3, h4⟩ := h
  have := (h4 hne).2 0 (List.length_pos_iff.2 hne)
  exact World.block_lt_of_cell? w _ this

theorem BtsAt.below {w w' : World} {L off : Nat} {v : Value} {xs : List Int} (h : BtsAt w L off v xs) (hb : Below w.heap.size w w') : BtsAt w' L off v xs :=
  h.move fun i hi => hb.cell (p := ⟨L, off + i, none⟩) (h.lt (by intro e; subst e; simp at hi))

theorem Bts.below {w w' : World} {B : Nat} {v : Value} {xs : List Int} (h : Bts w B v xs) (hb : Below w.heap.size w w') : Bts w' B v xs := by
  obtain ⟨L, off, hB, h⟩ := h
  exact ⟨L, off, hB, h.below hb⟩

theorem BtsAt.grown {w w' : World} {L off : Nat} {v : Value} {xs : List Int} {R : Option Nat} (h : BtsAt w L off v xs) (hb : w.grownBy w' R) (hR : xs ≠ [] → some L ≠ R) : BtsAt w' L off v xs :=
  h.move fun i hi => by
    have hne : xs ≠ [] := by intro e; subst e; simp at hi
    exact World.cell?_of_block (w := w) (hb.block L (h.lt hne) (hR hne))

theorem Bts.mono {w : World} {B B' : Nat} {v : Value} {xs : List Int} (h : Bts w B v xs) (hB : B' ≤ B) : Bts w B' v xs := by
  obtain ⟨L, off, hB', h⟩ := h
  exact ⟨L, off, by omega, h⟩

theorem BtsAt.len {w : World} {L off : Nat} {a : Option Addr} {n c : Nat} {xs : List Int} (h : BtsAt w L off (.slice a n c) xs) : n = xs.length ∧ n ≤ c ∧ c ≤ 9223372036854775807 := by
  obtain ⟨a', cap, hv, h1, h2, _⟩ := h
  simp only [Value.slice.injEq] at hv
  obtain ⟨_, rfl, rfl⟩ := hv
  exact ⟨rfl, h1, h2⟩
theorem Bts.len {w : World} {B : Nat} {a : Option Addr} {n c : Nat} {xs : List Int} (h : Bts w B (.slice a n c) xs) : n = xs.length ∧ n ≤ c ∧ c ≤ 9223372036854775807 := by
  obtain ⟨L, off, _, h⟩ := h
  exact h.len
theorem BtsAt.cells {w : World} {L off : Nat} {a : Option Addr} {n c : Nat} {xs : List Int} (h : BtsAt w L off (.slice a n c) xs) (hn : 0 < n) : a = some ⟨L, off, none⟩ ∧ ∀ i, i < n → w.cell? ⟨L, off + i, none⟩ = some (.int .u8 (xs.getD i 0)) := by
  obtain ⟨a', cap, hv, h1, h2, _, h4⟩ := h
  simp only [Value.slice.injEq] at hv
  obtain ⟨rfl, rfl, rfl⟩ := hv
  exact h4 (by intro e; subst e; simp at hn)
theorem Bts.cells {w : World} {B : Nat} {a : Option Addr} {n c : Nat} {xs : List Int} (h : Bts w B (.slice a n c) xs) (hn : 0 < n) : ∃ b off, a = some ⟨b, off, none⟩ ∧ B ≤ b ∧ ∀ i, i < n → w.cell? ⟨b, off + i, none⟩ = some (.int .u8 (xs.getD i 0)) := by
  obtain ⟨L, off, hB, h⟩ := h
  exact ⟨L, off, (h.cells hn).1, hB, (h.cells hn).2⟩

theorem BtsAt.range {w : World} {L off : Nat} {v : Value} {xs : List Int} (h : BtsAt w L off v xs) : ∀ x ∈ xs, 0 ≤ x ∧ x < 256 := h.elim fun _ h => h.elim fun _ h => h.2.2.2.1
theorem Bts.range {w : World} {B : Nat} {v : Value} {xs : List Int} (h : Bts w B v xs) : ∀ x ∈ xs, 0 ≤ x ∧ x < 256 := h.elim fun _ h => h.elim fun _ h => h.2.range

theorem range_at {xs : List Int} (h : ∀ x ∈ xs, 0 ≤ x ∧ x < 256) (i : Nat) : 0 ≤ xs.getD i 0 ∧ xs.getD i 0 < 256 := by
  by_cases hi : i < xs.length
  · have : xs.getD i 0 = xs[i] := by simp [List.getD, hi]
    rw [this]; exact h _ (List.getElem_mem hi)
  · have : xs.getD i 0 = 0 := by simp [List.getD, List.getElem?_eq_none (Nat.le_of_not_lt hi)]
    rw [this]; omega
theorem Bts.at {w : World} {B : Nat} {v : Value} {xs : List Int} (h : Bts w B v xs) (i : Nat) : 0 ≤ xs.getD i 0 ∧ xs.getD i 0 < 256 := range_at h.range i

/-- The first k of them. -/
theorem BtsAt.take {w : World} {L off : Nat} {a : Option Addr} {n c : Nat} {xs : List Int} (h : BtsAt w L off (.slice a n c) xs) (k : Nat) (hk : k ≤ n) (c' : Nat) (hc : k ≤ c') (hcm : c' ≤ maxLen) : BtsAt w L off (.slice a k c') (xs.take k) := by
  obtain ⟨a', cap, hv, h1, h2, h3, h4⟩ := h
  simp only [Value.slice.injEq] at hv
  obtain ⟨rfl, rfl, rfl⟩ := hv
  have hl : (xs.take k).length = k := by rw [List.length_take]; omega
  refine ⟨a, c', by rw [hl], by rw [hl]; exact hc, hcm, fun x hx => h3 x (List.mem_of_mem_take hx), fun hne => ?_⟩
  have hne' : xs ≠ [] := by intro e; subst e; simp at hne
  refine ⟨(h4 hne').1, fun i hi => ?_⟩
  rw [hl] at hi
  rw [(h4 hne').2 i (by omega)]
  simp [List.getD, List.getElem?_take, hi]

/-- What is behind the first k. -/
theorem BtsAt.drop {w : World} {L off : Nat} {a : Option Addr} {n c : Nat} {xs : List Int} (h : BtsAt w L off (.slice a n c) xs) (k : Nat) (hk : k ≤ n) (a'' : Option Addr) (ha : k < n → a'' = a.map (fun x => x.add k)) (c' : Nat) (hc : n - k ≤ c') (hcm : c' ≤ maxLen) : BtsAt w L (off + k) (.slice a'' (n - k) c') (xs.drop k) := by
  obtain ⟨a', cap, hv, h1, h2, h3, h4⟩ := h
  simp only [Value.slice.injEq] at hv
  obtain ⟨rfl, rfl, rfl⟩ := hv
  have hl : (xs.drop k).length = xs.length - k := List.length_drop
  refine ⟨a'', c', by rw [hl], by rw [hl]; exact hc, hcm, fun x hx => h3 x (List.mem_of_mem_drop hx), fun hne => ?_⟩
  have hne' : xs ≠ [] := by intro e; subst e; simp at hne
  have hlt : k < xs.length := by
    rcases Nat.lt_or_ge k xs.length with h | h
    · exact h
    · exact absurd (List.drop_eq_nil_of_le h) hne
  refine ⟨?_, fun i hi => ?_⟩
  · rw [ha hlt, (h4 hne').1]
    unfold Addr.add
    by_cases e : k = 0 <;> simp [e]
  · rw [hl] at hi
    rw [Nat.add_assoc, (h4 hne').2 (k + i) (by omega)]
    simp [List.getD]

/-- What the call owns reads as its numbers. -/
theorem BtsAt.of_own {w : World} {B g : Nat} {E : TypeId} {n cap : Nat} {xs : List Int} (h : w.ownsRow B E 1 (.slice (some ⟨g, 0, none⟩) n cap) n (xs.map (Value.int .u8))) (hr : ∀ x ∈ xs, 0 ≤ x ∧ x < 256) : BtsAt w g 0 (.slice (some ⟨g, 0, none⟩) n cap) xs ∧ B ≤ g := by
  have hn : xs.length = n := by have := h.1; simpa using this
  have h' := h
  obtain ⟨hl, h2⟩ := h
  rcases h2 with ⟨h0, _⟩ | ⟨g', cap', cur, hv, hg, hh, hnc, hcm, hcs, htk⟩
  · cases h0
  · simp only [Value.slice.injEq, Option.some.injEq, Addr.mk.injEq, and_true, true_and] at hv
    obtain ⟨rfl, rfl⟩ := hv
    subst hn
    refine ⟨⟨_, cap, rfl, hnc, hcm, hr, fun _ => ⟨rfl, fun i hi => ?_⟩⟩, hg⟩
    rw [Nat.zero_add, h'.cellAt i (by omega)]
    simp [List.getD, hi]
theorem Bts.of_own {w : World} {B : Nat} {E : TypeId} {v : Value} {n : Nat} {xs : List Int} (h : w.ownsRow B E 1 v n (xs.map (Value.int .u8))) (hr : ∀ x ∈ xs, 0 ≤ x ∧ x < 256) : Bts w B v xs := by
  have h' := h
  obtain ⟨hl, h2⟩ := h
  rcases h2 with ⟨rfl, h0⟩ | ⟨g, cap, cur, rfl, hg, _⟩
  · have : xs = [] := by
      subst h0
      exact List.eq_nil_of_length_eq_zero (by simpa using hl)
    subst this
    exact Bts.nil w B
  · exact ⟨g, 0, hg, (BtsAt.of_own h' hr).1⟩

/-- string(b) -/
theorem Bts.run_str {P : Program} {w : World} {B : Nat} {v : Value} {xs : List Int} (h : Bts w B v xs) (src dst e : TypeId) (hs : P.underlying src = some (.slice e)) (he : P.underlying e = some (.int .u8)) (hd : P.underlying dst = some .string) :
    (convert src dst v).run P w = .ok (.string (strOfNums xs)) w := by
  obtain ⟨L, o, _, a, cap, rfl, h1, h2, h3, h4⟩ := h
  by_cases hx : xs = []
  · subst hx
    cases a with
    | none =>
      rw [run_convert_bytes_nil w src e hs he _ cap dst hd]; rfl
    | some ad =>
      rw [run_convert_bytes_string w src dst e _ _ cap hs he hd]
      have h0 : (loadCells ad 0).run P w = .ok (([] : List Int).map (Value.int .u8)).toArray w := by simp [loadCells, loadCellsFrom]
      rw [show ([] : List Int).length = 0 from rfl, run_bytesToString w ad 0 cap [] h0]
      rfl
  · obtain ⟨rfl, hc⟩ := h4 hx
    exact run_convert_bytes_arg w src e hs he L o _ cap xs rfl hc dst hd
end Go.Proofs.Ytebnekpccdcnmaa
