/- The layer path, plainly: a text cut at its slashes. -/
import Derived.Lib.CountLaws
import Derived.Lib.SplitLaws
import Derived.Lib.IndexBytes
namespace Go.Proofs.YtgmkpdoejehgdaaDoor
set_option linter.unusedVariables false
set_option linter.unusedSimpArgs false

/-- A byte more: the pieces that are done, and the piece that is not. -/
def step (x : List (List UInt8) × List UInt8) (b : UInt8) : List (List UInt8) × List UInt8 := if b = 47 then (x.1 ++ [x.2], []) else (x.1, x.2 ++ [b])
def dc (s : List UInt8) : List (List UInt8) × List UInt8 := s.foldl step ([], [])
/-- All that stands between slashes. -/
def cutL (s : List UInt8) : List (List UInt8) := (dc s).1 ++ [(dc s).2]
theorem dc_snoc (l : List UInt8) (b : UInt8) : dc (l ++ [b]) = step (dc l) b := by simp [dc, List.foldl_append]
theorem fold_from : ∀ (l : List UInt8) (D : List (List UInt8)) (C : List UInt8), l.foldl step (D, C) = (D ++ (l.foldl step ([], C)).1, (l.foldl step ([], C)).2)
  | [], D, C => by simp
  | b :: l, D, C => by
    simp only [List.foldl_cons]
    by_cases e : b = 47
    · have h1 : step (D, C) b = (D ++ [C], []) := if_pos e
      have h2 : step ([], C) b = ([C], []) := if_pos e
      rw [h1, h2, fold_from l (D ++ [C]) [], fold_from l [C] []]
      simp
    · have h1 : step (D, C) b = (D, C ++ [b]) := if_neg e
      have h2 : step ([], C) b = ([], C ++ [b]) := if_neg e
      rw [h1, h2, fold_from l D (C ++ [b])]
theorem fold_plain : ∀ (l : List UInt8) (C : List UInt8), (47 : UInt8) ∉ l → l.foldl step ([], C) = ([], C ++ l)
  | [], C, _ => by simp
  | b :: l, C, h => by
    have hb : ¬ b = 47 := fun e => h (by simp [e])
    have h2 : step ([], C) b = ([], C ++ [b]) := if_neg hb
    rw [List.foldl_cons, h2, fold_plain l _ (fun hm => h (by simp [hm]))]
    simp
theorem cut_plain {l : List UInt8} (h : (47 : UInt8) ∉ l) : cutL l = [l] := by
  unfold cutL dc
  rw [fold_plain l [] h]
  simp
/-- What stands ahead of a slash, and what behind it. -/
theorem cut_at (a r : List UInt8) : cutL (a ++ 47 :: r) = cutL a ++ cutL r := by
  unfold cutL dc
  rw [List.foldl_append, List.foldl_cons]
  have h1 : step (a.foldl step ([], [])) 47 = ((a.foldl step ([], [])).1 ++ [(a.foldl step ([], [])).2], []) := if_pos rfl
  rw [h1, fold_from r]
  simp
theorem idx_cases : ∀ l : List UInt8, (Lib.indexByte l 47 = -1 ∧ (47 : UInt8) ∉ l) ∨ ∃ a r, l = a ++ 47 :: r ∧ (47 : UInt8) ∉ a ∧ Lib.indexByte l 47 = a.length
  | [] => Or.inl ⟨rfl, by simp⟩
  | b :: l => by
    unfold Lib.indexByte
    by_cases e : b = 47
    · subst e
      exact Or.inr ⟨[], l, rfl, by simp, by simp⟩
    · have hb : (b == 47) = false := by simpa using e
      rw [hb]
      rcases idx_cases l with ⟨h1, h2⟩ | ⟨a, r, h1, h2, h3⟩
      · left
        rw [h1]
        refine ⟨rfl, fun hm => ?_⟩
        rcases List.mem_cons.1 hm with h | h
        · exact e h.symm
        · exact h2 h
      · right
        have hn : ¬ (Lib.indexByte l 47 == -1) = true := fun h => by have := beq_iff_eq.1 h; omega
        refine ⟨b :: a, r, by rw [h1]; rfl, fun hm => ?_, ?_⟩
        · rcases List.mem_cons.1 hm with h | h
          · exact e h.symm
          · exact h2 h
        · simp only [Bool.false_eq_true, if_false, hn]
          rw [h3]; simp
/-- The library's cut is this one. -/
theorem split_cut : ∀ (n : Nat) (s : List UInt8), s.length ≤ n → Lib.splitK [47] 0 (Lib.count s [47]) s = cutL s := by
  intro n
  induction n with
  | zero =>
    intro s hs
    have : s = [] := List.eq_nil_of_length_eq_zero (by omega)
    subst this
    rfl
  | succ n ih =>
    intro s hs
    rcases idx_cases s with ⟨h1, h2⟩ | ⟨a, r, h1, h2, h3⟩
    · have hi : Lib.index s [47] = -1 := by rw [Lib.index_one]; exact h1
      rw [Lib.count_miss hi, cut_plain h2]
      rfl
    · have hi : Lib.index s [47] = (a.length : Nat) := by rw [Lib.index_one]; exact h3
      have hr : s.drop (a.length + [(47 : UInt8)].length) = r := by rw [h1]; simp
      rw [Lib.count_hit (by simp) hi, hr, Nat.add_comm]
      unfold Lib.splitK
      have hn : ¬ (Lib.index s [47] == -1) = true := fun h => by have := beq_iff_eq.1 h; omega
      rw [if_neg hn, hi]
      have e1 : s.take ((a.length : Int).toNat + 0) = a := by rw [h1]; simp
      have e2 : s.drop ((a.length : Int).toNat + [(47 : UInt8)].length) = r := by rw [Int.toNat_natCast]; exact hr
      rw [e1, e2, ih r (by rw [h1] at hs; simp at hs; omega), h1, cut_at, cut_plain h2]
      rfl

/-- A text out of its bytes. -/
def strB (l : List UInt8) : ByteArray := ⟨l.toArray⟩
theorem strB_data (s : ByteArray) : strB s.data.toList = s := by
  obtain ⟨⟨l⟩⟩ := s
  rfl
theorem strB_size (l : List UInt8) : (strB l).size = l.length := rfl
theorem strB_list (l : List UInt8) : (strB l).data.toList = l := rfl
theorem splitB_cut (s : ByteArray) : Lib.splitB ⟨#[47]⟩ 0 (Lib.countB s ⟨#[47]⟩) s = (cutL s.data.toList).map strB := by
  have h := Lib.splitB_data ⟨#[47]⟩ 0 (Lib.countB s ⟨#[47]⟩) s
  have h2 : Lib.splitK [47] 0 (Lib.count s.data.toList [47]) s.data.toList = cutL s.data.toList := split_cut _ _ (Nat.le_refl _)
  have h3 : (Lib.splitB ⟨#[47]⟩ 0 (Lib.countB s ⟨#[47]⟩) s).map (·.data.toList) = cutL s.data.toList := h.trans h2
  rw [← h3, List.map_map]
  symm
  have : ∀ l : List ByteArray, l.map (strB ∘ fun x => x.data.toList) = l := fun l => by
    induction l with
    | nil => rfl
    | cons x l ih => rw [List.map_cons, ih]; show strB x.data.toList :: l = _; rw [strB_data]
  exact this _
theorem countB_cut (s : ByteArray) : Lib.countB s ⟨#[47]⟩ + 1 = (cutL s.data.toList).length := by
  have h := Lib.splitB_all ⟨#[47]⟩ (Nat.le_refl 1) 0 _ s rfl
  rw [splitB_cut, List.length_map] at h
  exact h.symm

/-- Is something wrong with the bytes? -/
def badS (s : List UInt8) (whole : Bool) : Bool := s.contains 0 || (whole && s.headD 0 != 47)
/-- Is a piece too long? -/
def longP (s : List UInt8) : Bool := (cutL s).any fun p => decide (24 < p.length)
/-- The pieces, and what is wrong. -/
def pcs (s : List UInt8) (most : Int) (whole : Bool) : List (List UInt8) × Int :=
  if s = [] then ([], 40) else if most < s.length then ([], 48) else if badS s whole = true then ([], 47) else if longP s = true then ([], 48) else ((cutL s).filter (fun p => !p.isEmpty), 0)
end Go.Proofs.YtgmkpdoejehgdaaDoor
