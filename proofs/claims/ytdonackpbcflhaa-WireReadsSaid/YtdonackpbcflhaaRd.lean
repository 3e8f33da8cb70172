/- A reader and the reference's, side by side. -/
import Derived.Test.YtdonackpbcflhaaRc
import Derived.Test.YtdonackpbcflhaaOp
import Derived.Test.YtdonackpbcflhaaWf
namespace Go.Proofs.Ytdonackpbcflhaa
set_option linter.unusedVariables false
set_option linter.unusedSimpArgs false
open Go.RowKit

/-- append([]byte{}, b...): a copy in new memory. -/
theorem copy_run (w : World) (a : Option Addr) (n c L off : Nat) (xs : List Int) (h : BtsAt w L off (.slice a n c) xs) (hc : a = none → c = 0) (hlen : n ≤ 140737488355328) :
    ∃ g cap w', (Builtin.append_ #[23, 23] 23 #[.slice (some ⟨w.heap.size, 0, none⟩) 0 0, .slice a n c]).run Try.prog (w.alloc (.cells #[] 5)) = .ok (.slice (some ⟨g, 0, none⟩) n cap) w' ∧
      w.heap.size ≤ g ∧ BtsAt w' g 0 (.slice (some ⟨g, 0, none⟩) n cap) xs ∧ (∀ i, w'.frozen? ⟨g, i, none⟩ = false) ∧ Below w.heap.size w w' ∧ g < w'.heap.size := by
  cases a with
  | none =>
    obtain ⟨i0, hi, hz0, hz1, hz2⟩ := info_parts Try.infoByte
    obtain rfl := hc rfl
    have hx : xs = [] := by
      obtain ⟨a, cap, hv, h1, h2, h3, h4⟩ := h
      simp only [Value.slice.injEq] at hv
      refine Classical.byContradiction fun hne => ?_
      have := (h4 hne).1
      rw [← hv.1] at this
      cases this
    subst hx
    obtain rfl : n = 0 := h.len.1
    have hown := World.ownsRow_lit (base := w.heap.size) (e := 5) (size := 1) w #[] 0 (Nat.le_refl _) (by decide) rfl
    refine ⟨w.heap.size, 0, _, run_append_owned_none (P := Try.prog) (w.alloc (.cells #[] 5)) w.heap.size 23 23 5 i0 1 Try.underlying23 hi _ 0 _ hown, Nat.le_refl _, ?_, fun i => hown.frozenAt i, (Below.refl _ _).alloc (Nat.le_refl _) _, by simp⟩
    exact ⟨_, 0, rfl, Nat.le_refl _, by decide, by simp, by simp⟩
  | some ad =>
    obtain ⟨g, cap, w', hr, hg, ho, hb⟩ := run_copied w L off ad n c xs h hlen
    refine ⟨g, cap, w', hr, hg, (BtsAt.of_own ho h.range).1, fun i => ho.frozenAt i, hb, ?_⟩
    rcases ho.2 with ⟨he, _⟩ | ⟨g', cap', cur, he, _, hgg, _⟩
    · cases he
    · simp only [Value.slice.injEq, Option.some.injEq, Addr.mk.injEq] at he
      rw [← he.1.1] at hgg
      exact (Array.getElem?_eq_some_iff.1 hgg).1

/-- The reader at R (bytes at L) has read k1 bytes; the reference's at T (bytes at LT from o on) k; all is new since w. -/
structure Half (w wr : World) (R L T LT o : Nat) (xs : List Int) (k1 : Nat) (b1 : Bool) (k : Nat) (b : Bool) : Prop where
  bel : Below w.heap.size w wr
  rd : Rdr wr R L k1 (xs.drop k1) b1
  rr : RRdr wr T LT o xs k b
  le : k1 ≤ xs.length
  rB : w.heap.size ≤ R
  tB : w.heap.size ≤ T
  lB : xs ≠ [] → w.heap.size ≤ L
  ll : xs ≠ [] → L < wr.heap.size
  lr : xs ≠ [] → L ≠ R
  rt : R ≠ T
  lt : xs ≠ [] → L ≠ T
  ltr : xs ≠ [] → LT ≠ R
  llt : xs ≠ [] → L ≠ LT
  fr : ∀ i, i < xs.length → wr.frozen? ⟨L, i, none⟩ = false

theorem rest_drop {xs : List Int} {k : Nat} (hk : k ≤ xs.length) (b : Bool) (n : Int) : restT (xs.drop k) b n = xs.drop (atR xs k b n) ∧ k + ((xs.drop k).length - (restT (xs.drop k) b n).length) = atR xs k b n ∧ atR xs k b n ≤ xs.length := by
  unfold atR restT
  by_cases h : badT (xs.drop k) b n = true
  · rw [if_pos h, List.length_drop, show xs.length - (xs.length - k) = k by omega]
    exact ⟨rfl, by omega, hk⟩
  · rw [if_neg h, List.drop_drop, List.length_drop, List.length_drop]
    refine ⟨?_, by omega, by omega⟩
    rcases Nat.le_total (k + n.toNat) xs.length with h1 | h1
    · congr 1; omega
    · rw [List.drop_eq_nil_of_le h1, List.drop_eq_nil_of_le (by omega)]

theorem drop_ne {xs : List Int} {k : Nat} (h : xs.drop k ≠ []) : xs ≠ [] := fun e => h (by rw [e]; simp)

/-- What a step on the reader leaves. -/
theorem Half.first' {w wr w' : World} {R L T LT o k1 k2 k : Nat} {xs : List Int} {b1 b : Bool} {sp : Bool} {r : Value} {e : Ending} (h : Half w wr R L T LT o xs k1 b1 k b) (e3 : k2 ≤ xs.length)
    (hs : OnRdr wr R L k2 (xs.drop k2) sp r e w') : e = .returned r ∧ Half w w' R L T LT o xs k2 sp k b := by
  obtain ⟨he, hr, hg, _⟩ := hs
  refine ⟨he, ?_, hr, h.rr.grown hg (fun e => h.rt (by simpa using e.symm)) (fun hne e => h.ltr hne (by simpa using e)), e3, h.rB, h.tB, h.lB, fun hne => Nat.lt_of_lt_of_le (h.ll hne) hg.size, h.lr, h.rt, h.lt, h.ltr, h.llt, fun i hi => ?_⟩
  · exact h.bel.grown hg h.bel.size (by intro q hq; simp at hq; have := h.rB; omega)
  · have hne : xs ≠ [] := by intro e; subst e; simp at hi
    rw [hg.frozen_far ⟨L, i, none⟩ (h.ll hne) (fun e => h.lr hne (by simpa using e))]
    exact h.fr i hi
theorem Half.first {w wr w' : World} {R L T LT o k1 k : Nat} {xs : List Int} {b1 b : Bool} {n : Int} {c sp : Bool} {r : Value} {e : Ending} (h : Half w wr R L T LT o xs k1 b1 k b)
    (hs : OnRdr wr R L (k1 + ((xs.drop k1).length - (restT (xs.drop k1) c n).length)) (restT (xs.drop k1) c n) sp r e w') : e = .returned r ∧ Half w w' R L T LT o xs (atR xs k1 c n) sp k b := by
  obtain ⟨e1, e2, e3⟩ := rest_drop h.le c n
  rw [e2, e1] at hs
  exact h.first' e3 hs
theorem got_at {xs : List Int} {k : Nat} (hk : k ≤ xs.length) (b : Bool) (n : Int) : k + (gotT (xs.drop k) b n).length = atR xs k b n := by
  unfold atR restT gotT
  by_cases h : badT (xs.drop k) b n = true
  · rw [if_pos h, if_pos h, List.length_drop, List.length_nil]; omega
  · have hx : ¬ (b = true ∨ n < 0 ∨ ((xs.drop k).length : Int) < n) := fun hc => h ((badT_iff _ _ _).2 hc)
    rw [List.length_drop] at hx
    rw [if_neg h, if_neg h]
    simp only [List.length_take, List.length_drop]
    omega
/-- What a step on the reference's reader leaves. -/
theorem Half.second {w wr w' : World} {R L T LT o k1 k k2 : Nat} {xs : List Int} {b1 b b2 : Bool} {r : Value} {e : Ending} (h : Half w wr R L T LT o xs k1 b1 k b)
    (hs : OnRR wr T LT o xs k2 b2 r e w') : e = .returned r ∧ Half w w' R L T LT o xs k1 b1 k2 b2 := by
  obtain ⟨he, hr, hg⟩ := hs
  refine ⟨he, ?_, h.rd.grown hg (fun e => h.rt (by simpa using e)) (fun hne e => h.lt (drop_ne hne) (by simpa using e)), hr, h.le, h.rB, h.tB, h.lB, fun hne => Nat.lt_of_lt_of_le (h.ll hne) hg.size, h.lr, h.rt, h.lt, h.ltr, h.llt, fun i hi => ?_⟩
  · exact h.bel.grown hg h.bel.size (by intro q hq; simp at hq; have := h.tB; omega)
  · have hne : xs ≠ [] := by intro e; subst e; simp at hi
    rw [hg.frozen_far ⟨L, i, none⟩ (h.ll hne) (fun e => h.lt hne (by simpa using e))]
    exact h.fr i hi
/-- A step that turns nothing of either keeps it. -/
theorem Half.grown {w wr w' : World} {R L T LT o k1 k : Nat} {xs : List Int} {b1 b : Bool} (h : Half w wr R L T LT o xs k1 b1 k b) (hg : Below wr.heap.size wr w') : Half w w' R L T LT o xs k1 b1 k b := by
  have hg2 := row_grown hg none
  refine ⟨h.bel.trans (hg.mono h.bel.size), h.rd.grown hg2 (by simp) (by simp), h.rr.grown hg2 (by simp) (by simp), h.le, h.rB, h.tB, h.lB, fun hne => Nat.lt_of_lt_of_le (h.ll hne) hg.size, h.lr, h.rt, h.lt, h.ltr, h.llt, fun i hi => ?_⟩
  have hne : xs ≠ [] := by intro e; subst e; simp at hi
  rw [hg2.frozen_far ⟨L, i, none⟩ (h.ll hne) (by simp)]
  exact h.fr i hi
/-- A store into another block. -/
theorem Half.other {w wr : World} {R L T LT o k1 k : Nat} {xs : List Int} {b1 b : Bool} (h : Half w wr R L T LT o xs k1 b1 k b) (M i : Nat) (v : Value) (hM : w.heap.size ≤ M) (h1 : M ≠ R) (h2 : M ≠ T) (h3 : xs ≠ [] → M ≠ L) (h4 : xs ≠ [] → M ≠ LT) :
    Half w (wr.setCell ⟨M, i, none⟩ v) R L T LT o xs k1 b1 k b := by
  have hg := grownBy_set wr M i v
  refine ⟨h.bel.setCell hM v, h.rd.grown hg (fun e => h1 (by simpa using e.symm)) (fun hne e => h3 (drop_ne hne) (by simpa using e.symm)), h.rr.grown hg (fun e => h2 (by simpa using e.symm)) (fun hne e => h4 hne (by simpa using e.symm)), h.le, h.rB, h.tB, h.lB, fun hne => Nat.lt_of_lt_of_le (h.ll hne) hg.size, h.lr, h.rt, h.lt, h.ltr, h.llt, fun j hj => ?_⟩
  have hne : xs ≠ [] := by intro e; subst e; simp at hj
  rw [hg.frozen_far ⟨L, j, none⟩ (h.ll hne) (fun e => h3 hne (by simpa using e.symm))]
  exact h.fr j hj
theorem cell_set_far (w : World) (L i j : Nat) (v : Value) (h : j ≠ i) : (w.setCell ⟨L, i, none⟩ v).cell? ⟨L, j, none⟩ = w.cell? ⟨L, j, none⟩ := by
  have hne : (⟨L, i, none⟩ : Addr) ≠ ⟨L, j, none⟩ := by intro e; cases e; exact h rfl
  apply World.cell?_setCell_other
  exact hne
/-- A store into the reader's own block, behind what is left. -/
theorem Half.spent {w wr : World} {R L T LT o k1 k : Nat} {xs : List Int} {b1 b : Bool} (h : Half w wr R L T LT o xs k1 b1 k b) (i : Nat) (v : Value) (hne : xs ≠ []) (hi : i < k1) :
    Half w (wr.setCell ⟨L, i, none⟩ v) R L T LT o xs k1 b1 k b := by
  have hg := grownBy_set wr L i v
  refine ⟨h.bel.setCell (h.lB hne) v, ?_, h.rr.grown hg (fun e => h.lt hne (by simpa using e.symm)) (fun hne e => h.llt hne (by simpa using e.symm)), h.le, h.rB, h.tB, h.lB, fun hne => Nat.lt_of_lt_of_le (h.ll hne) hg.size, h.lr, h.rt, h.lt, h.ltr, h.llt, fun j hj => ?_⟩
  · have hl := h.rd.lt
    obtain ⟨a, n, c, hh, hb⟩ := h.rd
    refine ⟨a, n, c, ?_, hb.move fun j hj => cell_set_far wr L i (k1 + j) v (by omega)⟩
    rw [hg.block R hl (fun e => h.lr hne (by simpa using e.symm))]
    exact hh
  · have := h.fr j hj
    simpa using this
end Go.Proofs.Ytdonackpbcflhaa
