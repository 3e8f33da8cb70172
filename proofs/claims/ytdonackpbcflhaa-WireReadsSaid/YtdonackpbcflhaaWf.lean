/- What the document fixes of wire; the walk of WireWrites. -/
import Derived.Test.YtdonackpbcflhaaWe
namespace Go.Proofs.Ytdonackpbcflhaa
set_option linter.unusedVariables false
set_option linter.unusedSimpArgs false
open Go.RowKit

theorem run_strB {w : World} {B : Nat} {v : Value} {xs : List Int} (h : Bts w B v xs) : (convert 23 9 v).run Try.prog w = .ok (.string (strOfNums xs)) w :=
  Bts.run_str h 23 9 5 Try.underlying23 Try.underlying5 Try.underlying9

theorem lit_bts (w : World) : BtsAt (w.alloc (.cells #[.int .u8 1, .int .u8 97, .int .u8 0] 5)) w.heap.size 0 (.slice (some ⟨w.heap.size, 0, none⟩) 3 3) [1, 97, 0] :=
  (BtsAt.of_own (xs := [1, 97, 0]) (World.ownsRow_lit (base := w.heap.size) (e := 5) (size := 1) w #[.int .u8 1, .int .u8 97, .int .u8 0] 3 (Nat.le_refl _) (by decide) rfl) (by decide)).1

theorem below_rdr {w w' : World} {B R : Nat} (h : Below B w w') {w'' : World} (hg : w'.grownBy w'' (some R)) (hB : B ≤ w'.heap.size) (hR : B ≤ R) : Below B w w'' :=
  h.grown hg hB (by intro k hk; simp at hk; omega)

set_option maxHeartbeats 400000 in
/-- cloisterlaw04.fixed -/
theorem fixed_any (w : World) : Calls Try.prog 10 #[] w fun e w' => e = .returned (.bool true) ∧ Below w.heap.size w w' := by
  have N1 : ∀ w, Calls Try.prog 6 #[.int .u64 258, .int .i64 2] w (OkMade Try.prog 5 w 0 [1, 2]) := fun w =>
    number_loop 258 2 w (by decide) (by decide) (Or.inr rfl) (by decide)
  have t1 : strOfNums [1, 2] = ⟨#[1, 2]⟩ := rfl
  have t2 : textV [1, 97, 0] false 3 = ⟨#[97]⟩ := by decide
  have t3 : restT [1, 97, 0] (badX false 3) 3 = [] := by decide
  have t4 : textBad [1, 97, 0] false 3 = false := by decide
  have t5 : endV [] false = 0 := rfl
  have T1 := Lib.hid t1
  have T2 := Lib.hid t2
  have T3 := Lib.hid t3
  have T4 := Lib.hid t4
  have T5 := Lib.hid t5
  clear t1 t2 t3 t4 t5
  go_enter Try.func10, Try.ntmps10
  go_wp2_with (first
    | (go_at_call 6; refine (N1 _).mono ?_; rintro e w1 ⟨s, rfl, ⟨g, c, rfl⟩, h1, h2⟩; have H2 := Lib.hid h2; have H1 := Lib.hid (Bts.of_own h1 (by decide)); clear h1 h2)
    | (go_at_call 12; refine (read_any _ 3 3 w1.heap.size 0 [1, 97, 0] _ (lit_bts w1) (by decide)).mono ?_; rintro e w3 ⟨R, L, rfl, h3, h4, h5, _, h7⟩; have hb7 := ((Below.refl w1.heap.size w1).alloc (Nat.le_refl _) _).trans (h7.mono (by simp)); have hs : (convert 23 9 (.slice (some ⟨g, 0, none⟩) 2 c)).run Try.prog w3 = .ok (.string (strOfNums [1, 2])) w3 := run_strB (H1.out.below hb7); rw [T1.out] at hs; have H3 := Lib.hid h3; have H5 := Lib.hid h5; have H7 := Lib.hid hb7; clear h3 h4 h5 h7 hb7)
    | (go_at_call 17; refine (textR_any R L 0 _ false 3 _ H5.out (by decide)).mono ?_; rintro e w4 ⟨rfl, h8, h9, _⟩; rw [T2.out]; rw [T3.out, T4.out] at h8; have H8 := Lib.hid h8; have H9 := Lib.hid h9; clear h8 h9)
    | (go_at_call 22; refine (end_any R L _ _ false _ H8.out).mono ?_; rintro e w5 ⟨rfl, rfl⟩; rw [T5.out]))
  go_ret
  refine ⟨rfl, ?_⟩
  have e1 : w.heap.size ≤ w1.heap.size := H2.out.size
  have e2 : w1.heap.size ≤ w3.heap.size := H7.out.size
  refine below_rdr (H2.out.trans (H7.out.mono e1)) H9.out (by omega) ?_
  have := H3.out
  simp at this
  omega
end Go.Proofs.Ytdonackpbcflhaa
