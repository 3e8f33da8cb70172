/- The layer alloc: what the document fixes; a copy of a map; AllocPicks. -/
import Derived.Test.YteonlidamonbgaaAz
import Derived.ProofKit
import Derived.OpenShut
import Derived.ShutString
import Derived.ChangeOld
import Derived.SizedLaws
import Derived.Laws.OwnMore
import Derived.Deep.QuietTactic
import Derived.BigQuiet
namespace Go.Proofs.Yteonlidamonbgaa
set_option linter.unusedVariables false
set_option linter.unusedSimpArgs false
open Go.ChangeShapes Go.WideShapes Go.ChangeAt Go.RowKit Fl

theorem isInf_up (a : Nat) (w : World) (b : Bool) (h : (FloatKind.f64.format.order a 9218868437227405311 == some .gt) = b) : Calls Try.prog 16 #[.float .f64 a, .int .i64 1] w fun q w' => q = .returned (.bool b) ∧ w = w' := by
  go_enter Try.func16, Try.ntmps16
  go_wp2
  go_ret
  exact ⟨rfl, rfl⟩

def fixF (i : Nat) : Bool := [false, false, true, true, false, false, false, false, true, true].getD i false
theorem fix_a1 : FstIs fixF 7 8 (-1) := by
  refine Or.inl ⟨rfl, fun t h1 h2 => ?_⟩
  have e : t = 7 := by omega
  rw [e]
  rfl
theorem fix_a2 : FstIs fixF 0 8 2 := Or.inr ⟨2, rfl, by decide, by decide, rfl, fun t h1 h2 => (by decide : ∀ t, t < 2 → fixF t = false) t h2⟩
theorem fix_a : PickIs fixF 10 7 2 0 := ⟨2, Or.inr ⟨7, rfl, by decide, -1, fix_a1, Or.inr ⟨rfl, fix_a2⟩⟩, Or.inl ⟨by decide, rfl, rfl⟩⟩
theorem fix_best : BestAt fixF 10 2 1 8 := by
  refine ⟨by decide, Or.inr ⟨8, rfl, by decide, by decide, rfl, fun t h1 h2 => by omega⟩, by decide, ?_, ?_⟩
  · intro c hc hf
    have : ∀ c, c < 2 → ¬ (nn fixF 10 1 * uu fixF 10 c < nn fixF 10 c * uu fixF 10 1) := by decide
    exact this c hc
  · intro c hc hf
    have : ∀ c, c < 1 → (nn fixF 10 c * uu fixF 10 1 < nn fixF 10 1 * uu fixF 10 c) := by decide
    exact this c hc
theorem fix_b : PickIs fixF 10 99 8 0 := ⟨-1, Or.inl ⟨by decide, rfl⟩, Or.inr ⟨rfl, 8, Or.inr ⟨1, fix_best⟩, Or.inr ⟨by decide, rfl, rfl⟩⟩⟩
theorem fix_s : (FloatKind.f64.format.order (scoreG fixF 10 1) 9218868437227405311 == some .gt) = true := by decide +kernel

theorem fixed_any (w : World) : Calls Try.prog 6 #[] w fun e w' => e = .returned (.bool true) ∧ Below w.heap.size w w' := by
  have FA := Lib.hid fix_a
  have FB := Lib.hid fix_b
  obtain ⟨s, hs⟩ : ∃ s, Hid (scoreG fixF 10 1 = s) := ⟨_, rfl⟩
  have hinf := fix_s
  rw [hs.out] at hinf
  have IU := fun w => isInf_up s w true hinf
  clear hinf
  have hb0 : Below w.heap.size w (w.alloc (.cells #[.bool false, .bool false, .bool true, .bool true, .bool false, .bool false, .bool false, .bool false, .bool true, .bool true] 4)) := (Below.refl _ _).alloc (Nat.le_refl _) _
  have HB : Hid (BlF (w.alloc (.cells #[.bool false, .bool false, .bool true, .bool true, .bool false, .bool false, .bool false, .bool false, .bool true, .bool true] 4)) w.heap.size 0 (some ⟨w.heap.size, 0, none⟩) 10 10 fixF) := by
    refine ⟨by decide, by decide, fun _ => ⟨rfl, fun i hi => ?_⟩⟩
    rw [Nat.zero_add]
    match i, hi with
    | 0, _ => exact cell_of_row _ _ 0 _ _ (0, 0) (heap_alloc_new w _)
    | 1, _ => exact cell_of_row _ _ 1 _ _ (0, 0) (heap_alloc_new w _)
    | 2, _ => exact cell_of_row _ _ 2 _ _ (0, 0) (heap_alloc_new w _)
    | 3, _ => exact cell_of_row _ _ 3 _ _ (0, 0) (heap_alloc_new w _)
    | 4, _ => exact cell_of_row _ _ 4 _ _ (0, 0) (heap_alloc_new w _)
    | 5, _ => exact cell_of_row _ _ 5 _ _ (0, 0) (heap_alloc_new w _)
    | 6, _ => exact cell_of_row _ _ 6 _ _ (0, 0) (heap_alloc_new w _)
    | 7, _ => exact cell_of_row _ _ 7 _ _ (0, 0) (heap_alloc_new w _)
    | 8, _ => exact cell_of_row _ _ 8 _ _ (0, 0) (heap_alloc_new w _)
    | 9, _ => exact cell_of_row _ _ 9 _ _ (0, 0) (heap_alloc_new w _)
  have HB0 := Lib.hid hb0
  clear hb0
  go_enter Try.func6, Try.ntmps6
  go_upto_region 2 with fail
  generalize (w.alloc (.cells #[.bool false, .bool false, .bool true, .bool true, .bool false, .bool false, .bool false, .bool false, .bool true, .bool true] 4)) = w1 at HB HB0 ⊢
  go_upto_region 3 with (go_at_call 7; refine (pick_any _ 10 10 _ 0 fixF 7 _ HB.out (by decide)).mono ?_; rintro e w2 ⟨r, d, rfl, hp, hb⟩; obtain ⟨rfl, rfl⟩ := hp.one FA.out; have HB2 := Lib.hid (HB.out.below hb); have HW2 := Lib.hid (HB0.out.trans (hb.mono HB0.out.size)); clear hp hb)
  go_upto_region 4 with (go_at_call 7; refine (pick_any _ 10 10 _ 0 fixF 99 _ HB2.out (by decide)).mono ?_; rintro e w3 ⟨r, d, rfl, hp, hb⟩; obtain ⟨rfl, rfl⟩ := hp.one FB.out; have HB3 := Lib.hid (HB2.out.below hb); have HW3 := Lib.hid (HW2.out.trans (hb.mono HW2.out.size)); clear hp hb)
  go_wp2_with (first
    | (go_at_call 9; refine (score_any _ 10 10 _ 0 1 fixF _ HB3.out (by decide) (by decide)).mono ?_; rintro e w4 ⟨rfl, hb⟩; rw [hs.out]; have HW4 := Lib.hid (HW3.out.trans (hb.mono HW3.out.size)); clear hb)
    | (go_at_call 16; refine (IU _).mono ?_; rintro e w' ⟨rfl, rfl⟩))
  go_ret
  exact ⟨rfl, HW4.out⟩
end Go.Proofs.Yteonlidamonbgaa
