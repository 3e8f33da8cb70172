/- Walks of the laws of the layer extent: fixed. -/
import Derived.Test.YtidifimhgnjomaaHa
namespace Go.Proofs.Ytidifimhgnjomaa
set_option linter.unusedVariables false
set_option linter.unusedSimpArgs false
open Go.RowKit

theorem exl_lit (w : World) (f h n : Int) : ExAt (w.alloc (.cells #[.int .i64 f, .int .i64 h, .int .i64 n] 54)) w.heap.size 0 (some ⟨w.heap.size, 0, none⟩) 1 1 (eF [⟨f, h, n⟩]) (eH [⟨f, h, n⟩]) (eN [⟨f, h, n⟩]) := by
  refine ⟨Nat.le_refl _, by omega, fun _ => ⟨rfl, fun i hi => ?_⟩⟩
  obtain rfl : i = 0 := by omega
  exact ⟨cell_of_row _ _ 0 _ _ (0, 0) (heap_alloc_new w _), cell_of_row _ _ 1 _ _ (0, 0) (heap_alloc_new w _), cell_of_row _ _ 2 _ _ (0, 0) (heap_alloc_new w _)⟩
theorem right_one (f h n : Int) (ho : oneP f h n) : Right 1 (eF [⟨f, h, n⟩]) (eH [⟨f, h, n⟩]) (eN [⟨f, h, n⟩]) := by
  refine ⟨by omega, fun i hi => ?_, fun i hi => by omega, fun k i hk hi => by omega⟩
  obtain rfl : i = 0 := by omega
  exact ho
def exEq : List Ext → List Ext → Bool
  | [], [] => true
  | x :: xs, y :: ys => x.f == y.f && x.h == y.h && x.n == y.n && exEq xs ys
  | _, _ => false
theorem exEq_eq : ∀ (xs ys : List Ext), exEq xs ys = true → xs = ys
  | [], [], _ => rfl
  | ⟨a, b, c⟩ :: xs, ⟨a', b', c'⟩ :: ys, h => by
    simp [exEq] at h
    obtain ⟨⟨⟨rfl, rfl⟩, rfl⟩, h⟩ := h
    rw [exEq_eq xs ys h]
  | [], _ :: _, h => by simp [exEq] at h
  | _ :: _, [], h => by simp [exEq] at h
theorem bld_fixed : bld (fun s => if (s : Int) = 4 then 8 + 1 else hm (eF [⟨3, 7, 1⟩]) (eH [⟨3, 7, 1⟩]) (eN [⟨3, 7, 1⟩]) 1 s) 40 = [⟨3, 7, 2⟩] := exEq_eq _ _ (by decide +kernel)
theorem busy_fixed : ¬ (hm (eF [⟨3, 7, 1⟩]) (eH [⟨3, 7, 1⟩]) (eN [⟨3, 7, 1⟩]) 1 4 ≠ 0 ∨ ∃ s : Nat, s < 40 ∧ hm (eF [⟨3, 7, 1⟩]) (eH [⟨3, 7, 1⟩]) (eN [⟨3, 7, 1⟩]) 1 s = 8 + 1) := by decide +kernel
theorem put_fixed : putV 1 (eF [⟨3, 7, 1⟩]) (eH [⟨3, 7, 1⟩]) (eN [⟨3, 7, 1⟩]) 4 8 = ([⟨3, 7, 2⟩], 0) := by
  unfold putV
  rw [if_pos (right_one 3 7 1 (by decide)), if_pos (by decide), if_neg busy_fixed, bld_fixed]
theorem count_fixed : cntE 1 (eF [⟨3, 7, 2⟩]) (eH [⟨3, 7, 2⟩]) (eN [⟨3, 7, 2⟩]) = 2 := by
  unfold cntE
  rw [if_pos (right_one 3 7 2 (by decide))]
  rfl

theorem fixed_any (w : World) : Calls Try.prog 6 #[] w fun e w' => e = .returned (.bool true) ∧ Below w.heap.size w w' := by
  have HP := Lib.hid put_fixed
  have HC := Lib.hid count_fixed
  have HL := Lib.hid (exl_lit w 3 7 1)
  have HB0 : Hid (Below w.heap.size w (w.alloc (.cells #[.int .i64 3, .int .i64 7, .int .i64 1] 54))) := (Below.refl _ _).alloc (Nat.le_refl _) _
  go_enter Try.func6, Try.ntmps6
  go_wp2_with (first
    | (go_at_call 8; refine (put_any _ _ _ _ _ _ _ _ _ _ _ HL.out (by omega) (by omega)).mono ?_; rintro e w1 ⟨v, rfl, hv, hb⟩; rw [HP.out]; rw [HP.out] at hv; obtain ⟨a1, c1, L1, rfl, hv, _⟩ := hv; have HV1 := Lib.hid hv; have HB1 := Lib.hid (HB0.out.trans (hb.mono HB0.out.size)); clear hb hv)
    | (go_at_call 19; refine (same_any _ _ _ _ _ _ _ _ _ _ _ _ _ (HV1.out.below ((Below.refl _ _).alloc (Nat.le_refl _) _)) (exl_lit w1 3 7 2)).mono ?_; rintro e w2 ⟨rfl, hb⟩; have HB2 := Lib.hid hb; clear hb)
    | (go_at_call 10; refine (countE_any _ _ _ _ _ _ _ _ _ ((HV1.out.below ((Below.refl _ _).alloc (Nat.le_refl _) _)).below HB2.out)).mono ?_; rintro e w3 ⟨rfl, hb⟩; rw [show [(⟨3, 7, 2⟩ : Ext)].length = 1 from rfl, HC.out]; have HB3 := Lib.hid hb; clear hb))
  go_ret
  refine ⟨rfl, ?_⟩
  have h1 := HB1.out.alloc HB1.out.size (.cells #[.int .i64 3, .int .i64 7, .int .i64 2] 54)
  have h2 := h1.trans (HB2.out.mono h1.size)
  exact h2.trans (HB3.out.mono h2.size)
end Go.Proofs.Ytidifimhgnjomaa
