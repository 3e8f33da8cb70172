/- The walk of InodeSizes. -/
import Derived.Test.YtebnekpccdcnmaaIi
import Derived.Test.YtebnekpccdcnmaaIm
namespace Go.Proofs.Ytebnekpccdcnmaa
set_option linter.unusedVariables false
set_option linter.unusedSimpArgs false
open Go.RowKit

theorem encode_sz (s f L : Nat) (w : World) (hs : s ≤ 17600) (hf : f < 40) (h : ExAt w L 0 (some ⟨L, 0, none⟩) 1 1 (fun _ => (f : Int)) (fun _ => 30) (fun _ => 1)) :
    Calls Try.prog 7 #[szI s f L] w fun e w' => szE s f e ∧ Below w.heap.size w w' := by
  have hr := sizes_right s f hs hf ZN Z0
  by_cases hw : (f : Int) * 440 < (s : Int)
  · rw [decide_eq_true hw] at hr
    have hfit := sizes_fits s f hs hf ZN Z0
    refine (encode_good 1 0 0 0 1 s 0 0 ByteArray.empty none (some ⟨L, 0, none⟩) 0 0 1 1 L 0 0 0 _ _ _ ZN ZA Z0 Z0 ZB w h (noXa w) (fun i hi => absurd hi (Nat.not_lt_zero _)) (by unfold W; omega) (by unfold W; omega) hr hfit).mono ?_
    rintro e w' ⟨v, rfl, ⟨Lv, Ov, _, hv⟩, hb⟩
    obtain ⟨a, c, rfl, _⟩ := id hv
    refine ⟨?_, hb⟩
    unfold szE
    rw [if_pos hw]
    rw [pay_len hfit (fun i hi => absurd hi (Nat.not_lt_zero _))]
    exact ⟨a, c, rfl⟩
  · rw [decide_eq_false hw] at hr
    refine (encode_bad 1 0 0 0 1 s 0 0 ByteArray.empty none (some ⟨L, 0, none⟩) 0 0 1 1 L 0 0 0 _ _ _ ZN ZA Z0 Z0 w h (noXa w) hr).mono ?_
    rintro e w' ⟨rfl, hb⟩
    refine ⟨?_, hb⟩
    unfold szE
    rw [if_neg hw]
theorem fixed_ino (w : World) : Calls Try.prog 8 #[] w fun e w' => e = .returned (.bool true) ∧ Below w.heap.size w w' :=
  fixed_of (Lib.hid fun w => encode_good 1 420 0 0 1 0 0 0 ByteArray.empty none none 0 0 0 0 0 0 0 0 Z1 Z1 Z1 ZN ZA Z0 Z0 ZB w (noEx w) (noXa w) (fun i hi => absurd hi (Nat.not_lt_zero _)) (by unfold W; omega) (by unfold W; omega) fixed_right fixed_fits) w
theorem sizes_walk (x y : Int) (w : World) : Calls Try.prog 3 #[.int .i64 x, .int .i64 y] w fun e w' => e = .returned (.bool true) ∧ Below w.heap.size w w' :=
  sizes_of (Lib.hid fun s f L w hs hf h => encode_sz s f L w hs hf h) (Lib.hid fixed_ino) x y w
theorem sizes_frame (x y : Int) (w : World) (hx : (Lit.int .i64 x).wf = true) (hy : (Lit.int .i64 y).wf = true) : Calls Try.prog 3 #[.int .i64 x, .int .i64 y] w fun e w' => e = .returned (.bool true) ∧ Below w.heap.size w w' :=
  sizes_walk x y w
end Go.Proofs.Ytebnekpccdcnmaa
