/- Walks of the layer inode: within, Bits; of attributes: one. -/
import Derived.Test.YtebnekpccdcnmaaIa
import Derived.Test.YtebnekpccdcnmaaSh
namespace Go.Proofs.Ytebnekpccdcnmaa
set_option linter.unusedVariables false
set_option linter.unusedSimpArgs false
open Go.RowKit

theorem within_any (n m : Int) (w : World) : Calls Try.prog 20 #[.int .i64 n, .int .i64 m] w fun e w' => e = .returned (.bool (decide (0 ≤ n) && decide (n ≤ m))) ∧ w = w' := by
  obtain ⟨R, hR⟩ : ∃ R, Hid ((decide (0 ≤ n) && decide (n ≤ m)) = R) := ⟨_, rfl⟩
  rw [hR.out]
  go_enter Try.func20, Try.ntmps20
  go_wp2
  all_goals (go_ret; refine ⟨ret_bool rfl ?_, rfl⟩)
  all_goals (rw [← hR.out]; (simp [*] <;> (intros; omega)))
/-- clock.Bits -/
theorem bits_any (a : Nat) (w : World) : Calls Try.prog 17 #[.float .f64 a] w fun e w' => e = .returned (.int .u64 (formW a)) ∧ w = w' := by
  have hf := run_bits
  go_enter Try.func17, Try.ntmps17
  go_wp2_with (go_at_call 45; refine (form_any _ _).mono ?_; rintro e w' ⟨rfl, rfl⟩)
  go_ret
  exact ⟨rfl, rfl⟩
/-- May there be such an attribute? -/
def oneX (nm : ByteArray) (vn : Nat) : Bool := decide (1 ≤ (nm.size : Int)) && (decide ((nm.size : Int) ≤ 12) && (!decide (0 ≤ Lib.indexByte nm.data.toList 0) && decide ((vn : Int) ≤ 40)))
theorem oneX_any (nm : ByteArray) (a : Option Addr) (n c : Nat) (w : World) : Calls Try.prog 48 #[.string nm, .slice a n c] w fun e w' => e = .returned (.bool (oneX nm n)) ∧ w = w' := by
  obtain ⟨z, hz⟩ : ∃ z, Hid (decide (0 ≤ Lib.indexByte nm.data.toList 0) = z) := ⟨_, rfl⟩
  obtain ⟨R, hR⟩ : ∃ R, Hid (oneX nm n = R) := ⟨_, rfl⟩
  rw [hR.out]
  go_enter Try.func48, Try.ntmps48
  go_wp2_with (go_at_call 58; refine (Try.strings_Contains_one nm 0 _).mono ?_; rintro e w1 ⟨rfl, hw⟩; rw [hw, hz.out]; clear hw)
  all_goals (go_ret; refine ⟨ret_bool rfl ?_, rfl⟩)
  all_goals (rw [← hR.out]; unfold oneX; rw [hz.out]; (simp [*] <;> (intros; omega)))
end Go.Proofs.Ytebnekpccdcnmaa
