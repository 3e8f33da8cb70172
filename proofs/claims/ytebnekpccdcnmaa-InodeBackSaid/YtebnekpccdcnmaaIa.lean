/- The layer inode: an inode as a value; free. -/
import Derived.Test.YtebnekpccdcnmaaEs
import Derived.Test.YtebnekpccdcnmaaCw
import Derived.Test.YtebnekpccdcnmaaRc
namespace Go.Proofs.Ytebnekpccdcnmaa
set_option linter.unusedVariables false
set_option linter.unusedSimpArgs false
open Go.RowKit

/-- An inode. -/
structure Ino where
  (k m u g l s : Int)
  (t0 t1 : Nat)
  ln : ByteArray
  (xa : Option Addr)
  (xn xc : Nat)
  (ea : Option Addr)
  (en ec : Nat)
def Ino.val (x : Ino) : Value := .agg #[.int .i64 x.k, .int .i64 x.m, .int .i64 x.u, .int .i64 x.g, .int .i64 x.l, .int .i64 x.s, .float .f64 x.t0, .float .f64 x.t1, .string x.ln, .slice x.xa x.xn x.xc, .slice x.ea x.en x.ec]

theorem ret_bool {v : Value} {b R : Bool} (hv : v = .bool b) (h : b = R) : Ending.returned v = .returned (.bool R) := by rw [hv, h]
/-- Is it the free inode? -/
def freeB (k m u g l s : Int) (t0 t1 : Nat) (ln : ByteArray) (xn en : Nat) : Bool :=
  k == 0 && (m == 0 && (u == 0 && (g == 0 && (l == 0 && (s == 0 && ((t0 : Int) == 0 && ((t1 : Int) == 0 && (ln.toList.isEmpty && ((xn : Int) == 0 && (en : Int) == 0)))))))))

set_option maxRecDepth 100000 in
theorem free_any (k m u g l s : Int) (t0 t1 : Nat) (ln : ByteArray) (xa ea : Option Addr) (xn xc en ec : Nat) (w : World) :
    Calls Try.prog 19 #[(Ino.mk k m u g l s t0 t1 ln xa xn xc ea en ec).val] w fun e w' => e = .returned (.bool (freeB k m u g l s t0 t1 ln xn en)) ∧ Below w.heap.size w w' := by
  unfold Ino.val
  dsimp only
  have hf := run_bits
  obtain ⟨R, hR⟩ : ∃ R, Hid (freeB k m u g l s t0 t1 ln xn en = R) := ⟨_, rfl⟩
  rw [hR.out]
  go_enter Try.func19, Try.ntmps19
  go_wp2
  all_goals (go_ret; refine ⟨ret_bool rfl ?_, (Below.refl _ _).alloc (Nat.le_refl _) _⟩)
  all_goals (rw [← hR.out]; unfold freeB; clear hf; simp [*])
end Go.Proofs.Ytebnekpccdcnmaa
