/- Walks of the layer extent: Count. -/
import Derived.Test.YtidifimhgnjomaaEc
namespace Go.Proofs.Ytidifimhgnjomaa
set_option linter.unusedVariables false
set_option linter.unusedSimpArgs false
open Go.RowKit

/-- How many blocks lie in the first m extents. -/
def sumN (N : Nat → Int) : Nat → Int
  | 0 => 0
  | m + 1 => sumN N m + N m
theorem sumN_bd {F H N : Nat → Int} {m : Nat} (h : RightP m F H N) : 0 ≤ sumN N m ∧ sumN N m ≤ 40 * m := by
  induction m with
  | zero => exact ⟨Int.le_refl _, by simp [sumN]⟩
  | succ m ih =>
    have h1 := ih h.less
    have h2 := h.one m (by omega)
    unfold sumN
    have := h2.1
    have := h2.2.1
    omega

open Classical in
noncomputable def cntE (n : Nat) (F H N : Nat → Int) : Int := if Right n F H N then sumN N n else 0

theorem countE_any (a : Option Addr) (n c L off : Nat) (F H N : Nat → Int) (w : World) (h : ExAt w L off a n c F H N) :
    Calls Try.prog 10 #[.slice a n c] w fun e w' => e = .returned (.int .i64 (cntE n F H N)) ∧ Below w.heap.size w w' := by
  have HB := Lib.hid h
  clear h
  by_cases hr : Right n F H N
  · have HC : Hid (chk n F H N = 0) := chk_good hr
    have HX : Hid (cntE n F H N = sumN N n) := by show cntE n F H N = _; unfold cntE; rw [if_pos hr]
    have HR := Lib.hid hr
    have hn40 : n ≤ 40 := hr.1
    clear hr
    go_enter Try.func10, Try.ntmps10
    go_wp2_with (go_at_call 11; refine (check_any _ _ _ _ _ _ _ _ _ HB.out).mono ?_; rintro e w1 ⟨rfl, hb⟩; rw [HC.out]; have HW1 := Lib.hid hb; clear hb)
    go_loopw [3, 11] (fun v i wr => ∃ k : Nat, ∃ q : Int, k ≤ n ∧ i = .int .i64 k ∧ v = .int .i64 q ∧ Hid (q = sumN N k) ∧ Hid (Below w.heap.size w wr)) (fun _ i _ => n - (intOf i).toNat)
    case atStart => exact ⟨0, 0, Nat.zero_le _, rfl, rfl, rfl, HW1.out⟩
    case round =>
      obtain ⟨k, q, hk, rfl, rfl, hq, hw⟩ := hrel
      by_cases hlt : k < n
      · have hbd := sumN_bd (HR.out.2.down hk)
        rw [← hq.out] at hbd
        obtain ⟨hq0, hq1⟩ := hbd
        have ho := HR.out.2.one k hlt
        have HL := Lib.hid (HB.out.below hw.out)
        obtain ⟨ha, hc⟩ := HL.out.2.2 (by omega)
        subst ha
        obtain ⟨c0, c1, c2⟩ := hc k hlt
        have HS : Hid (q + N k = sumN N (k + 1)) := by show _ = _; rw [sumN, hq.out]
        have hn0 := ho.1
        have hn1 := ho.2.1
        have HE : Hid (Below w.heap.size w (wr.alloc (.cells #[.int .i64 (F k), .int .i64 (H k), .int .i64 (N k)] 54))) := hw.out.alloc hw.out.size _
        clear hc ho
        generalize N k = nk at *
        generalize F k = fk at *
        generalize H k = hk' at *
        go_wp2
        go_roundw
        case rel => exact ⟨k + 1, _, by omega, by go_num, rfl, HS, HE.out⟩
        case measure => simp [intOf]; omega
      · have hkn : k = n := by omega
        have HQ : Hid (q = sumN N n) := by show q = _; rw [← hkn]; exact hq.out
        clear hkn
        go_wp2
        go_ret
        exact ⟨by rw [HX.out, ← HQ.out]; rfl, hw.out⟩
  · have HC : Hid (chk n F H N = 3) := chk_bad hr
    have HX : Hid (cntE n F H N = 0) := by show cntE n F H N = _; unfold cntE; rw [if_neg hr]
    clear hr
    go_enter Try.func10, Try.ntmps10
    go_wp2_with (go_at_call 11; refine (check_any _ _ _ _ _ _ _ _ _ HB.out).mono ?_; rintro e w1 ⟨rfl, hb⟩; rw [HC.out]; have HW1 := Lib.hid hb; clear hb)
    go_ret
    exact ⟨by rw [HX.out]; rfl, HW1.out⟩
end Go.Proofs.Ytidifimhgnjomaa
