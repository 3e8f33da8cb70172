/- Walks of the layer extent: Find; of the reference: Home, Count. -/
import Derived.Test.YtebnekpccdcnmaaEr
import Derived.Deep.QuietTactic
import Derived.BigQuiet
import Derived.Deep.Draws
namespace Go.Proofs.Ytebnekpccdcnmaa
set_option linter.unusedVariables false
set_option linter.unusedSimpArgs false
open Go.RowKit

theorem below_drewN {B : Nat} {a w : World} (h : Below B a w) (n : Nat) : Below B a (w.drewN n) := ⟨h.os, h.tape, h.output, h.size, h.block⟩
theorem hm_home {F H N : Nat → Int} {m : Nat} {b : Int} (hr : RightP m F H N) {i : Nat} (hi : i < m) (h : F i ≤ b ∧ b < F i + N i) : H i + b - F i = hm F H N m b - 1 := by
  rw [hm_of hr hi h]; omega

/-- The reference's Home of a right list: -1 of a hole. -/
theorem home_any (a : Option Addr) (n c L off : Nat) (F H N : Nat → Int) (b : Int) (w : World) (h : ExAt w L off a n c F H N) (hr : Right n F H N) (hb0 : 0 ≤ b) (hb1 : b < 40) :
    Calls Try.prog 29 #[.slice a n c, .int .i64 b] w fun e w' => e = .returned (.int .i64 (hm F H N n b - 1)) ∧ Below w.heap.size w w' := by
  have HB := Lib.hid h
  have hn9 : n ≤ 40 := hr.1
  have HR := Lib.hid hr
  clear h hr
  go_enter Try.func29, Try.ntmps29
  go_wp2_with fail
  go_loopw [5] (fun i wr => ∃ j : Nat, j ≤ n ∧ i = .int .i64 j ∧ Hid (Below w.heap.size w wr) ∧ Hid (∀ i, i < j → ¬ (F i ≤ b ∧ b < F i + N i))) (fun i _ => n - (intOf i).toNat)
  case atStart => exact ⟨0, Nat.zero_le _, rfl, Below.refl _ _, fun i hi => by omega⟩
  case round =>
    obtain ⟨j, hj, rfl, hc, hn⟩ := hrel
    by_cases hlt : j < n
    · have HBr := Lib.hid (HB.out.below hc.out)
      obtain ⟨ha, hcell⟩ := HB.out.2.2 (by omega)
      subst ha
      obtain ⟨c0, c1, c2⟩ := (HBr.out.2.2 (by omega)).2 j hlt
      have ho := HR.out.2.one j hlt
      clear hcell
      by_cases hm1 : F j ≤ b ∧ b < F j + N j
      · have HX := Lib.hid (hm_home HR.out.2 hlt hm1)
        have HX := Lib.hid HX.out
        obtain ⟨f, hf⟩ : ∃ f, Hid (F j = f) := ⟨_, rfl⟩
        obtain ⟨hh, hhh⟩ : ∃ hh, Hid (H j = hh) := ⟨_, rfl⟩
        obtain ⟨nn, hnn⟩ : ∃ nn, Hid (N j = nn) := ⟨_, rfl⟩
        have HX : Hid (hh + b - f = hm F H N n b - 1) := by rw [← hhh.out, ← hf.out]; exact HX.out
        rw [hf.out] at c0 ho hm1
        rw [hhh.out] at c1 ho
        rw [hnn.out] at c2 ho hm1
        obtain ⟨o1, o2, o3, o4, o5, o6⟩ := ho
        have d1 : decide (f ≤ b) = true := decide_eq_true hm1.1
        have d2 : decide (b < f + nn) = true := decide_eq_true hm1.2
        obtain ⟨m1, m2⟩ := hm1
        go_wp2_with fail
        go_quiet (fail)
        go_wp2
        go_quiet (fail)
        go_wp2
        go_ret
        exact ⟨by rw [← HX.out]; rfl, below_drewN (below_drewN hc.out _) _⟩
      · have HN : Hid (∀ i, i < j + 1 → ¬ (F i ≤ b ∧ b < F i + N i)) := fun i hi => by
          by_cases e : i = j
          · rw [e]; exact hm1
          · exact hn.out i (by omega)
        obtain ⟨f, hf⟩ : ∃ f, Hid (F j = f) := ⟨_, rfl⟩
        obtain ⟨hh, hhh⟩ : ∃ hh, Hid (H j = hh) := ⟨_, rfl⟩
        obtain ⟨nn, hnn⟩ : ∃ nn, Hid (N j = nn) := ⟨_, rfl⟩
        rw [hf.out] at c0 ho hm1
        rw [hhh.out] at c1 ho
        rw [hnn.out] at c2 ho hm1
        obtain ⟨o1, o2, o3, o4, o5, o6⟩ := ho
        rcases (show decide (f ≤ b) = false ∨ (decide (f ≤ b) = true ∧ decide (b < f + nn) = false) by
          by_cases q : f ≤ b
          · exact Or.inr ⟨decide_eq_true q, decide_eq_false (by omega)⟩
          · exact Or.inl (decide_eq_false q)) with d1 | ⟨d1, d2⟩
        all_goals
          clear hm1
          go_wp2_with fail
          go_quiet (fail)
          go_wp2
          go_roundw
          case rel => exact ⟨j + 1, by omega, by go_num, below_drewN hc.out _, HN⟩
          case measure => simp [intOf]; omega
    · have hjn : j = n := by omega
      have HX : Hid (hm F H N n b = 0) := hm_none (by rw [← hjn]; exact hn.out)
      clear hjn
      go_wp2
      go_ret
      exact ⟨by rw [HX.out]; rfl, hc.out⟩
end Go.Proofs.Ytebnekpccdcnmaa
