/- Walks of the layer extent: Find; of the reference: Home, Count. -/
import Derived.Test.YtidifimhgnjomaaEr
import Derived.Deep.QuietTactic
import Derived.BigQuiet
import Derived.Deep.Draws
namespace Go.Proofs.Ytidifimhgnjomaa
set_option linter.unusedVariables false
set_option linter.unusedSimpArgs false
open Go.RowKit

theorem below_drewN {B : Nat} {a w : World} (h : Below B a w) (n : Nat) : Below B a (w.drewN n) := ⟨h.os, h.tape, h.output, h.size, h.block⟩
theorem hm_home {F H N : Nat → Int} {m : Nat} {b : Int} (hr : RightP m F H N) {i : Nat} (hi : i < m) (h : F i ≤ b ∧ b < F i + N i) : H i + b - F i = hm F H N m b - 1 := by
  rw [hm_of hr hi h]; omega

/-- The reference's Home of a right list: -1 of a hole. -/
theorem home_any (a : Option Addr) (n c L off : Nat) (F H N : Nat → Int) (b : Int) (w : World) (h : ExAt w L off a n c F H N) (hr : Right n F H N) (hb0 : 0 ≤ b) (hb1 : b < 40) :
    Calls Try.prog 16 #[.slice a n c, .int .i64 b] w fun e w' => e = .returned (.int .i64 (hm F H N n b - 1)) ∧ Below w.heap.size w w' := by
  have HB := Lib.hid h
  have hn9 : n ≤ 40 := hr.1
  have HR := Lib.hid hr
  clear h hr
  go_enter Try.func16, Try.ntmps16
  go_wp2_with fail
  go_loopw [5] (fun i wr => ∃ j : Nat, j ≤ n ∧ i = .int .i64 j ∧ Hid (Below w.heap.size w wr) ∧ Hid (∀ i, i < j → ¬ (F i ≤ b ∧ b < F i + N i))) (fun i _ => n - (intOf i).toNat)
  case atStart => exact ⟨0, Nat.zero_le _, rfl, Below.refl _ _, fun i hi => by omega⟩
  case round =>
    obtain ⟨j, hj, rfl, hc, hn⟩ := hrel
    by_cases hlt : j < n
    · have HBr := Lib.hid (HB.out.below hc.out)
      obtain ⟨ha, hcell⟩ := HB.out.2.2 (by omega)
      subst ha
      obtain ⟨c0, c1, c2⟩ := (HBr.out.2.2 (by omega)).2 j hlt
      have ho := HR.out.2.one j hlt
      clear hcell
      by_cases hm1 : F j ≤ b ∧ b < F j + N j
      · have HX := Lib.hid (hm_home HR.out.2 hlt hm1)
        have HX := Lib.hid HX.out
        obtain ⟨f, hf⟩ : ∃ f, Hid (F j = f) := ⟨_, rfl⟩
        obtain ⟨hh, hhh⟩ : ∃ hh, Hid (H j = hh) := ⟨_, rfl⟩
        obtain ⟨nn, hnn⟩ : ∃ nn, Hid (N j = nn) := ⟨_, rfl⟩
        have HX : Hid (hh + b - f = hm F H N n b - 1) := by rw [← hhh.out, ← hf.out]; exact HX.out
        rw [hf.out] at c0 ho hm1
        rw [hhh.out] at c1 ho
        rw [hnn.out] at c2 ho hm1
        obtain ⟨o1, o2, o3, o4, o5, o6⟩ := ho
        have d1 : decide (f ≤ b) = true := decide_eq_true hm1.1
        have d2 : decide (b < f + nn) = true := decide_eq_true hm1.2
        obtain ⟨m1, m2⟩ := hm1
        go_wp2_with fail
        go_quiet (fail)
        go_wp2
        go_quiet (fail)
        go_wp2
        go_ret
        exact ⟨by rw [← HX.out]; rfl, below_drewN (below_drewN hc.out _) _⟩
      · have HN : Hid (∀ i, i < j + 1 → ¬ (F i ≤ b ∧ b < F i + N i)) := fun i hi => by
          by_cases e : i = j
          · rw [e]; exact hm1
          · exact hn.out i (by omega)
        obtain ⟨f, hf⟩ : ∃ f, Hid (F j = f) := ⟨_, rfl⟩
        obtain ⟨hh, hhh⟩ : ∃ hh, Hid (H j = hh) := ⟨_, rfl⟩
        obtain ⟨nn, hnn⟩ : ∃ nn, Hid (N j = nn) := ⟨_, rfl⟩
        rw [hf.out] at c0 ho hm1
        rw [hhh.out] at c1 ho
        rw [hnn.out] at c2 ho hm1
        obtain ⟨o1, o2, o3, o4, o5, o6⟩ := ho
        rcases (show decide (f ≤ b) = false ∨ (decide (f ≤ b) = true ∧ decide (b < f + nn) = false) by
          by_cases q : f ≤ b
          · exact Or.inr ⟨decide_eq_true q, decide_eq_false (by omega)⟩
          · exact Or.inl (decide_eq_false q)) with d1 | ⟨d1, d2⟩
        all_goals
          clear hm1
          go_wp2_with fail
          go_quiet (fail)
          go_wp2
          go_roundw
          case rel => exact ⟨j + 1, by omega, by go_num, below_drewN hc.out _, HN⟩
          case measure => simp [intOf]; omega
    · have hjn : j = n := by omega
      have HX : Hid (hm F H N n b = 0) := hm_none (by rw [← hjn]; exact hn.out)
      clear hjn
      go_wp2
      go_ret
      exact ⟨by rw [HX.out]; rfl, hc.out⟩

theorem refCount_any (a : Option Addr) (n c L off : Nat) (F H N : Nat → Int) (w : World) (h : ExAt w L off a n c F H N) :
    Calls Try.prog 15 #[.slice a n c] w fun e w' => e = .returned (.int .i64 (cntE n F H N)) ∧ Below w.heap.size w w' := by
  have HB := Lib.hid h
  clear h
  by_cases hr : Right n F H N
  · have HC : Hid (rgt n F H N = true) := rgt_good hr
    have HX : Hid (cntE n F H N = sumN N n) := by show cntE n F H N = _; unfold cntE; rw [if_pos hr]
    have HR := Lib.hid hr
    have hn40 : n ≤ 40 := hr.1
    clear hr
    go_enter Try.func15, Try.ntmps15
    go_wp2_with (go_at_call 14; refine (right_any _ _ _ _ _ _ _ _ _ HB.out).mono ?_; rintro e w1 ⟨rfl, hb⟩; rw [HC.out]; have HW1 := Lib.hid hb; clear hb)
    go_loopw [3, 4] (fun v i wr => ∃ k : Nat, ∃ q : Int, k ≤ n ∧ i = .int .i64 k ∧ v = .int .i64 q ∧ Hid (q = sumN N k) ∧ Hid (Below w.heap.size w wr)) (fun _ i _ => n - (intOf i).toNat)
    case atStart => exact ⟨0, 0, Nat.zero_le _, rfl, rfl, rfl, HW1.out⟩
    case round =>
      obtain ⟨k, q, hk, rfl, rfl, hq, hw⟩ := hrel
      by_cases hlt : k < n
      · have hbd := sumN_bd (HR.out.2.down hk)
        rw [← hq.out] at hbd
        obtain ⟨hq0, hq1⟩ := hbd
        have ho := HR.out.2.one k hlt
        have HL := Lib.hid (HB.out.below hw.out)
        obtain ⟨ha, hc⟩ := HL.out.2.2 (by omega)
        subst ha
        obtain ⟨c0, c1, c2⟩ := hc k hlt
        have HS : Hid (q + N k = sumN N (k + 1)) := by show _ = _; rw [sumN, hq.out]
        have hn0 := ho.1
        have hn1 := ho.2.1
        clear hc ho
        generalize N k = nk at *
        generalize F k = fk at *
        generalize H k = hk' at *
        go_wp2
        go_roundw
        case rel => exact ⟨k + 1, _, by omega, by go_num, rfl, HS, hw.out⟩
        case measure => simp [intOf]; omega
      · have hkn : k = n := by omega
        have HQ : Hid (q = sumN N n) := by show q = _; rw [← hkn]; exact hq.out
        clear hkn
        go_wp2
        go_ret
        exact ⟨by rw [HX.out, ← HQ.out]; rfl, hw.out⟩
  · have HC : Hid (rgt n F H N = false) := rgt_bad hr
    have HX : Hid (cntE n F H N = 0) := by show cntE n F H N = _; unfold cntE; rw [if_neg hr]
    clear hr
    go_enter Try.func15, Try.ntmps15
    go_wp2_with (go_at_call 14; refine (right_any _ _ _ _ _ _ _ _ _ HB.out).mono ?_; rintro e w1 ⟨rfl, hb⟩; rw [HC.out]; have HW1 := Lib.hid hb; clear hb)
    go_ret
    exact ⟨by rw [HX.out]; rfl, HW1.out⟩

open Classical in
/-- What Find answers: the home, and the error. -/
noncomputable def findV (n : Nat) (F H N : Nat → Int) (b : Int) : Int × Int :=
  if Right n F H N then (if 0 ≤ b ∧ b < 40 then (if hm F H N n b = 0 then (0, 4) else (hm F H N n b - 1, 0)) else (0, 2)) else (0, 3)

theorem find_any (a : Option Addr) (n c L off : Nat) (F H N : Nat → Int) (b : Int) (w : World) (h : ExAt w L off a n c F H N) (hb9 : -9223372036854775808 ≤ b ∧ b ≤ 9223372036854775807) :
    Calls Try.prog 9 #[.slice a n c, .int .i64 b] w fun e w' => e = .returned (.tuple #[.int .i64 (findV n F H N b).1, .int .i64 (findV n F H N b).2]) ∧ Below w.heap.size w w' := by
  have HB := Lib.hid h
  clear h
  by_cases hr : Right n F H N
  · have HC : Hid (chk n F H N = 0) := chk_good hr
    have hn40 : n ≤ 40 := hr.1
    have HR := Lib.hid hr
    by_cases hb : 0 ≤ b ∧ b < 40
    · obtain ⟨hb0, hb1⟩ := hb
      have HX : Hid (findV n F H N b = if hm F H N n b = 0 then (0, 4) else (hm F H N n b - 1, 0)) := by show _ = _; unfold findV; rw [if_pos hr, if_pos ⟨hb0, hb1⟩]
      have d1 : decide (b < 0) = false := decide_eq_false (by omega)
      have d2 : decide (40 ≤ b) = false := decide_eq_false (by omega)
      clear hr
      go_enter Try.func9, Try.ntmps9
      go_wp2_with (go_at_call 11; refine (check_any _ _ _ _ _ _ _ _ _ HB.out).mono ?_; rintro e w1 ⟨rfl, hb⟩; rw [HC.out]; have HW1 := Lib.hid hb; clear hb)
      go_loopw [21] (fun i wr => ∃ j : Nat, j ≤ n ∧ i = .int .i64 j ∧ Hid (Below w.heap.size w wr) ∧ Hid (∀ i, i < j → ¬ (F i ≤ b ∧ b < F i + N i))) (fun i _ => n - (intOf i).toNat)
      case atStart => exact ⟨0, Nat.zero_le _, rfl, HW1.out, fun i hi => by omega⟩
      case round =>
        obtain ⟨j, hj, rfl, hc, hn⟩ := hrel
        by_cases hlt : j < n
        · have HBr := Lib.hid (HB.out.below hc.out)
          obtain ⟨ha, hcell⟩ := HB.out.2.2 (by omega)
          subst ha
          obtain ⟨c0, c1, c2⟩ := (HBr.out.2.2 (by omega)).2 j hlt
          have ho := HR.out.2.one j hlt
          clear hcell
          obtain ⟨f, hf⟩ : ∃ f, Hid (F j = f) := ⟨_, rfl⟩
          obtain ⟨hh, hhh⟩ : ∃ hh, Hid (H j = hh) := ⟨_, rfl⟩
          obtain ⟨nn, hnn⟩ : ∃ nn, Hid (N j = nn) := ⟨_, rfl⟩
          rw [hf.out] at c0 ho
          rw [hhh.out] at c1 ho
          rw [hnn.out] at c2 ho
          obtain ⟨o1, o2, o3, o4, o5, o6⟩ := ho
          have HE : Hid (Below w.heap.size w (wr.alloc (.cells #[.int .i64 f, .int .i64 hh, .int .i64 nn] 54))) := hc.out.alloc hc.out.size _
          by_cases hm1 : f ≤ b ∧ b < f + nn
          · have HX : Hid (findV n F H N b = (hh + b - f, 0)) := by
              show _ = _
              have hx := hm_of HR.out.2 hlt (show F j ≤ b ∧ b < F j + N j by rw [hf.out, hnn.out]; exact hm1)
              have e1 : hm F H N n b = hh + b - f + 1 := by rw [hx, hf.out, hhh.out]; omega
              rw [HX.out, e1, if_neg (by omega)]
              show (_, _) = _
              congr 1; omega
            have d3 : decide (f ≤ b) = true := decide_eq_true hm1.1
            have d4 : decide (b < f + nn) = true := decide_eq_true hm1.2
            obtain ⟨m1, m2⟩ := hm1
            go_wp2
            go_ret2
            exact ⟨by rw [HX.out]; rfl, HE.out⟩
          · have HN : Hid (∀ i, i < j + 1 → ¬ (F i ≤ b ∧ b < F i + N i)) := fun i hi => by
              by_cases e : i = j
              · rw [e, hf.out, hnn.out]; exact hm1
              · exact hn.out i (by omega)
            rcases (show decide (f ≤ b) = false ∨ (decide (f ≤ b) = true ∧ decide (b < f + nn) = false) by
              by_cases q : f ≤ b
              · exact Or.inr ⟨decide_eq_true q, decide_eq_false (by omega)⟩
              · exact Or.inl (decide_eq_false q)) with d3 | ⟨d3, d4⟩
            all_goals
              clear hm1
              go_wp2
              go_roundw
              case rel => exact ⟨j + 1, by omega, by go_num, HE.out, HN⟩
              case measure => simp [intOf]; omega
        · have hjn : j = n := by omega
          have HX : Hid (findV n F H N b = (0, 4)) := by
            show _ = _
            rw [HX.out, if_pos (hm_none (by rw [← hjn]; exact hn.out))]
          clear hjn
          go_wp2
          go_ret2
          exact ⟨by rw [HX.out]; rfl, hc.out⟩
    · have HX : Hid (findV n F H N b = (0, 2)) := by show _ = _; unfold findV; rw [if_pos hr, if_neg hb]
      rcases (show decide (b < 0) = true ∨ (decide (b < 0) = false ∧ decide (40 ≤ b) = true) by
        by_cases q : b < 0
        · exact Or.inl (decide_eq_true q)
        · exact Or.inr ⟨decide_eq_false q, decide_eq_true (by omega)⟩) with d1 | ⟨d1, d2⟩
      all_goals
        clear hr hb
        go_enter Try.func9, Try.ntmps9
        go_wp2_with (go_at_call 11; refine (check_any _ _ _ _ _ _ _ _ _ HB.out).mono ?_; rintro e w1 ⟨rfl, hb⟩; rw [HC.out]; have HW1 := Lib.hid hb; clear hb)
        go_ret2
        exact ⟨by rw [HX.out]; rfl, HW1.out⟩
  · have HC : Hid (chk n F H N = 3) := chk_bad hr
    have HX : Hid (findV n F H N b = (0, 3)) := by show _ = _; unfold findV; rw [if_neg hr]
    clear hr
    go_enter Try.func9, Try.ntmps9
    go_wp2_with (go_at_call 11; refine (check_any _ _ _ _ _ _ _ _ _ HB.out).mono ?_; rintro e w1 ⟨rfl, hb⟩; rw [HC.out]; have HW1 := Lib.hid hb; clear hb)
    go_ret2
    exact ⟨by rw [HX.out]; rfl, HW1.out⟩
end Go.Proofs.Ytidifimhgnjomaa
