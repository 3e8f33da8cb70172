/- Walks of the reference of the layer extent: Right. -/
import Derived.Test.YtebnekpccdcnmaaEq
import Derived.Outline
namespace Go.Proofs.Ytebnekpccdcnmaa
set_option linter.unusedVariables false
set_option linter.unusedSimpArgs false
open Go.RowKit

open Classical in
/-- What Right answers. -/
noncomputable def rgt (n : Nat) (F H N : Nat → Int) : Bool := if Right n F H N then true else false
theorem rgt_bad {n : Nat} {F H N : Nat → Int} (h : ¬ Right n F H N) : rgt n F H N = false := by unfold rgt; rw [if_neg h]
theorem rgt_good {n : Nat} {F H N : Nat → Int} (h : Right n F H N) : rgt n F H N = true := by unfold rgt; rw [if_pos h]

set_option maxRecDepth 100000 in
set_option maxHeartbeats 1600000 in
theorem right_any (a : Option Addr) (n c L off : Nat) (F H N : Nat → Int) (w : World) (h : ExAt w L off a n c F H N) :
    Calls Try.prog 27 #[.slice a n c] w fun e w' => e = .returned (.bool (rgt n F H N)) ∧ Below w.heap.size w w' := by
  have HB := Lib.hid h
  have hn9 : n ≤ 9223372036854775807 := by have := h.1; have := h.2.1; omega
  clear h
  by_cases h40 : 40 < n
  · have HX : Hid (rgt n F H N = false) := rgt_bad (fun h => by have := h.1; omega)
    go_enter Try.func27, Try.ntmps27
    go_wp2
    go_ret
    exact ⟨by rw [HX.out]; rfl, Below.refl _ _⟩
  · have HN40 : Hid (n ≤ 40) := by show n ≤ 40; omega
    go_enter Try.func27, Try.ntmps27
    go_wp2_with fail
    go_loopw [3] (fun i wr => ∃ j : Nat, j ≤ n ∧ i = .int .i64 j ∧ Hid (Below w.heap.size w wr ∧ RightP j F H N)) (fun i _ => n - (intOf i).toNat)
    case atStart => exact ⟨0, Nat.zero_le _, rfl, Below.refl _ _, RightP.zero F H N⟩
    case round =>
      obtain ⟨j, hj, rfl, hc⟩ := hrel
      by_cases hlt : j < n
      · have HBr := Lib.hid (HB.out.below hc.out.1)
        obtain ⟨ha, hcell⟩ := HB.out.2.2 (by omega)
        subst ha
        obtain ⟨c0, c1, c2⟩ := (HBr.out.2.2 (by omega)).2 j hlt
        clear hcell
        obtain ⟨f, hf⟩ : ∃ f, Hid (F j = f) := ⟨_, rfl⟩
        obtain ⟨hh, hhh⟩ : ∃ hh, Hid (H j = hh) := ⟨_, rfl⟩
        obtain ⟨nn, hnn⟩ : ∃ nn, Hid (N j = nn) := ⟨_, rfl⟩
        rw [hf.out] at c0
        rw [hhh.out] at c1
        rw [hnn.out] at c2
        go_upto_block 1 with fail
        go_cut [] (fun wx => Hid (Below w.heap.size w wx ∧ RightP (j + 1) F H N))
        case first =>
          by_cases h1 : oneP f hh nn
          · have HO := Lib.hid h1
            obtain ⟨o1, o2, o3, o4, o5, o6⟩ := h1
            have d1 : decide (nn < 1) = false := decide_eq_false (by omega)
            have d2 : decide (40 < nn) = false := decide_eq_false (by omega)
            have d3 : decide (f < 0) = false := decide_eq_false (by omega)
            have d4 : decide (40 < f) = false := decide_eq_false (by omega)
            have d5 : decide (40 < f + nn) = false := decide_eq_false (by omega)
            have d6 : decide (hh < 0) = false := decide_eq_false (by omega)
            have d7 : decide (256 < hh) = false := decide_eq_false (by omega)
            have d8 : decide (256 < hh + nn) = false := decide_eq_false (by omega)
            go_upto_block 2 with fail
            have HE : Hid (Below w.heap.size w (wr.alloc (.cells #[.int .i64 f, .int .i64 hh, .int .i64 nn] 25))) := hc.out.1.alloc hc.out.1.size _
            have HX3 := Lib.hid (X3.new wr f hh nn 25)
            have HR := Lib.hid hc.out.2
            have HXs : Hid (w.heap.size ≤ wr.heap.size) := hc.out.1.size
            have HXl : Hid (wr.heap.size < (wr.alloc (.cells #[.int .i64 f, .int .i64 hh, .int .i64 nn] 25)).heap.size) := by show _ < _; simp
            clear hc HBr c0 c1 c2
            generalize wr.alloc (.cells #[.int .i64 f, .int .i64 hh, .int .i64 nn] 25) = w1 at HE HX3 HXl ⊢
            obtain ⟨X, hX⟩ : ∃ X, Hid (wr.heap.size = X) := ⟨_, rfl⟩
            rw [hX.out] at HX3 HXs HXl ⊢
            go_wp2_with fail
            go_loopw [5] (fun i wx => ∃ k : Nat, k ≤ j ∧ i = .int .i64 k ∧ Hid (Below w.heap.size w wx ∧ X3 wx X f hh nn ∧ X < wx.heap.size) ∧ Hid (∀ i, i < k → F i + N i ≤ f ∧ (H i + N i ≤ hh ∨ hh + nn ≤ H i) ∧ (i + 1 = j → ¬ (f = F i + N i ∧ hh = H i + N i)))) (fun i _ => j - (intOf i).toNat)
            case atStart => exact ⟨0, Nat.zero_le _, rfl, ⟨HE.out, HX3.out, HXl.out⟩, fun i hi => by omega⟩
            case round =>
              obtain ⟨k, hk, rfl, hr, hp⟩ := hrel
              by_cases hkj : k < j
              · have HL := Lib.hid (HB.out.below hr.out.1)
                obtain ⟨c0, c1, c2⟩ := (HL.out.2.2 (by omega)).2 k (by omega)
                obtain ⟨x0, x1, x2⟩ := hr.out.2.1
                have ho := HR.out.one k hkj
                obtain ⟨fp, hfp⟩ : ∃ fp, Hid (F k = fp) := ⟨_, rfl⟩
                obtain ⟨hp', hhp⟩ : ∃ hp, Hid (H k = hp) := ⟨_, rfl⟩
                obtain ⟨np, hnp⟩ : ∃ np, Hid (N k = np) := ⟨_, rfl⟩
                rw [hfp.out, hhp.out, hnp.out] at ho
                rw [hfp.out] at c0
                rw [hhp.out] at c1
                rw [hnp.out] at c2
                obtain ⟨p1, p2, p3, p4, p5, p6⟩ := ho
                have hXl := hr.out.2.2
                have hal : Hid (Below wr.heap.size wr (wr.alloc (.cells #[.int .i64 fp, .int .i64 hp', .int .i64 np] 25))) := (Below.refl _ _).alloc (Nat.le_refl _) _
                have HE2 : Hid (Below w.heap.size w (wr.alloc (.cells #[.int .i64 fp, .int .i64 hp', .int .i64 np] 25))) := hr.out.1.trans (hal.out.mono hr.out.1.size)
                by_cases kA : f < fp + np
                · have HX : Hid (rgt n F H N = false) := rgt_bad (fun h => by have := h.2.chain j k hkj hlt; rw [hfp.out, hnp.out, hf.out] at this; omega)
                  have dA : decide (f < fp + np) = true := decide_eq_true kA
                  clear kA
                  go_wp2
                  go_ret
                  exact ⟨by rw [HX.out]; rfl, HE2.out⟩
                · have dA : decide (f < fp + np) = false := decide_eq_false kA
                  by_cases kB : hh < hp' + np ∧ hp' < hh + nn
                  · have HX : Hid (rgt n F H N = false) := rgt_bad (fun h => by have := h.2.apart k j hkj hlt; rw [hhp.out, hnp.out, hhh.out, hnn.out] at this; omega)
                    have dB1 : decide (hh < hp' + np) = true := decide_eq_true kB.1
                    have dB2 : decide (hp' < hh + nn) = true := decide_eq_true kB.2
                    clear kA kB
                    go_wp2
                    go_ret
                    exact ⟨by rw [HX.out]; rfl, HE2.out⟩
                  · by_cases kC : k + 1 = j ∧ f = fp + np ∧ hh = hp' + np
                    · have HX : Hid (rgt n F H N = false) := rgt_bad (fun h => by have := (h.2.next k (by omega)).2; rw [kC.1, hfp.out, hnp.out, hhp.out, hf.out, hhh.out] at this; exact this kC.2)
                      have dC1 : ((k : Int) == (j : Int) - 1) = true := beq_iff_eq.2 (by omega)
                      have dC2 : (f == fp + np) = true := beq_iff_eq.2 kC.2.1
                      have dC3 : (hh == hp' + np) = true := beq_iff_eq.2 kC.2.2
                      rcases (show decide (hh < hp' + np) = false ∨ (decide (hh < hp' + np) = true ∧ decide (hp' < hh + nn) = false) by
                        by_cases q : hh < hp' + np
                        · exact Or.inr ⟨decide_eq_true q, decide_eq_false (by omega)⟩
                        · exact Or.inl (decide_eq_false q)) with dB1 | ⟨dB1, dB2⟩
                      all_goals
                        clear kA kB kC
                        go_wp2
                        go_ret
                        exact ⟨by rw [HX.out]; rfl, HE2.out⟩
                    · have HP : Hid (∀ i, i < k + 1 → F i + N i ≤ f ∧ (H i + N i ≤ hh ∨ hh + nn ≤ H i) ∧ (i + 1 = j → ¬ (f = F i + N i ∧ hh = H i + N i))) := by
                        intro i hi
                        by_cases e : i = k
                        · rw [e, hfp.out, hhp.out, hnp.out]; exact ⟨by omega, by omega, fun e1 e2 => kC ⟨e1, e2⟩⟩
                        · exact hp.out i (by omega)
                      have HW : Hid (X3 (wr.alloc (.cells #[.int .i64 fp, .int .i64 hp', .int .i64 np] 25)) X f hh nn ∧ X < (wr.alloc (.cells #[.int .i64 fp, .int .i64 hp', .int .i64 np] 25)).heap.size) := ⟨hr.out.2.1.below hXl hal.out, Nat.lt_of_lt_of_le hXl hal.out.size⟩
                      rcases (show decide (hh < hp' + np) = false ∨ (decide (hh < hp' + np) = true ∧ decide (hp' < hh + nn) = false) by
                        by_cases q : hh < hp' + np
                        · exact Or.inr ⟨decide_eq_true q, decide_eq_false (by omega)⟩
                        · exact Or.inl (decide_eq_false q)) with dB1 | ⟨dB1, dB2⟩
                      all_goals rcases (show ((k : Int) == (j : Int) - 1) = false ∨ (((k : Int) == (j : Int) - 1) = true ∧ (f == fp + np) = false) ∨ (((k : Int) == (j : Int) - 1) = true ∧ (f == fp + np) = true ∧ (hh == hp' + np) = false) by
                        by_cases q1 : k + 1 = j
                        · by_cases q2 : f = fp + np
                          · exact Or.inr (Or.inr ⟨beq_iff_eq.2 (by omega), beq_iff_eq.2 q2, beq_eq_false_iff_ne.2 (fun q3 => kC ⟨q1, q2, q3⟩)⟩)
                          · exact Or.inr (Or.inl ⟨beq_iff_eq.2 (by omega), beq_eq_false_iff_ne.2 q2⟩)
                        · exact Or.inl (beq_eq_false_iff_ne.2 (by omega))) with dC1 | ⟨dC1, dC2⟩ | ⟨dC1, dC2, dC3⟩
                      all_goals
                        clear kA kB kC
                        go_wp2
                        go_roundw
                        case rel => exact ⟨k + 1, by omega, by go_num, ⟨HE2.out, HW.out⟩, HP.out⟩
                        case measure => simp [intOf]; omega
              · have hkj' : k = j := by omega
                have HF : Hid (Below w.heap.size w wr ∧ RightP (j + 1) F H N) := by
                  refine ⟨hr.out.1, HR.out.more (by rw [hf.out, hhh.out, hnn.out]; exact HO.out) (fun i hi => ?_) (fun i hi => ?_)⟩
                  · rw [hf.out, hhh.out]; exact ⟨(hp.out i (by omega)).1, (hp.out i (by omega)).2.2 hi⟩
                  · rw [hhh.out, hnn.out]; exact (hp.out i (by omega)).2.1
                clear hkj'
                go_wp2
                go_meet
                exact HF.out
          · have HX : Hid (rgt n F H N = false) := rgt_bad (fun h => h1 (by have := h.2.one j hlt; rw [hf.out, hhh.out, hnn.out] at this; exact this))
            have HE : Hid (Below w.heap.size w (wr.alloc (.cells #[.int .i64 f, .int .i64 hh, .int .i64 nn] 25))) := hc.out.1.alloc hc.out.1.size _
            have H1 := Lib.hid h1
            clear h1
            go_wp2
            all_goals first | (go_ret; exact ⟨by rw [HX.out]; rfl, HE.out⟩) | (exfalso; apply H1.out; unfold oneP; omega)
        case rest =>
          have HCN := Lib.hid hcut.out
          clear hcut
          go_wp2
          go_roundw
          case rel => exact ⟨j + 1, by omega, by go_num, HCN.out⟩
          case measure => simp [intOf]; omega
      · have hjn : j = n := by omega
        have HX : Hid (rgt n F H N = true) := rgt_good ⟨HN40.out, by rw [← hjn]; exact hc.out.2⟩
        clear hjn
        go_wp2
        go_ret
        exact ⟨by rw [HX.out]; rfl, hc.out.1⟩
end Go.Proofs.Ytebnekpccdcnmaa
