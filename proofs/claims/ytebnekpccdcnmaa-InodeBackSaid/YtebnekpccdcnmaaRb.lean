/- Walks of the reference's reader: Number, Zeros, End. -/
import Derived.Test.YtebnekpccdcnmaaRa
namespace Go.Proofs.Ytebnekpccdcnmaa
set_option linter.unusedVariables false
set_option linter.unusedSimpArgs false
open Go.RowKit
set_option maxRecDepth 100000

theorem refBytes_any (T L off : Nat) (bs : List Int) (k : Nat) (bad : Bool) (n : Int) (w : World) (h : RRdr w T L off bs k bad) (hlen : bs.length ≤ 140737488355328) :
    Calls Try.prog 55 #[.pointer (some ⟨T, 0, none⟩), .int .i64 n] w (RTook w T L off bs k bad n) := by
  by_cases hb : badT (bs.drop k) bad n = true
  · exact refBytes_bad T L off bs k bad n w h hb
  · have hx : ¬ (bad = true ∨ n < 0 ∨ ((bs.drop k).length : Int) < n) := fun hc => hb ((badT_iff _ _ _).2 hc)
    have hsp : bad = false := by cases bad; rfl; exact absurd (Or.inl rfl) hx
    subst hsp
    obtain ⟨m, rfl⟩ := Int.eq_ofNat_of_zero_le (show 0 ≤ n by omega)
    have hk : k ≤ bs.length := by obtain ⟨_, _, _, _, _, hk⟩ := h; exact hk
    rw [List.length_drop] at hx
    have hm : k + m ≤ bs.length := by omega
    exact refBytes_good T L off bs k m w h hm (by omega)

def RNumbered (w : World) (T L off : Nat) (bs : List Int) (k : Nat) (bad : Bool) (n : Int) (e : Ending) (w' : World) : Prop :=
  OnRR w T L off bs (atR bs k (badN bad n) n) (badT (bs.drop k) (badN bad n) n) (.int .u64 (numV (bs.drop k) bad n)) e w'

set_option maxHeartbeats 800000 in
/-- (*cloisterref04.Reader).Number -/
theorem refNumber_rd (T L off : Nat) (bs : List Int) (k : Nat) (bad : Bool) (n : Int) (w : World) (h : RRdr w T L off bs k bad) (hlen : bs.length ≤ 140737488355328) :
    Calls Try.prog 42 #[.pointer (some ⟨T, 0, none⟩), .int .i64 n] w (RNumbered w T L off bs k bad n) := by
  have H := Lib.hid h
  have HLEN := Lib.hid hlen
  clear hlen
  by_cases hn1 : n < 1 ∨ 8 < n
  · have hbN : Hid (badN bad n = true) := by show badN bad n = true; unfold badN; simp; omega
    have HN : Hid (numV (bs.drop k) bad n = 0) := by show numV (bs.drop k) bad n = 0; unfold numV; rw [hbN.out, gotT_bad]; rfl
    have HG : Hid (gotT (bs.drop k) true n = []) := gotT_bad _ n
    have HS := Lib.hid (h.setBad true)
    obtain ⟨ad, l, c, h0, h1, h2, f1, f2, hl, hkl, hlc, hc, hb⟩ := rr_parts h
    clear h h0 h1 f1 hl hkl hlc hc hb
    rcases hn1 with hn1 | hn1
    all_goals
      (try have hn2 : ¬ n < 1 := by omega)
      go_enter Try.func42, Try.ntmps42
      go_wp2_with (go_at_call 55; refine (refBytes_any T L off bs k true n _ HS.out HLEN.out).mono ?_; rintro e w2 ⟨a, l, c, L', ⟨rfl, h2⟩, h3, _⟩; have H2 := Lib.hid h2; have hl := h3.len.1; rw [HG.out] at hl; obtain rfl : l = 0 := hl; clear h2 h3)
      refine wp_loop_rounds 1 ?_
      rw [rounds_succ]
      go_wp2
      go_ret
      refine ⟨by rw [HN.out]; rfl, ?_⟩
      rw [hbN.out]
      exact ⟨H2.out.1, grown_then (grownBy_set _ T 2 _) H2.out.2⟩
  · have hb : badN bad n = bad := by unfold badN; have : decide (n < 1) = false := decide_eq_false (by omega); have h8 : decide (8 < n) = false := decide_eq_false (by omega); rw [this, h8]; simp
    have HN : Hid (numV (bs.drop k) bad n = foldB (gotT (bs.drop k) bad n)) := by show numV (bs.drop k) bad n = _; unfold numV; rw [hb]
    have HB := Lib.hid hb
    have g1 : decide (n < 1) = false := decide_eq_false (by omega)
    have g2 : decide (8 < n) = false := decide_eq_false (by omega)
    have g8 : Hid ((gotT (bs.drop k) bad n).length ≤ 8) := gotT_len _ _ _ (by omega)
    clear hb hn1 h
    go_enter Try.func42, Try.ntmps42
    go_wp2_with (go_at_call 55; refine (refBytes_any T L off bs k bad n _ H.out HLEN.out).mono ?_; rintro e w2 ⟨a, l, c, L', ⟨rfl, h2⟩, h3, _⟩; have H2 := Lib.hid h2; have H3 := Lib.hid h3; clear h2 h3)
    obtain ⟨hl1, hl2, hl3⟩ := H3.out.len
    have hl8 : l ≤ 8 := by rw [hl1]; exact g8.out
    have HL := Lib.hid hl1
    clear hl1 g1 g2
    go_loop [5, 7] (fun v i => ∃ j : Nat, ∃ q : Int, j ≤ l ∧ i = .int .i64 j ∧ v = .int .u64 q ∧ Hid (q = foldB ((gotT (bs.drop k) bad n).take j))) (fun _ i => l - (intOf i).toNat)
    case atStart => exact ⟨0, 0, Nat.zero_le _, rfl, rfl, rfl⟩
    case round =>
      obtain ⟨j, q, hk, rfl, rfl, hq⟩ := hrel
      by_cases hlt : j < l
      · obtain ⟨rfl, hcell⟩ := H3.out.cells (by omega)
        have hc := hcell j hlt
        rw [Nat.zero_add] at hc
        clear hcell
        obtain ⟨hx0, hx1⟩ := range_at H3.out.range j
        have hqb := foldB_bd ((gotT (bs.drop k) bad n).take j) (fun x hx => H3.out.range x (List.mem_of_mem_take hx))
        rw [← hq.out, List.length_take_of_le (by rw [← HL.out]; exact hk)] at hqb
        have hq2 : q < 72057594037927936 := by
          refine Int.lt_of_lt_of_le hqb.2 ?_
          have : ((256 ^ j : Nat) : Int) ≤ ((256 ^ 7 : Nat) : Int) := Int.ofNat_le.2 (Nat.pow_le_pow_right (by decide) (by omega))
          rw [Int.natCast_pow, Int.natCast_pow] at this
          exact Int.le_trans this (by decide)
        have hq0 := hqb.1
        have HQ : Hid (q * 256 + (gotT (bs.drop k) bad n).getD j 0 = foldB ((gotT (bs.drop k) bad n).take (j + 1))) := by
          show _ = _
          rw [foldB_take _ j (by rw [← HL.out]; exact hlt), ← hq.out]
        clear hqb
        generalize (gotT (bs.drop k) bad n).getD j 0 = x at *
        go_wp2
        go_round
        case rel => exact ⟨j + 1, _, by omega, by go_num, rfl, HQ⟩
        case measure => simp [intOf]; omega
      · have hkl : j = l := by omega
        have HQ : Hid (q = foldB (gotT (bs.drop k) bad n)) := by
          have := hq.out
          rw [hkl, List.take_of_length_le (by rw [← HL.out]; exact Nat.le_refl _)] at this
          exact this
        clear hq
        go_wp2
        go_ret
        refine ⟨by rw [HN.out, ← HQ.out]; rfl, ?_⟩
        rw [HB.out]
        exact H2.out

end Go.Proofs.Ytebnekpccdcnmaa
