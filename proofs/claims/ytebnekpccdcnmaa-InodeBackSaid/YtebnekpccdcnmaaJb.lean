/- Walks of the reference of the layer inode: of attributes: Right. -/
import Derived.Test.YtebnekpccdcnmaaJa
namespace Go.Proofs.Ytebnekpccdcnmaa
set_option linter.unusedVariables false
set_option linter.unusedSimpArgs false
open Go.RowKit

set_option maxRecDepth 100000 in
set_option maxHeartbeats 1600000 in
theorem xright_any (a : Option Addr) (n c L off : Nat) (N : Nat → ByteArray) (VA : Nat → Option Addr) (VN VC : Nat → Nat) (w : World) (h : XaAt w L off a n c N VA VN VC) :
    Calls Try.prog 28 #[.slice a n c] w fun e w' => e = .returned (.bool (xrgt n N VN)) ∧ Below w.heap.size w w' := by
  have HB := Lib.hid h
  have hn9 : n ≤ 9223372036854775807 := by have := h.1; have := h.2.1; omega
  clear h
  obtain ⟨R, hR⟩ : ∃ R : Bool, Hid (xrgt n N VN = R) := ⟨_, rfl⟩
  rw [hR.out]
  by_cases h4 : 4 < n
  · have HX : Hid (R = false) := by show _ = _; rw [← hR.out, xrgt_bad (fun h => by have := h.1; omega)]
    go_enter Try.func28, Try.ntmps28
    go_wp2
    go_ret
    exact ⟨by rw [HX.out]; rfl, Below.refl _ _⟩
  · have HN4 : Hid (n ≤ 4) := by show n ≤ 4; omega
    go_enter Try.func28, Try.ntmps28
    go_wp2_with fail
    go_loopw [3] (fun i wr => ∃ j : Nat, j ≤ n ∧ i = .int .i64 j ∧ Hid (Below w.heap.size w wr) ∧ Hid (XGood j N VN)) (fun i _ => n - (intOf i).toNat)
    case atStart => exact ⟨0, Nat.zero_le _, rfl, Below.refl _ _, XGood.zero N VN⟩
    case round =>
      obtain ⟨j, hj, rfl, hc, hg⟩ := hrel
      by_cases hlt : j < n
      · have HBr := Lib.hid (HB.out.below hc.out)
        obtain ⟨ha, hcell⟩ := HBr.out.2.2 (by omega)
        subst ha
        obtain ⟨c0, c1⟩ := hcell j hlt
        obtain ⟨p, hp⟩ : ∃ p, Hid (N j = p) := ⟨_, rfl⟩
        obtain ⟨vn, hvn⟩ : ∃ x, Hid (VN j = x) := ⟨_, rfl⟩
        obtain ⟨va, hva⟩ : ∃ x, Hid (VA j = x) := ⟨_, rfl⟩
        obtain ⟨vc, hvc⟩ : ∃ x, Hid (VC j = x) := ⟨_, rfl⟩
        rw [hp.out] at c0
        rw [hvn.out, hva.out, hvc.out] at c1
        cases ho : oneX p vn with
        | false =>
          have HX : Hid (R = false) := by show _ = _; rw [← hR.out, xrgt_bad (fun h => XGood.bad hlt (by rw [hp.out, hvn.out]; exact ho) h.2)]
          have ho' : ∀ w : World, Calls Try.prog 52 #[.string p, .slice va vn vc] w fun e w' => e = .returned (.bool false) ∧ w' = w := fun w => (refOne_any p va vn vc w).mono fun e w' h => ⟨by rw [h.1, ho], h.2⟩
          have HO := Lib.hid ho'
          clear hcell ho ho'
          go_wp2_with fail
          go_quiet (first | (go_at_call 52; exact Calls.quiet_of_same (HO.out _)))
          go_wp2
          go_ret
          exact ⟨by rw [HX.out]; rfl, below_drewN hc.out _⟩
        | true =>
          have ho' : ∀ w : World, Calls Try.prog 52 #[.string p, .slice va vn vc] w fun e w' => e = .returned (.bool true) ∧ w' = w := fun w => (refOne_any p va vn vc w).mono fun e w' h => ⟨by rw [h.1, ho], h.2⟩
          have HO := Lib.hid ho'
          have HO1 := Lib.hid ho
          clear ho ho'
          rcases (show j = 0 ∨ ∃ i, Hid (i + 1 = j) from by
            cases j with
            | zero => exact Or.inl rfl
            | succ i => exact Or.inr ⟨i, rfl⟩) with rfl | ⟨i, hij⟩
          · have HG1 : Hid (XGood (0 + 1) N VN) := hg.out.next (by rw [hp.out, hvn.out]; exact HO1.out) (fun i hi => by omega)
            clear hcell
            rw [Nat.zero_mul, Nat.add_zero] at c0 c1
            go_wp2_with fail
            go_quiet (first | (go_at_call 52; exact Calls.quiet_of_same (HO.out _)))
            go_wp2
            go_roundw
            case rel => exact ⟨0 + 1, by omega, by go_num, below_drewN hc.out _, HG1⟩
            case measure => simp [intOf]; omega
          · have hij' := hij.out
            obtain ⟨d0, _⟩ := hcell i (by omega)
            obtain ⟨p', hp'⟩ : ∃ p, Hid (N i = p) := ⟨_, rfl⟩
            rw [hp'.out] at d0
            have j0 : 0 < j := by omega
            have j1 : (j : Int) - 1 = (i : Int) := by omega
            have j2 : (i : Int) < (n : Int) := by omega
            have hj1 : j + 1 ≤ n := by omega
            have j4 : IntKind.i64.wrap (i : Int) = (i : Int) := IntWalk.i64_in _ (by omega)
            clear hij'
            clear hcell
            cases hb : Op.bytesLess p'.toList p.toList with
            | true =>
              have HG1 : Hid (XGood (j + 1) N VN) := hg.out.next (by rw [hp.out, hvn.out]; exact HO1.out) (fun i' hi => by
                have := hij.out
                obtain rfl : i' = i := by omega
                rw [hp.out, hp'.out]; exact hb)
              go_wp2_with fail
              go_quiet (first | (go_at_call 52; exact Calls.quiet_of_same (HO.out _)))
              go_wp2
              go_roundw
              case rel => exact ⟨j + 1, hj1, by go_num, below_drewN hc.out _, HG1⟩
              case measure => simp [intOf]; omega
            | false =>
              have HX : Hid (R = false) := by show _ = _; rw [← hR.out, xrgt_bad (fun h => XGood.bad2 (j := i) (by rw [hij.out]; exact hlt) (by rw [hij.out, hp.out, hp'.out]; exact hb) h.2)]
              go_wp2_with fail
              go_quiet (first | (go_at_call 52; exact Calls.quiet_of_same (HO.out _)))
              go_wp2
              go_ret
              exact ⟨by rw [HX.out]; rfl, below_drewN hc.out _⟩
      · obtain rfl : j = n := by omega
        have HX : Hid (R = true) := by show _ = _; rw [← hR.out, xrgt_good ⟨HN4.out, hg.out⟩]
        go_wp2
        go_ret
        exact ⟨by rw [HX.out]; rfl, hc.out⟩
end Go.Proofs.Ytebnekpccdcnmaa
