/- Walks of the reference of the layer inode: Right. -/
import Derived.Test.YtebnekpccdcnmaaJc
namespace Go.Proofs.Ytebnekpccdcnmaa
set_option linter.unusedVariables false
set_option linter.unusedSimpArgs false
open Go.RowKit

def b1B (k s : Int) (ln : ByteArray) : Bool := (k == 2 && decide (1320 < s)) || (!(k == 3) && !ln.toList.isEmpty)
def b2B (k s : Int) (ln : ByteArray) (en : Nat) : Bool := k == 3 && (ln.toList.isEmpty || (decide (64 < (ln.size : Int)) || (!(s == (ln.size : Int)) || decide (0 < en))))
theorem link_split (k s : Int) (ln : ByteArray) (en : Nat) : linkOk k s ln en = (!b1B k s ln && !b2B k s ln en) := by
  unfold linkOk b1B b2B
  by_cases h2 : k = 2
  · subst h2; simp
  · by_cases h3 : k = 3
    · subst h3
      have e : decide (s = (ln.size : Int)) = (s == (ln.size : Int)) := by rw [Bool.eq_iff_iff]; simp
      by_cases he : en = 0
      · subst he; simp [e, Bool.not_or]
      · have : 0 < en := by omega
        simp [he, this]
    · have h2' : (k == 2) = false := beq_eq_false_iff_ne.2 h2
      have h3' : (k == 3) = false := beq_eq_false_iff_ne.2 h3
      rw [if_neg h2, if_neg h3, h2', h3']
      simp

set_option maxRecDepth 100000 in
set_option maxHeartbeats 4000000 in
theorem refRight_any (k m u g l s : Int) (t0 t1 : Nat) (ln : ByteArray) (xa ea : Option Addr) (xn xc en ec L off L' off' : Nat) (F H N : Nat → Int) (XN : Nat → ByteArray) (VA : Nat → Option Addr) (VN VC : Nat → Nat) (w : World) (h : ExAt w L off ea en ec F H N) (hx : XaAt w L' off' xa xn xc XN VA VN VC) (hw0 : W t0) (hw1 : W t1) :
    Calls Try.prog 12 #[(Ino.mk k m u g l s t0 t1 ln xa xn xc ea en ec).val] w fun e w' => e = .returned (.bool (rightB k m u g l s t0 t1 ln xn en F H N XN VN)) ∧ Below w.heap.size w w' := by
  by_cases hk : k = 0
  · subst hk
    rw [right_free]
    have HC : Hid (∀ w, Calls Try.prog 25 #[.agg #[.int .i64 0, .int .i64 m, .int .i64 u, .int .i64 g, .int .i64 l, .int .i64 s, .float .f64 t0, .float .f64 t1, .string ln, .slice xa xn xc, .slice ea en ec]] w fun e w' => e = .returned (.bool (noneB m u g l s t0 t1 ln xn en)) ∧ Below w.heap.size w w') := fun w => nothing_any 0 m u g l s t0 t1 ln xa ea xn xc en ec w
    have HW1 : Hid (Below w.heap.size w (w.alloc (.cells #[.int .i64 0, .int .i64 m, .int .i64 u, .int .i64 g, .int .i64 l, .int .i64 s, .float .f64 t0, .float .f64 t1, .string ln, .slice xa xn xc, .slice ea en ec] 31))) := (Below.refl _ _).alloc (Nat.le_refl _) _
    generalize noneB m u g l s t0 t1 ln xn en = R at HC
    unfold Ino.val
    dsimp only
    go_enter Try.func12, Try.ntmps12
    go_wp2_with (go_at_call 25; refine (HC.out _).mono ?_; rintro e w2 ⟨rfl, hb⟩; have HB2 := Lib.hid (HW1.out.trans (hb.mono HW1.out.size)); clear hb)
    go_ret
    exact ⟨rfl, HB2.out⟩
  · rw [right_kind hk, link_split]
    have hal : Below w.heap.size w (w.alloc (.cells #[.int .i64 k, .int .i64 m, .int .i64 u, .int .i64 g, .int .i64 l, .int .i64 s, .float .f64 t0, .float .f64 t1, .string ln, .slice xa xn xc, .slice ea en ec] 31)) := (Below.refl _ _).alloc (Nat.le_refl _) _
    have HW1 := Lib.hid hal
    have HI := Lib.hid (InoAt.new w k m u g l s t0 t1 ln xa xn xc ea en ec)
    have HE1 := Lib.hid (h.below hal)
    have HX1 := Lib.hid (hx.below hal)
    have HT0w := Lib.hid hw0
    have HT1w := Lib.hid hw1
    clear h hx hal hw0 hw1
    obtain ⟨G, hG⟩ : ∃ b, Hid (goodB k m u g l s = b) := ⟨_, rfl⟩
    obtain ⟨T0, hT0⟩ : ∃ b, Hid (timeB t0 = b) := ⟨_, rfl⟩
    obtain ⟨T1, hT1⟩ : ∃ b, Hid (timeB t1 = b) := ⟨_, rfl⟩
    obtain ⟨q1, hq1⟩ : ∃ b, Hid (b1B k s ln = b) := ⟨_, rfl⟩
    obtain ⟨q2, hq2⟩ : ∃ b, Hid (b2B k s ln en = b) := ⟨_, rfl⟩
    obtain ⟨RG, hRG⟩ : ∃ b, Hid (rgt en F H N = b) := ⟨_, rfl⟩
    obtain ⟨EO, hEO⟩ : ∃ b, Hid (endOk s F N en = b) := ⟨_, rfl⟩
    obtain ⟨XR, hXR⟩ : ∃ b, Hid (xrgt xn XN VN = b) := ⟨_, rfl⟩
    rw [hG.out, hT0.out, hT1.out, hq1.out, hq2.out, hRG.out, hEO.out, hXR.out]
    obtain ⟨R, hR⟩ : ∃ b, Hid ((((G && T0) && T1) && (((!q1 && !q2) && (RG && EO)) && XR)) = b) := ⟨_, rfl⟩
    rw [hR.out]
    unfold Ino.val
    dsimp only
    have hk' : (k == 0) = false := beq_eq_false_iff_ne.2 hk
    go_enter Try.func12, Try.ntmps12
    go_upto_region 4 with fail
    generalize (w.alloc (.cells #[.int .i64 k, .int .i64 m, .int .i64 u, .int .i64 g, .int .i64 l, .int .i64 s, .float .f64 t0, .float .f64 t1, .string ln, .slice xa xn xc, .slice ea en ec] 31)) = w1 at HW1 HI HE1 HX1 ⊢
    obtain ⟨X, hX⟩ : ∃ X, Hid (w.heap.size = X) := ⟨_, rfl⟩
    rw [hX.out] at HI HW1 ⊢
    obtain ⟨c0, c1, c2, c3, c4, c5, c6, c7, c8, c9, c10⟩ := HI.out.cells
    go_cut [67] (fun v wx => v = .bool (!G) ∧ w1 = wx)
    case first =>
      go_wp2
      all_goals (go_meet; refine ⟨val_bool rfl ?_, rfl⟩)
      all_goals (rw [← hG.out, Bool.eq_iff_iff]; unfold goodB; simp; omega)
    case rest =>
      obtain ⟨rfl, rfl⟩ := hcut
      cases G with
      | false =>
        have HX : Hid (R = false) := by show _ = _; rw [← hR.out]; rfl
        go_wp2
        go_ret
        exact ⟨by rw [HX.out]; rfl, by rw [hX.out]; exact HW1.out⟩
      | true =>
        rw [Bool.not_true]
        go_upto_block 0 with fail
        go_cut [] (fun wx => Hid (T0 = true ∧ T1 = true) ∧ Hid (Below X w wx) ∧ Hid (InoAt wx X k m u g l s t0 t1 ln xa xn xc ea en ec) ∧ Hid (ExAt wx L off ea en ec F H N) ∧ Hid (XaAt wx L' off' xa xn xc XN VA VN VC))
        case first =>
          have hf := run_bits
          have hb0 : ((t0 : Int) != ((formW t0 : Nat) : Int)) = !T0 := by rw [← hT0.out]; rfl
          have hb1 : ((t1 : Int) != ((formW t1 : Nat) : Int)) = !T1 := by rw [← hT1.out]; rfl
          have HQ0 : Hid (∀ w, Calls Try.prog 26 #[.float .f64 t0] w fun e w' => e = .returned (.int .u64 (formW t0)) ∧ w' = w) := fun w => (refBits_any t0 w HT0w).mono fun e w' h => ⟨h.1, h.2.symm⟩
          have HQ1 : Hid (∀ w, Calls Try.prog 26 #[.float .f64 t1] w fun e w' => e = .returned (.int .u64 (formW t1)) ∧ w' = w) := fun w => (refBits_any t1 w HT1w).mono fun e w' h => ⟨h.1, h.2.symm⟩
          go_wp2_with fail
          clear c0 c1 c2 c3 c4 c5 c6 c7 c8 c9 c10
          go_loopw [4] (fun i wr => Hid (Below w1.heap.size w1 wr) ∧ (i = .int .i64 0 ∨ (i = .int .i64 1 ∧ T0 = true) ∨ (i = .int .i64 2 ∧ T0 = true ∧ T1 = true))) (fun i _ => 2 - (intOf i).toNat)
          case atStart => exact ⟨Below.refl _ _, Or.inl rfl⟩
          case round =>
            obtain ⟨hbr, hrel⟩ := hrel
            have HIr := Lib.hid (HI.out.below hbr.out)
            obtain ⟨_, _, _, _, _, _, c6, c7, _, _, _⟩ := HIr.out.cells
            rcases hrel with rfl | ⟨rfl, hT⟩ | ⟨rfl, hTT, hTT1⟩
            · cases T0 with
              | false =>
                have HX : Hid (R = false) := by show _ = _; rw [← hR.out]; rfl
                go_wp2_with fail
                go_quiet (first | (go_at_call 26; exact Calls.quiet_of_same (HQ0.out _)))
                go_wp2
                go_ret
                exact ⟨by rw [HX.out]; rfl, by rw [hX.out]; exact below_drewN (HW1.out.trans (hbr.out.mono (by rw [← hX.out]; exact hX.out ▸ HW1.out.size))) _⟩
              | true =>
                go_wp2_with fail
                go_quiet (first | (go_at_call 26; exact Calls.quiet_of_same (HQ0.out _)))
                go_wp2
                go_roundw
                case rel => exact ⟨below_drewN hbr.out _, Or.inr (Or.inl (by simp))⟩
                case measure => simp [intOf]
            · subst hT
              cases T1 with
              | false =>
                have HX : Hid (R = false) := by show _ = _; rw [← hR.out]; simp
                go_wp2_with fail
                go_quiet (first | (go_at_call 26; exact Calls.quiet_of_same (HQ1.out _)))
                go_wp2
                go_ret
                exact ⟨by rw [HX.out]; rfl, by rw [hX.out]; exact below_drewN (HW1.out.trans (hbr.out.mono (by rw [← hX.out]; exact hX.out ▸ HW1.out.size))) _⟩
              | true =>
                go_wp2_with fail
                go_quiet (first | (go_at_call 26; exact Calls.quiet_of_same (HQ1.out _)))
                go_wp2
                go_roundw
                case rel => exact ⟨below_drewN hbr.out _, Or.inr (Or.inr (by simp))⟩
                case measure => simp [intOf]
            · go_wp2
              go_meet
              exact ⟨⟨hTT, hTT1⟩, HW1.out.trans (hbr.out.mono (by rw [← hX.out]; exact hX.out ▸ HW1.out.size)), HIr.out, HE1.out.below hbr.out, HX1.out.below hbr.out⟩
        case rest =>
          obtain ⟨hTT, hb2, hi2, he2, hx2⟩ := hcut
          obtain ⟨rfl, rfl⟩ := hTT.out
          have HB2 := Lib.hid hb2.out
          have HI2 := Lib.hid hi2.out
          have HE2 := Lib.hid he2.out
          have HX2 := Lib.hid hx2.out
          clear hTT hb2 hi2 he2 hx2 HI HE1 HX1 HW1 c0 c1 c2 c3 c4 c5 c6 c7 c8 c9 c10
          obtain ⟨_, _, _, _, _, c5, _, _, c8, c9, c10⟩ := HI2.out.cells
          go_upto_region 11 with fail
          go_cut [98] (fun v wx => v = .bool q1 ∧ wc = wx)
          case first =>
            cases e2 : (k == 2) <;> cases e3 : (k == 3)
            all_goals (have e3' : (k != 3) = !(k == 3) := rfl; rw [e3] at e3'; clear hk hk'; go_wp2)
            all_goals (go_meet; refine ⟨val_bool rfl ?_, rfl⟩)
            all_goals (rw [← hq1.out]; unfold b1B; simp [*])
          case rest =>
            obtain ⟨rfl, rfl⟩ := hcut
            cases q1 with
            | true =>
              have HX : Hid (R = false) := by show _ = _; rw [← hR.out]; simp
              go_wp2
              go_ret
              exact ⟨by rw [HX.out]; rfl, by rw [hX.out]; exact HB2.out⟩
            | false =>
              go_upto_region 13 with fail
              go_cut [125] (fun v wx => v = .bool q2 ∧ wc = wx)
              case first =>
                cases e3 : (k == 3) <;> cases e0 : ln.toList.isEmpty <;> cases e4 : decide ((64 : Int) < (ln.size : Int)) <;> cases e5 : (s == (ln.size : Int))
                all_goals (have e5' : (s != (ln.size : Int)) = !(s == (ln.size : Int)) := rfl; rw [e5] at e5'; clear hk hk'; go_wp2)
                all_goals (go_meet; refine ⟨val_bool rfl ?_, rfl⟩)
                all_goals (rw [← hq2.out]; unfold b2B; simp [*])
              case rest =>
                obtain ⟨rfl, rfl⟩ := hcut
                cases q2 with
                | true =>
                  have HX : Hid (R = false) := by show _ = _; rw [← hR.out]; simp
                  go_wp2
                  go_ret
                  exact ⟨by rw [HX.out]; rfl, by rw [hX.out]; exact HB2.out⟩
                | false =>
                  have HCE : Hid (∀ w, ExAt w L off ea en ec F H N → Calls Try.prog 27 #[.slice ea en ec] w fun e w' => e = .returned (.bool RG) ∧ Below w.heap.size w w') := fun w hw => by
                    have := right_any ea en ec L off F H N w hw
                    rw [hRG.out] at this
                    exact this
                  have HCX : Hid (∀ w, XaAt w L' off' xa xn xc XN VA VN VC → Calls Try.prog 28 #[.slice xa xn xc] w fun e w' => e = .returned (.bool XR) ∧ Below w.heap.size w w') := fun w hw => by
                    have := xright_any xa xn xc L' off' XN VA VN VC w hw
                    rw [hXR.out] at this
                    exact this
                  cases RG with
                  | false =>
                    have HX : Hid (R = false) := by show _ = _; rw [← hR.out]; simp
                    go_wp2_with (go_at_call 27; refine (HCE.out _ HE2.out).mono ?_; rintro e w3 ⟨rfl, hb⟩; have HB3 := Lib.hid (HB2.out.trans (hb.mono (by rw [← hX.out]; exact hX.out ▸ HB2.out.size))); clear hb)
                    go_ret
                    exact ⟨by rw [HX.out]; rfl, by rw [hX.out]; exact HB3.out⟩
                  | true =>
                    cases XR with
                    | false =>
                      have HX : Hid (R = false) := by show _ = _; rw [← hR.out]; simp
                      go_wp2_with (first
                        | (go_at_call 27; refine (HCE.out _ HE2.out).mono ?_; rintro e w3 ⟨rfl, hb⟩; have HI3 := Lib.hid (HI2.out.below hb); have HX3 := Lib.hid (HX2.out.below hb); have HB3 := Lib.hid (HB2.out.trans (hb.mono (by rw [← hX.out]; exact hX.out ▸ HB2.out.size))); clear hb c5 c8 c9 c10; obtain ⟨_, _, _, _, _, _, _, _, _, c9, _⟩ := HI3.out.cells)
                        | (go_at_call 28; refine (HCX.out _ HX3.out).mono ?_; rintro e w4 ⟨rfl, hb⟩; have HB4 := Lib.hid (HB3.out.trans (hb.mono (by rw [← hX.out]; exact hX.out ▸ HB3.out.size))); clear hb))
                      go_ret
                      exact ⟨by rw [HX.out]; rfl, by rw [hX.out]; exact HB4.out⟩
                    | true =>
                      have HXO : Hid (R = EO) := by show _ = _; rw [← hR.out]; simp
                      have HRT : Hid (Right en F H N) := by
                        by_cases q : Right en F H N
                        · exact q
                        · have := hRG.out; rw [rgt_bad q] at this; cases this
                      have HS := Lib.hid (good_size hG.out)
                      clear hq1 hq2 hR hT0 hT1
                      go_wp2_with (first
                        | (go_at_call 27; refine (HCE.out _ HE2.out).mono ?_; rintro e w3 ⟨rfl, hb⟩; have HI3 := Lib.hid (HI2.out.below hb); have HX3 := Lib.hid (HX2.out.below hb); have HE3 := Lib.hid (HE2.out.below hb); have HB3 := Lib.hid (HB2.out.trans (hb.mono (by rw [← hX.out]; exact hX.out ▸ HB2.out.size))); clear hb c5 c8 c9 c10; obtain ⟨_, _, _, _, _, _, _, _, _, c9, _⟩ := HI3.out.cells)
                        | (go_at_call 28; refine (HCX.out _ HX3.out).mono ?_; rintro e w4 ⟨rfl, hb⟩; have HI4 := Lib.hid (HI3.out.below hb); have HE4 := Lib.hid (HE3.out.below hb); have HB4 := Lib.hid (HB3.out.trans (hb.mono (by rw [← hX.out]; exact hX.out ▸ HB3.out.size))); clear hb))
                      clear HI2 HE2 HX2 HB2 HI3 HX3 HE3 HB3 HCE HCX c9 HT0w HT1w hk hk'
                      go_loopw [5] (fun iv wr => ∃ b : Nat, b ≤ 40 ∧ iv = .int .i64 b ∧ Hid (Below w4.heap.size w4 wr) ∧ Hid (∀ b', b' < b → ¬ behind s F H N en b')) (fun iv _ => 40 - (intOf iv).toNat)
                      case atStart => exact ⟨0, Nat.zero_le _, rfl, Below.refl _ _, fun b hb => absurd hb (Nat.not_lt_zero _)⟩
                      case round =>
                        obtain ⟨b, hb40, rfl, hbr, hno⟩ := hrel
                        by_cases hlt : b < 40
                        · have HIr := Lib.hid (HI4.out.below hbr.out)
                          have HEr := Lib.hid (HE4.out.below hbr.out)
                          obtain ⟨_, _, _, _, _, c5, _, _, _, _, c10⟩ := HIr.out.cells
                          by_cases hs : s ≤ (b : Int) * 440
                          · have HH : Hid (∀ w, ExAt w L off ea en ec F H N → Calls Try.prog 29 #[.slice ea en ec, .int .i64 b] w fun e w' => e = .returned (.int .i64 (hm F H N en b - 1)) ∧ Below w.heap.size w w') := fun w hw => home_any ea en ec L off F H N b w hw HRT.out (by omega) (by omega)
                            have HSS := Lib.hid hs
                            have d1 : decide (s ≤ (b : Int) * 440) = true := decide_eq_true hs
                            obtain ⟨hv, hhv⟩ : ∃ x, Hid (hm F H N en b - 1 = x) := ⟨_, rfl⟩
                            rw [hhv.out] at HH
                            clear hs
                            by_cases h0 : 0 ≤ hv
                            · have HX : Hid (R = false) := by
                                show _ = _
                                rw [HXO.out]
                                cases hEO2 : EO with
                                | false => rfl
                                | true => exact absurd ⟨HSS.out, by rw [hhv.out]; exact h0⟩ (end_ok HRT.out HS.out.1 (hEO.out.trans hEO2) b hlt)
                              go_wp2_with (go_at_call 29; refine (HH.out _ HEr.out).mono ?_; rintro e w5 ⟨rfl, hb⟩; have HB5 := Lib.hid (HB4.out.trans ((hbr.out.trans (hb.mono hbr.out.size)).mono (by rw [← hX.out]; exact hX.out ▸ HB4.out.size))); clear hb)
                              go_ret
                              exact ⟨by rw [HX.out]; rfl, by rw [hX.out]; exact HB5.out⟩
                            · have HG : Hid (∀ b', b' < b + 1 → ¬ behind s F H N en b') := fun b' hb' => by
                                by_cases e : b' = b
                                · subst e; rintro ⟨_, h2⟩; rw [hhv.out] at h2; exact h0 h2
                                · exact hno.out b' (by omega)
                              go_wp2_with (go_at_call 29; refine (HH.out _ HEr.out).mono ?_; rintro e w5 ⟨rfl, hb⟩; have HB5 := Lib.hid (hbr.out.trans (hb.mono hbr.out.size)); clear hb)
                              go_roundw
                              case rel => exact ⟨b + 1, by omega, by go_num, HB5, HG⟩
                              case measure => simp [intOf]; omega
                          · have HG : Hid (∀ b', b' < b + 1 → ¬ behind s F H N en b') := fun b' hb' => by
                              by_cases e : b' = b
                              · subst e; rintro ⟨h1, _⟩; exact hs h1
                              · exact hno.out b' (by omega)
                            have d1 : decide (s ≤ (b : Int) * 440) = false := decide_eq_false hs
                            clear hs
                            go_wp2
                            go_roundw
                            case rel => exact ⟨b + 1, by omega, by go_num, hbr, HG⟩
                            case measure => simp [intOf]; omega
                        · have hb4 : b = 40 := by omega
                          have HX : Hid (R = true) := by
                            show _ = _
                            rw [HXO.out]
                            cases hEO2 : EO with
                            | true => rfl
                            | false =>
                              obtain ⟨b', hb', hbe⟩ := end_bad HRT.out HS.out.1 (hEO.out.trans hEO2)
                              exact absurd hbe (hno.out b' (by omega))
                          go_wp2
                          go_ret
                          exact ⟨by rw [HX.out]; rfl, by rw [hX.out]; exact HB4.out.trans (hbr.out.mono (by rw [← hX.out]; exact hX.out ▸ HB4.out.size))⟩
end Go.Proofs.Ytebnekpccdcnmaa
