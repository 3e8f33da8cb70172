/- Walks of the layer inode: Check. -/
import Derived.Test.YtebnekpccdcnmaaId
namespace Go.Proofs.Ytebnekpccdcnmaa
set_option linter.unusedVariables false
set_option linter.unusedSimpArgs false
open Go.RowKit

theorem val_bool {v : Value} {b R : Bool} (hv : v = .bool b) (h : b = R) : v = .bool R := by rw [hv, h]
/-- Are the numbers within their bounds? -/
def goodB (k m u g l s : Int) : Bool :=
  decide (1 ≤ k) && (decide (k ≤ 3) && ((decide (0 ≤ m) && decide (m ≤ 511)) && ((decide (0 ≤ u) && decide (u ≤ 65535)) && ((decide (0 ≤ g) && decide (g ≤ 65535)) && ((decide (0 ≤ l) && decide (l ≤ 12)) && (decide (0 ≤ s) && decide (s ≤ 17600)))))))
theorem run_index_times (w : World) (cs : Array Value) (i : Nat) (v : Value) (hi : i < 2) (hv : cs[i]? = some v) :
    (Instr.index 28 (.agg cs) (.int .i64 (i : Int))).run Try.prog w = .ok v w := by
  have hn : (0 : Int) ≤ (i : Int) ∧ (i : Int) < ((2 : Nat) : Int) := by omega
  have e := Try.underlying28
  unfold Instr.index
  simp [run_underlying e, asIntOf, hn, go_sem, hv]
  intro h; omega
/-- Is a time in its one form? -/
def timeB (t : Nat) : Bool := (t : Int) == ((formW t : Nat) : Int)
/-- Is an inode right, or free? -/
noncomputable def rightB (k m u g l s : Int) (t0 t1 : Nat) (ln : ByteArray) (xn en : Nat) (F H N : Nat → Int) (XN : Nat → ByteArray) (VN : Nat → Nat) : Bool :=
  freeB k m u g l s t0 t1 ln xn en || (((goodB k m u g l s && timeB t0) && timeB t1) && ((linkOk k s ln en && (rgt en F H N && endOk s F N en)) && xrgt xn XN VN))
theorem good_size {k m u g l s : Int} (h : goodB k m u g l s = true) : 0 ≤ s ∧ s ≤ 17600 := by
  unfold goodB at h
  simp only [Bool.and_eq_true, decide_eq_true_eq] at h
  exact h.2.2.2.2.2.2

set_option maxRecDepth 100000 in
set_option maxHeartbeats 1600000 in
theorem check_ino (k m u g l s : Int) (t0 t1 : Nat) (ln : ByteArray) (xa ea : Option Addr) (xn xc en ec L off L' off' : Nat) (F H N : Nat → Int) (XN : Nat → ByteArray) (VA : Nat → Option Addr) (VN VC : Nat → Nat) (w : World) (h : ExAt w L off ea en ec F H N) (hx : XaAt w L' off' xa xn xc XN VA VN VC) :
    Calls Try.prog 9 #[(Ino.mk k m u g l s t0 t1 ln xa xn xc ea en ec).val] w fun e w' => e = .returned (.int .i64 (if rightB k m u g l s t0 t1 ln xn en F H N XN VN = true then 0 else 3)) ∧ Below w.heap.size w w' := by
  unfold Ino.val
  dsimp only
  have hal : Below w.heap.size w (w.alloc (.cells #[.int .i64 k, .int .i64 m, .int .i64 u, .int .i64 g, .int .i64 l, .int .i64 s, .float .f64 t0, .float .f64 t1, .string ln, .slice xa xn xc, .slice ea en ec] 31)) := (Below.refl _ _).alloc (Nat.le_refl _) _
  have HW1 := Lib.hid hal
  have HI := Lib.hid (InoAt.new w k m u g l s t0 t1 ln xa xn xc ea en ec)
  have HE1 := Lib.hid (h.below hal)
  have HX1 := Lib.hid (hx.below hal)
  clear h hx hal
  obtain ⟨R, hR⟩ : ∃ R : Int, Hid ((if rightB k m u g l s t0 t1 ln xn en F H N XN VN = true then (0 : Int) else 3) = R) := ⟨_, rfl⟩
  rw [hR.out]
  obtain ⟨fb, hfb⟩ : ∃ b, Hid (freeB k m u g l s t0 t1 ln xn en = b) := ⟨_, rfl⟩
  obtain ⟨G, hG⟩ : ∃ b, Hid (goodB k m u g l s = b) := ⟨_, rfl⟩
  obtain ⟨T0, hT0⟩ : ∃ b, Hid (timeB t0 = b) := ⟨_, rfl⟩
  obtain ⟨T1, hT1⟩ : ∃ b, Hid (timeB t1 = b) := ⟨_, rfl⟩
  obtain ⟨LK, hLK⟩ : ∃ b, Hid ((linkOk k s ln en && (rgt en F H N && endOk s F N en)) = b) := ⟨_, rfl⟩
  obtain ⟨XR, hXR⟩ : ∃ b, Hid (xrgt xn XN VN = b) := ⟨_, rfl⟩
  have HR : Hid (R = if (fb || (((G && T0) && T1) && (LK && XR))) = true then 0 else 3) := by
    show _ = _
    rw [← hR.out]; unfold rightB; rw [hfb.out, hG.out, hT0.out, hT1.out, hLK.out, hXR.out]
  have HC : Hid (∀ w, Calls Try.prog 19 #[.agg #[.int .i64 k, .int .i64 m, .int .i64 u, .int .i64 g, .int .i64 l, .int .i64 s, .float .f64 t0, .float .f64 t1, .string ln, .slice xa xn xc, .slice ea en ec]] w fun e w' => e = .returned (.bool fb) ∧ Below w.heap.size w w') := fun w => by
    have := free_any k m u g l s t0 t1 ln xa ea xn xc en ec w
    rw [hfb.out] at this
    exact this
  cases fb with
  | true =>
    have HX : Hid (R = 0) := by show _ = _; rw [HR.out]; rfl
    go_enter Try.func9, Try.ntmps9
    go_wp2_with (go_at_call 19; refine (HC.out _).mono ?_; rintro e w2 ⟨rfl, hb⟩; have HB2 := Lib.hid (HW1.out.trans (hb.mono HW1.out.size)); clear hb)
    go_ret
    exact ⟨by rw [HX.out]; rfl, HB2.out⟩
  | false =>
    go_enter Try.func9, Try.ntmps9
    go_upto_region 3 with (go_at_call 19; refine (HC.out _).mono ?_; rintro e w2 ⟨rfl, hb⟩; have HI2 := Lib.hid (HI.out.below hb); have HE2 := Lib.hid (HE1.out.below hb); have HX2 := Lib.hid (HX1.out.below hb); have HB2 := Lib.hid (HW1.out.trans (hb.mono HW1.out.size)); clear hb)
    clear HI HE1 HX1 HW1 HC
    obtain ⟨X, hX⟩ : ∃ X, Hid (w.heap.size = X) := ⟨_, rfl⟩
    rw [hX.out] at HI2 ⊢
    obtain ⟨c0, c1, c2, c3, c4, c5, c6, c7, c8, c9, c10⟩ := HI2.out.cells
    go_cut [3] (fun v wx => v = .bool G ∧ w2 = wx)
    case first =>
      go_wp2_with (go_at_call 20; refine (within_any _ _ _).mono ?_; rintro e w3 ⟨rfl, rfl⟩)
      all_goals (go_meet; refine ⟨val_bool rfl ?_, rfl⟩)
      all_goals (rw [← hG.out]; unfold goodB; (simp [*] <;> (intros; omega)))
    case rest =>
      obtain ⟨rfl, rfl⟩ := hcut
      have hf := run_bits
      have hi0 : ∀ w, (Instr.index 28 (.agg #[.float .f64 t0, .float .f64 t1]) (.int .i64 0)).run Try.prog w = .ok (.float .f64 t0) w := fun w => run_index_times w _ 0 _ (by omega) rfl
      have hi1 : ∀ w, (Instr.index 28 (.agg #[.float .f64 t0, .float .f64 t1]) (.int .i64 1)).run Try.prog w = .ok (.float .f64 t1) w := fun w => run_index_times w _ 1 _ (by omega) rfl
      go_wp2_with fail
      go_loop [3, 43] (fun v i => (i = .int .i64 0 ∧ v = .bool G) ∨ (i = .int .i64 1 ∧ v = .bool (G && T0)) ∨ (i = .int .i64 2 ∧ v = .bool ((G && T0) && T1))) (fun _ i => 2 - (intOf i).toNat)
      case atStart => exact Or.inl ⟨rfl, rfl⟩
      case round =>
        rcases hrel with ⟨rfl, rfl⟩ | ⟨rfl, rfl⟩ | ⟨rfl, rfl⟩
        · cases G with
          | false =>
            go_wp2
            exact ⟨Or.inr (Or.inl ⟨rfl, rfl⟩), by decide⟩
          | true =>
            have hb0 : ((t0 : Int) == ((formW t0 : Nat) : Int)) = T0 := hT0.out
            go_wp2_with (go_at_call 17; refine (bits_any _ _).mono ?_; rintro e w3 ⟨rfl, rfl⟩)
            exact ⟨Or.inr (Or.inl ⟨rfl, by simp⟩), by decide⟩
        · obtain ⟨G2, hG2⟩ : ∃ b, Hid ((G && T0) = b) := ⟨_, rfl⟩
          rw [hG2.out]
          cases G2 with
          | false =>
            go_wp2
            exact ⟨Or.inr (Or.inr ⟨rfl, rfl⟩), by decide⟩
          | true =>
            have hb0 : ((t1 : Int) == ((formW t1 : Nat) : Int)) = T1 := hT1.out
            go_wp2_with (go_at_call 17; refine (bits_any _ _).mono ?_; rintro e w3 ⟨rfl, rfl⟩)
            exact ⟨Or.inr (Or.inr ⟨rfl, by simp⟩), by decide⟩
        · cases hq : ((G && T0) && T1) with
          | false =>
            have HX : Hid (R = 3) := by show _ = _; rw [HR.out, hq]; rfl
            go_wp2
            go_ret
            exact ⟨by rw [HX.out]; rfl, HB2.out⟩
          | true =>
            have HS := Lib.hid (good_size (show goodB k m u g l s = true by rw [hG.out]; revert hq; cases G <;> simp))
            have HQ : Hid (R = if (LK && XR) = true then 0 else 3) := by show _ = _; rw [HR.out, hq]; rfl
            have HL : Hid (∀ w, ExAt w L off ea en ec F H N → Calls Try.prog 22 #[.agg #[.int .i64 k, .int .i64 m, .int .i64 u, .int .i64 g, .int .i64 l, .int .i64 s, .float .f64 t0, .float .f64 t1, .string ln, .slice xa xn xc, .slice ea en ec]] w fun e w' => e = .returned (.bool LK) ∧ Below w.heap.size w w') := fun w hw => by
              have := sized_any k m u g l s t0 t1 ln xa ea xn xc en ec L off F H N w hw HS.out
              rw [hLK.out] at this
              exact this
            have HC : Hid (∀ w, XaAt w L' off' xa xn xc XN VA VN VC → Calls Try.prog 23 #[.slice xa xn xc] w fun e w' => e = .returned (.int .i64 (if XR = true then 0 else 3)) ∧ Below w.heap.size w w') := fun w hw => by
              have := xcheck_any xa xn xc L' off' XN VA VN VC w hw
              rw [hXR.out] at this
              exact this
            cases LK with
            | false =>
              have HX : Hid (R = 3) := by show _ = _; rw [HQ.out]; rfl
              go_wp2_with (go_at_call 22; refine (HL.out _ HE2.out).mono ?_; rintro e w3 ⟨rfl, hb⟩; have HB3 := Lib.hid (HB2.out.trans (hb.mono HB2.out.size)); clear hb)
              go_ret
              exact ⟨by rw [HX.out]; rfl, HB3.out⟩
            | true =>
              cases XR with
              | false =>
                have HX : Hid (R = 3) := by show _ = _; rw [HQ.out]; rfl
                go_wp2_with (first
                  | (go_at_call 22; refine (HL.out _ HE2.out).mono ?_; rintro e w3 ⟨rfl, hb⟩; have HI3 := Lib.hid (HI2.out.below hb); have HX3 := Lib.hid (HX2.out.below hb); have HB3 := Lib.hid (HB2.out.trans (hb.mono HB2.out.size)); clear hb c0 c1 c2 c3 c4 c5 c6 c7 c8 c9 c10; obtain ⟨_, _, _, _, _, _, _, _, _, c9, _⟩ := HI3.out.cells)
                  | (go_at_call 23; refine (HC.out _ HX3.out).mono ?_; rintro e w4 ⟨rfl, hb⟩; have HB4 := Lib.hid (HB3.out.trans (hb.mono HB3.out.size)); clear hb))
                go_ret
                exact ⟨by rw [HX.out]; rfl, HB4.out⟩
              | true =>
                have HX : Hid (R = 0) := by show _ = _; rw [HQ.out]; rfl
                go_wp2_with (first
                  | (go_at_call 22; refine (HL.out _ HE2.out).mono ?_; rintro e w3 ⟨rfl, hb⟩; have HI3 := Lib.hid (HI2.out.below hb); have HX3 := Lib.hid (HX2.out.below hb); have HB3 := Lib.hid (HB2.out.trans (hb.mono HB2.out.size)); clear hb c0 c1 c2 c3 c4 c5 c6 c7 c8 c9 c10; obtain ⟨_, _, _, _, _, _, _, _, _, c9, _⟩ := HI3.out.cells)
                  | (go_at_call 23; refine (HC.out _ HX3.out).mono ?_; rintro e w4 ⟨rfl, hb⟩; have HB4 := Lib.hid (HB3.out.trans (hb.mono HB3.out.size)); clear hb))
                go_ret
                exact ⟨by rw [HX.out]; rfl, HB4.out⟩
end Go.Proofs.Ytebnekpccdcnmaa
