/- The layer inode: contracts said of what an inode holds. -/
import Derived.Test.YtebnekpccdcnmaaKd
import Derived.Test.YtebnekpccdcnmaaJd
import Derived.Test.YtebnekpccdcnmaaIn
namespace Go.Proofs.Ytebnekpccdcnmaa
set_option linter.unusedVariables false
set_option linter.unusedSimpArgs false
open Go.RowKit

noncomputable def rightD (D : InoD) : Bool := rightB D.k D.m D.u D.g D.l D.s D.t0 D.t1 D.ln D.xn D.en D.F D.H D.N D.XN D.VN
def payD (D : InoD) : List Int := payL D.k.toNat D.m.toNat D.u.toNat D.g.toNat D.l.toNat D.s.toNat D.t0 D.t1 D.ln D.xn D.en D.F D.H D.N D.XN D.VB
def InoD.wide (D : InoD) : Prop := W D.t0 ∧ W D.t1

theorem checkD {D : InoD} {v : Value} {B : Nat} {w : World} (h : InoM w B v D) :
    Calls Try.prog 9 #[v] w fun e w' => e = .returned (.int .i64 (if rightD D = true then 0 else 3)) ∧ Below w.heap.size w w' := by
  obtain ⟨xa, ea, xc, ec, L, off, L', off', VA, VC, rfl, he, hx, hv, h1, h2⟩ := h
  exact check_ino _ _ _ _ _ _ _ _ _ _ _ _ _ _ _ _ _ _ _ _ _ _ _ _ _ _ w he hx
theorem refRightD {D : InoD} {v : Value} {B : Nat} {w : World} (h : InoM w B v D) (hw : D.wide) :
    Calls Try.prog 12 #[v] w fun e w' => e = .returned (.bool (rightD D)) ∧ Below w.heap.size w w' := by
  obtain ⟨xa, ea, xc, ec, L, off, L', off', VA, VC, rfl, he, hx, hv, h1, h2⟩ := h
  exact refRight_any _ _ _ _ _ _ _ _ _ _ _ _ _ _ _ _ _ _ _ _ _ _ _ _ _ _ w he hx hw.1 hw.2
theorem encodeD_good {D : InoD} {v : Value} {B : Nat} {w : World} (h : InoM w B v D) (hw : D.wide) (hr : rightD D = true) :
    Calls Try.prog 7 #[v] w fun e w' => ∃ s, e = .returned (.tuple #[s, .int .i64 0]) ∧ Bts w' w.heap.size s (payD D) ∧ Below w.heap.size w w' := by
  obtain ⟨xa, ea, xc, ec, L, off, L', off', VA, VC, rfl, he, hx, hv, h1, h2⟩ := h
  obtain ⟨k, m, u, g, l, s, t0, t1, ln, xn, en, F, H, N, XN, VB⟩ := D
  obtain ⟨k', m', u', g', l', s', rfl, rfl, rfl, rfl, rfl, rfl, hfit⟩ := right_fits (show rightB k m u g l s t0 t1 ln xn en F H N XN _ = true from hr)
  exact encode_good k' m' u' g' l' s' t0 t1 ln xa ea xn xc en ec L off L' off' F H N XN VA _ VC VB w he hx (fun i hi => by obtain ⟨VL, VO, _, hb⟩ := hv i hi; exact ⟨VL, VO, hb⟩) hw.1 hw.2 hr hfit
theorem encodeD_bad {D : InoD} {v : Value} {B : Nat} {w : World} (h : InoM w B v D) (hr : rightD D = false) :
    Calls Try.prog 7 #[v] w fun e w' => e = .returned (.tuple #[.slice none 0 0, .int .i64 3]) ∧ Below w.heap.size w w' := by
  obtain ⟨xa, ea, xc, ec, L, off, L', off', VA, VC, rfl, he, hx, hv, h1, h2⟩ := h
  exact encode_bad _ _ _ _ _ _ _ _ _ _ _ _ _ _ _ _ _ _ _ _ _ _ _ _ _ _ w he hx hr
theorem refBytesD {D : InoD} {v : Value} {B : Nat} {w : World} (h : InoM w B v D) (hw : D.wide) (hr : rightD D = true) :
    Calls Try.prog 24 #[v] w fun e w' => ∃ s, e = .returned s ∧ Bts w' w.heap.size s (payD D) ∧ Below w.heap.size w w' := by
  obtain ⟨xa, ea, xc, ec, L, off, L', off', VA, VC, rfl, he, hx, hv, h1, h2⟩ := h
  obtain ⟨k, m, u, g, l, s, t0, t1, ln, xn, en, F, H, N, XN, VB⟩ := D
  obtain ⟨k', m', u', g', l', s', rfl, rfl, rfl, rfl, rfl, rfl, hfit⟩ := right_fits (show rightB k m u g l s t0 t1 ln xn en F H N XN _ = true from hr)
  exact bytes_any k' m' u' g' l' s' t0 t1 ln xa ea xn xc en ec L off L' off' F H N XN VA _ VC VB w he hx (fun i hi => by obtain ⟨VL, VO, _, hb⟩ := hv i hi; exact ⟨VL, VO, hb⟩) hw.1 hw.2 hfit

/-- What of an inode's cells: the value is laid in a block of its own. -/
def InoBox (w : World) (X : Nat) (v : Value) : Prop := ∃ k m u g l s t0 t1 ln xa xn xc ea en ec, v = (Ino.mk k m u g l s t0 t1 ln xa xn xc ea en ec).val ∧ InoAt w X k m u g l s t0 t1 ln xa xn xc ea en ec

theorem refEncode_good {D : InoD} {v : Value} {B : Nat} {w : World} (h : InoM w B v D) (hw : D.wide) (hr : rightD D = true) :
    Calls Try.prog 11 #[v] w fun e w' => ∃ s, e = .returned (.tuple #[s, .int .i64 0]) ∧ Bts w' w.heap.size s (payD D) ∧ Below w.heap.size w w' := by
  have HR : Hid (∀ w', Below w.heap.size w w' → Calls Try.prog 12 #[v] w' fun e w'' => e = .returned (.bool true) ∧ Below w'.heap.size w' w'') := fun w' hb => by
    have := refRightD (h.below hb) hw
    rw [hr] at this
    exact this
  have HB : Hid (∀ w', Below w.heap.size w w' → Calls Try.prog 24 #[v] w' fun e w'' => ∃ s, e = .returned s ∧ Bts w'' w'.heap.size s (payD D) ∧ Below w'.heap.size w' w'') := fun w' hb => refBytesD (h.below hb) hw hr
  obtain ⟨xa, ea, xc, ec, L, off, L', off', VA, VC, rfl, _⟩ := h
  generalize payD D = pay at HB ⊢
  unfold Ino.val at HR HB ⊢
  dsimp only at HR HB ⊢
  obtain ⟨k, m, u, g, l, s, t0, t1, ln, xn, en, F, H, N, XN, VB⟩ := D
  dsimp only at HR HB ⊢
  clear hw hr
  have hal : Below w.heap.size w (w.alloc (.cells #[.int .i64 k, .int .i64 m, .int .i64 u, .int .i64 g, .int .i64 l, .int .i64 s, .float .f64 t0, .float .f64 t1, .string ln, .slice xa xn xc, .slice ea en ec] 31)) := (Below.refl _ _).alloc (Nat.le_refl _) _
  have HW1 := Lib.hid hal
  have HI := Lib.hid (InoAt.new w k m u g l s t0 t1 ln xa xn xc ea en ec)
  clear hal
  go_enter Try.func11, Try.ntmps11
  go_upto_region 1 with fail
  generalize (w.alloc (.cells #[.int .i64 k, .int .i64 m, .int .i64 u, .int .i64 g, .int .i64 l, .int .i64 s, .float .f64 t0, .float .f64 t1, .string ln, .slice xa xn xc, .slice ea en ec] 31)) = w1 at HW1 HI ⊢
  obtain ⟨X, hX⟩ : ∃ X, Hid (w.heap.size = X) := ⟨_, rfl⟩
  rw [hX.out] at HI
  simp only [hX.out]
  obtain ⟨c0, c1, c2, c3, c4, c5, c6, c7, c8, c9, c10⟩ := HI.out.cells
  go_upto_region 3 with (go_at_call 12; refine (HR.out _ HW1.out).mono ?_; rintro e w2 ⟨rfl, hb⟩; have HI2 := Lib.hid (HI.out.below hb); have HB2 := Lib.hid (HW1.out.trans (hb.mono HW1.out.size)); clear hb)
  clear c0 c1 c2 c3 c4 c5 c6 c7 c8 c9 c10
  obtain ⟨c0, c1, c2, c3, c4, c5, c6, c7, c8, c9, c10⟩ := HI2.out.cells
  go_wp2_with (go_at_call 24; refine (HB.out _ HB2.out).mono ?_; rintro e w3 ⟨v, rfl, hv, hb⟩; have HV := Lib.hid (hv.mono HB2.out.size); have HB3 := Lib.hid (HB2.out.trans (hb.mono HB2.out.size)); clear hb hv)
  go_ret2
  exact ⟨v, rfl, HV.out, HB3.out⟩
theorem refEncode_bad {D : InoD} {v : Value} {B : Nat} {w : World} (h : InoM w B v D) (hw : D.wide) (hr : rightD D = false) :
    Calls Try.prog 11 #[v] w fun e w' => e = .returned (.tuple #[.slice none 0 0, .int .i64 3]) ∧ Below w.heap.size w w' := by
  have HR : Hid (∀ w', Below w.heap.size w w' → Calls Try.prog 12 #[v] w' fun e w'' => e = .returned (.bool false) ∧ Below w'.heap.size w' w'') := fun w' hb => by
    have := refRightD (h.below hb) hw
    rw [hr] at this
    exact this
  obtain ⟨xa, ea, xc, ec, L, off, L', off', VA, VC, rfl, _⟩ := h
  unfold Ino.val at HR ⊢
  dsimp only at HR ⊢
  obtain ⟨k, m, u, g, l, s, t0, t1, ln, xn, en, F, H, N, XN, VB⟩ := D
  dsimp only at HR ⊢
  clear hw hr
  have HW1 : Hid (Below w.heap.size w (w.alloc (.cells #[.int .i64 k, .int .i64 m, .int .i64 u, .int .i64 g, .int .i64 l, .int .i64 s, .float .f64 t0, .float .f64 t1, .string ln, .slice xa xn xc, .slice ea en ec] 31))) := (Below.refl _ _).alloc (Nat.le_refl _) _
  go_enter Try.func11, Try.ntmps11
  go_wp2_with (go_at_call 12; refine (HR.out _ HW1.out).mono ?_; rintro e w2 ⟨rfl, hb⟩; have HB2 := Lib.hid (HW1.out.trans (hb.mono HW1.out.size)); clear hb)
  go_ret2
  exact ⟨rfl, HB2.out⟩
/-- An inode that came in. -/
def InoG (w : World) (v : Value) (D : InoD) : Prop :=
  ∃ (xa ea : Option Addr) (xc ec L off L' off' : Nat) (VA : Nat → Option Addr) (VC : Nat → Nat),
    v = (Ino.mk D.k D.m D.u D.g D.l D.s D.t0 D.t1 D.ln xa D.xn xc ea D.en ec).val ∧ ExAt w L off ea D.en ec D.F D.H D.N ∧ XaAt w L' off' xa D.xn xc D.XN VA D.VN VC ∧
    (∀ i, i < D.xn → ∃ VL VO, BtsAt w VL VO (.slice (VA i) (D.VN i) (VC i)) (D.VB i)) ∧ (ea = none → ec = 0) ∧ (∀ i, i < D.xn → VA i = none → VC i = 0) ∧
    D.xn * 40 ≤ 140737488351232 ∧ D.en * 24 ≤ 140737488351232 ∧ (∀ i, i < D.xn → D.VN i ≤ 140737488351232) ∧ D.wide
theorem InoG.m {w : World} {v : Value} {D : InoD} (h : InoG w v D) : InoM w 0 v D := by
  obtain ⟨xa, ea, xc, ec, L, off, L', off', VA, VC, hv, he, hx, hvb, _⟩ := h
  exact ⟨xa, ea, xc, ec, L, off, L', off', VA, VC, hv, he, hx, fun i hi => by obtain ⟨VL, VO, hb⟩ := hvb i hi; exact ⟨VL, VO, Nat.zero_le _, hb⟩, Nat.zero_le _, Nat.zero_le _⟩
theorem InoG.below {w w' : World} {v : Value} {D : InoD} (h : InoG w v D) (hb : Below w.heap.size w w') : InoG w' v D := by
  obtain ⟨xa, ea, xc, ec, L, off, L', off', VA, VC, hv, he, hx, hvb, r⟩ := h
  exact ⟨xa, ea, xc, ec, L, off, L', off', VA, VC, hv, he.below hb, hx.below hb, fun i hi => by obtain ⟨VL, VO, h⟩ := hvb i hi; exact ⟨VL, VO, h.below hb⟩, r⟩
theorem InoG.wide {w : World} {v : Value} {D : InoD} (h : InoG w v D) : D.wide := by
  obtain ⟨xa, ea, xc, ec, L, off, L', off', VA, VC, hv, he, hx, hvb, _, _, _, _, _, r⟩ := h
  exact r
theorem copied_any {D : InoD} {v : Value} {w : World} (h : InoG w v D) :
    Calls Try.prog 10 #[v] w fun e w' => ∃ v', e = .returned v' ∧ InoM w' w.heap.size v' D ∧ Below w.heap.size w w' := by
  obtain ⟨xa, ea, xc, ec, L, off, L', off', VA, VC, rfl, he, hx, hvb, h1, h2, h3, h4, h5, _⟩ := h
  exact copied_walk _ _ _ _ _ _ _ _ _ _ _ _ _ _ _ _ _ _ _ _ _ _ _ _ _ _ D.VB w he hx hvb h1 h2 h3 h4 h5
end Go.Proofs.Ytebnekpccdcnmaa
