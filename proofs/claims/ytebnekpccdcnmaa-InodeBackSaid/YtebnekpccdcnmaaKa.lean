/- What an inode holds, and how it lies in memory; the reference's Same of two that hold the same. -/
import Derived.Test.YtebnekpccdcnmaaJc
namespace Go.Proofs.Ytebnekpccdcnmaa
set_option linter.unusedVariables false
set_option linter.unusedSimpArgs false
open Go.RowKit

/-- What an inode holds. -/
structure InoD where
  k : Int
  m : Int
  u : Int
  g : Int
  l : Int
  s : Int
  t0 : Nat
  t1 : Nat
  ln : ByteArray
  xn : Nat
  en : Nat
  F : Nat → Int
  H : Nat → Int
  N : Nat → Int
  XN : Nat → ByteArray
  VB : Nat → List Int
def InoD.VN (D : InoD) (i : Nat) : Nat := (D.VB i).length
/-- The value v is an inode that holds D; what it points to lies in blocks from B on. -/
def InoM (w : World) (B : Nat) (v : Value) (D : InoD) : Prop :=
  ∃ (xa ea : Option Addr) (xc ec L off L' off' : Nat) (VA : Nat → Option Addr) (VC : Nat → Nat),
    v = (Ino.mk D.k D.m D.u D.g D.l D.s D.t0 D.t1 D.ln xa D.xn xc ea D.en ec).val ∧ ExAt w L off ea D.en ec D.F D.H D.N ∧ XaAt w L' off' xa D.xn xc D.XN VA D.VN VC ∧
    (∀ i, i < D.xn → ∃ VL VO, B ≤ VL ∧ BtsAt w VL VO (.slice (VA i) (D.VN i) (VC i)) (D.VB i)) ∧ B ≤ L ∧ B ≤ L'
theorem InoM.below {w w' : World} {B : Nat} {v : Value} {D : InoD} (h : InoM w B v D) (hb : Below w.heap.size w w') : InoM w' B v D := by
  obtain ⟨xa, ea, xc, ec, L, off, L', off', VA, VC, hv, he, hx, hvb, h1, h2⟩ := h
  refine ⟨xa, ea, xc, ec, L, off, L', off', VA, VC, hv, he.below hb, hx.below hb, fun i hi => ?_, h1, h2⟩
  obtain ⟨VL, VO, h3, h4⟩ := hvb i hi
  exact ⟨VL, VO, h3, h4.below hb⟩
theorem InoM.mono {w : World} {B B' : Nat} {v : Value} {D : InoD} (h : InoM w B v D) (hB : B' ≤ B) : InoM w B' v D := by
  obtain ⟨xa, ea, xc, ec, L, off, L', off', VA, VC, hv, he, hx, hvb, h1, h2⟩ := h
  refine ⟨xa, ea, xc, ec, L, off, L', off', VA, VC, hv, he, hx, fun i hi => ?_, by omega, by omega⟩
  obtain ⟨VL, VO, h3, h4⟩ := hvb i hi
  exact ⟨VL, VO, by omega, h4⟩
/-- Two inodes hold the same. -/
structure SameD (D E : InoD) : Prop where
  k : D.k = E.k
  m : D.m = E.m
  u : D.u = E.u
  g : D.g = E.g
  l : D.l = E.l
  s : D.s = E.s
  t0 : D.t0 = E.t0
  t1 : D.t1 = E.t1
  ln : D.ln = E.ln
  xn : D.xn = E.xn
  en : D.en = E.en
  xs : ∀ i, i < D.xn → D.XN i = E.XN i ∧ D.VB i = E.VB i
  es : ∀ i, i < D.en → D.F i = E.F i ∧ D.H i = E.H i ∧ D.N i = E.N i
theorem SameD.refl (D : InoD) : SameD D D := ⟨rfl, rfl, rfl, rfl, rfl, rfl, rfl, rfl, rfl, rfl, rfl, fun _ _ => ⟨rfl, rfl⟩, fun _ _ => ⟨rfl, rfl, rfl⟩⟩

set_option maxRecDepth 100000 in
set_option maxHeartbeats 4000000 in
theorem same_walk (k m u g l s : Int) (t0 t1 : Nat) (ln : ByteArray) (xn en : Nat) (xa xa' ea ea' : Option Addr) (xc xc' ec ec' L off L' off' M of M' of' : Nat) (F H N F' H' N' : Nat → Int) (XN XN' : Nat → ByteArray) (VB VB' : Nat → List Int) (VA VA' : Nat → Option Addr) (VN VC VN' VC' : Nat → Nat) (w : World)
    (he : ExAt w L off ea en ec F H N) (hx : XaAt w L' off' xa xn xc XN VA VN VC) (hv : ∀ i, i < xn → ∃ VL VO, BtsAt w VL VO (.slice (VA i) (VN i) (VC i)) (VB i))
    (he' : ExAt w M of ea' en ec' F' H' N') (hx' : XaAt w M' of' xa' xn xc' XN' VA' VN' VC') (hv' : ∀ i, i < xn → ∃ VL VO, BtsAt w VL VO (.slice (VA' i) (VN' i) (VC' i)) (VB' i))
    (hxs : ∀ i, i < xn → XN' i = XN i ∧ VB' i = VB i) (hes : ∀ i, i < en → F' i = F i ∧ H' i = H i ∧ N' i = N i) :
    Calls Try.prog 13 #[(Ino.mk k m u g l s t0 t1 ln xa xn xc ea en ec).val, (Ino.mk k m u g l s t0 t1 ln xa' xn xc' ea' en ec').val] w fun e w' => e = .returned (.bool true) ∧ Below w.heap.size w w' := by
  unfold Ino.val
  dsimp only
  have hal : Below w.heap.size w (w.alloc (.cells #[.int .i64 k, .int .i64 m, .int .i64 u, .int .i64 g, .int .i64 l, .int .i64 s, .float .f64 t0, .float .f64 t1, .string ln, .slice xa xn xc, .slice ea en ec] 31)) := (Below.refl _ _).alloc (Nat.le_refl _) _
  have HI1 := Lib.hid (InoAt.new w k m u g l s t0 t1 ln xa xn xc ea en ec)
  have hal2 : Below w.heap.size w ((w.alloc (.cells #[.int .i64 k, .int .i64 m, .int .i64 u, .int .i64 g, .int .i64 l, .int .i64 s, .float .f64 t0, .float .f64 t1, .string ln, .slice xa xn xc, .slice ea en ec] 31)).alloc (.cells #[.int .i64 k, .int .i64 m, .int .i64 u, .int .i64 g, .int .i64 l, .int .i64 s, .float .f64 t0, .float .f64 t1, .string ln, .slice xa' xn xc', .slice ea' en ec'] 31)) := hal.alloc hal.size _
  have HI2 := Lib.hid (InoAt.new (w.alloc (.cells #[.int .i64 k, .int .i64 m, .int .i64 u, .int .i64 g, .int .i64 l, .int .i64 s, .float .f64 t0, .float .f64 t1, .string ln, .slice xa xn xc, .slice ea en ec] 31)) k m u g l s t0 t1 ln xa' xn xc' ea' en ec')
  have HI1 := Lib.hid (HI1.out.below ((Below.refl _ _).alloc (Nat.le_refl _) (.cells #[.int .i64 k, .int .i64 m, .int .i64 u, .int .i64 g, .int .i64 l, .int .i64 s, .float .f64 t0, .float .f64 t1, .string ln, .slice xa' xn xc', .slice ea' en ec'] 31)))
  rw [show (w.alloc (.cells #[.int .i64 k, .int .i64 m, .int .i64 u, .int .i64 g, .int .i64 l, .int .i64 s, .float .f64 t0, .float .f64 t1, .string ln, .slice xa xn xc, .slice ea en ec] 31)).heap.size = w.heap.size + 1 by simp] at HI2
  have HW := Lib.hid hal2
  have HE := Lib.hid (he.below hal2)
  have HX := Lib.hid (hx.below hal2)
  have HE' := Lib.hid (he'.below hal2)
  have HX' := Lib.hid (hx'.below hal2)
  have HV : Hid (∀ i, i < xn → ∃ VL VO, BtsAt _ VL VO (.slice (VA i) (VN i) (VC i)) (VB i)) := fun i hi => by obtain ⟨VL, VO, hb⟩ := hv i hi; exact ⟨VL, VO, hb.below hal2⟩
  have HV' : Hid (∀ i, i < xn → ∃ VL VO, BtsAt _ VL VO (.slice (VA' i) (VN' i) (VC' i)) (VB' i)) := fun i hi => by obtain ⟨VL, VO, hb⟩ := hv' i hi; exact ⟨VL, VO, hb.below hal2⟩
  have HXS := Lib.hid hxs
  have HES := Lib.hid hes
  have hxn9 : xn ≤ 9223372036854775807 := by have := hx.1; have := hx.2.1; omega
  have hen9 : en ≤ 9223372036854775807 := by have := he.1; have := he.2.1; omega
  clear he hx hv he' hx' hv' hxs hes hal hal2
  go_enter Try.func13, Try.ntmps13
  go_upto_region 3 with fail
  generalize ((w.alloc (.cells #[.int .i64 k, .int .i64 m, .int .i64 u, .int .i64 g, .int .i64 l, .int .i64 s, .float .f64 t0, .float .f64 t1, .string ln, .slice xa xn xc, .slice ea en ec] 31)).alloc (.cells #[.int .i64 k, .int .i64 m, .int .i64 u, .int .i64 g, .int .i64 l, .int .i64 s, .float .f64 t0, .float .f64 t1, .string ln, .slice xa' xn xc', .slice ea' en ec'] 31)) = w1 at HI1 HI2 HW HE HX HE' HX' HV HV' ⊢
  obtain ⟨Y, hY⟩ : ∃ X, Hid (w.heap.size + 1 = X) := ⟨_, rfl⟩
  rw [hY.out] at HI2 ⊢
  obtain ⟨X, hX⟩ : ∃ X, Hid (w.heap.size = X) := ⟨_, rfl⟩
  rw [hX.out] at HI1 HW ⊢
  have hf := run_bits
  go_wp2_with fail
  go_loopw [5] (fun i wr => Hid (Below w1.heap.size w1 wr) ∧ (i = .int .i64 0 ∨ i = .int .i64 1 ∨ i = .int .i64 2)) (fun i _ => 2 - (intOf i).toNat)
  case atStart => exact ⟨Below.refl _ _, Or.inl rfl⟩
  case round =>
    obtain ⟨hbr, hrel⟩ := hrel
    have HIr := Lib.hid (HI1.out.below hbr.out)
    have HJr := Lib.hid (HI2.out.below hbr.out)
    obtain ⟨_, _, _, _, _, _, c6, c7, _, c9, _⟩ := HIr.out.cells
    obtain ⟨_, _, _, _, _, _, d6, d7, _, d9, _⟩ := HJr.out.cells
    rcases hrel with rfl | rfl | rfl
    · go_wp2_with fail
      go_quiet (fail)
      go_wp2
      go_roundw
      case rel => exact ⟨below_drewN hbr.out _, Or.inr (Or.inl (by simp))⟩
      case measure => simp [intOf]
    · go_wp2_with fail
      go_quiet (fail)
      go_wp2
      go_roundw
      case rel => exact ⟨below_drewN hbr.out _, Or.inr (Or.inr (by simp))⟩
      case measure => simp [intOf]
    · clear c6 c7 c9 d6 d7 d9
      go_wp2_with fail
      go_loopw [6] (fun iv wx => ∃ i : Nat, i ≤ xn ∧ iv = .int .i64 i ∧ Hid (Below w1.heap.size w1 wx)) (fun iv _ => xn - (intOf iv).toNat)
      case atStart => exact ⟨0, Nat.zero_le _, rfl, hbr⟩
      case round =>
        obtain ⟨i, hix, rfl, hbx⟩ := hrel
        have HIx := Lib.hid (HI1.out.below hbx.out)
        have HJx := Lib.hid (HI2.out.below hbx.out)
        obtain ⟨_, _, _, _, _, _, _, _, _, c9, c10⟩ := HIx.out.cells
        obtain ⟨_, _, _, _, _, _, _, _, _, d9, d10⟩ := HJx.out.cells
        clear HIr HJr
        by_cases hlt : i < xn
        · have HXx := Lib.hid (HX.out.below hbx.out)
          have HXy := Lib.hid (HX'.out.below hbx.out)
          obtain ⟨ha, hcell⟩ := HXx.out.2.2 (by omega)
          obtain ⟨ha', hcell'⟩ := HXy.out.2.2 (by omega)
          subst ha ha'
          obtain ⟨x0, x1⟩ := hcell i hlt
          obtain ⟨y0, y1⟩ := hcell' i hlt
          obtain ⟨e0, e1⟩ := HXS.out i hlt
          obtain ⟨VL, VO, hvb⟩ := HV.out i hlt
          obtain ⟨VL', VO', hvb'⟩ := HV'.out i hlt
          rw [e0] at y0
          rw [e1] at hvb'
          have s1 : ∀ n, (convert 32 9 (.slice (VA i) (VN i) (VC i))).run Try.prog (wr.drewN n) = .ok (.string (strOfNums (VB i))) (wr.drewN n) := fun n => Bts.run_str ⟨VL, VO, Nat.zero_le _, hvb.below (below_drewN hbx.out n)⟩ 32 9 5 Try.underlying32 Try.underlying5 Try.underlying9
          have s2 : ∀ n, (convert 32 9 (.slice (VA' i) (VN' i) (VC' i))).run Try.prog (wr.drewN n) = .ok (.string (strOfNums (VB i))) (wr.drewN n) := fun n => Bts.run_str ⟨VL', VO', Nat.zero_le _, hvb'.below (below_drewN hbx.out n)⟩ 32 9 5 Try.underlying32 Try.underlying5 Try.underlying9
          clear hcell hcell' e0 e1 hvb hvb'
          obtain ⟨p, hp⟩ : ∃ p, Hid (XN i = p) := ⟨_, rfl⟩
          obtain ⟨vn, hvn⟩ : ∃ x, Hid (VN i = x) := ⟨_, rfl⟩
          obtain ⟨va, hva⟩ : ∃ x, Hid (VA i = x) := ⟨_, rfl⟩
          obtain ⟨vc, hvc⟩ : ∃ x, Hid (VC i = x) := ⟨_, rfl⟩
          obtain ⟨vn', hvn'⟩ : ∃ x, Hid (VN' i = x) := ⟨_, rfl⟩
          obtain ⟨va', hva'⟩ : ∃ x, Hid (VA' i = x) := ⟨_, rfl⟩
          obtain ⟨vc', hvc'⟩ : ∃ x, Hid (VC' i = x) := ⟨_, rfl⟩
          obtain ⟨q, hq⟩ : ∃ x, Hid (strOfNums (VB i) = x) := ⟨_, rfl⟩
          rw [hp.out] at x0 y0
          rw [hvn.out, hva.out, hvc.out] at x1 s1
          rw [hvn'.out, hva'.out, hvc'.out] at y1 s2
          rw [hq.out] at s1 s2
          clear c10 d10
          go_wp2_with fail
          go_quiet (fail)
          go_wp2
          go_roundw
          case rel => exact ⟨i + 1, by omega, by go_num, below_drewN hbx.out _⟩
          case measure => simp [intOf]; omega
        · obtain rfl : i = xn := by omega
          go_wp2_with fail
          clear c9 c10 d9 d10 HIx HJx
          go_loopw [7] (fun iv wx => ∃ j : Nat, j ≤ en ∧ iv = .int .i64 j ∧ Hid (Below w1.heap.size w1 wx)) (fun iv _ => en - (intOf iv).toNat)
          case atStart => exact ⟨0, Nat.zero_le _, rfl, hbx⟩
          case round =>
            obtain ⟨j, hjx, rfl, hby⟩ := hrel
            have HIy := Lib.hid (HI1.out.below hby.out)
            have HJy := Lib.hid (HI2.out.below hby.out)
            obtain ⟨_, _, _, _, _, _, _, _, _, _, c10⟩ := HIy.out.cells
            obtain ⟨_, _, _, _, _, _, _, _, _, _, d10⟩ := HJy.out.cells
            by_cases hlt2 : j < en
            · have HEx := Lib.hid (HE.out.below hby.out)
              have HEy := Lib.hid (HE'.out.below hby.out)
              obtain ⟨ha, hcell⟩ := HEx.out.2.2 (by omega)
              obtain ⟨ha', hcell'⟩ := HEy.out.2.2 (by omega)
              subst ha ha'
              obtain ⟨x0, x1, x2⟩ := hcell j hlt2
              obtain ⟨y0, y1, y2⟩ := hcell' j hlt2
              obtain ⟨e0, e1, e2⟩ := HES.out j hlt2
              rw [e0] at y0
              rw [e1] at y1
              rw [e2] at y2
              clear hcell hcell' e0 e1 e2
              obtain ⟨f, hf⟩ : ∃ x, Hid (F j = x) := ⟨_, rfl⟩
              obtain ⟨hh, hhh⟩ : ∃ x, Hid (H j = x) := ⟨_, rfl⟩
              obtain ⟨nn, hnn⟩ : ∃ x, Hid (N j = x) := ⟨_, rfl⟩
              rw [hf.out] at x0 y0
              rw [hhh.out] at x1 y1
              rw [hnn.out] at x2 y2
              go_wp2_with fail
              go_quiet (fail)
              go_wp2
              go_roundw
              case rel => exact ⟨j + 1, by omega, by go_num, below_drewN hby.out _⟩
              case measure => simp [intOf]; omega
            · go_wp2
              go_ret
              exact ⟨rfl, by rw [hX.out]; exact HW.out.trans (hby.out.mono (by rw [← hX.out]; exact hX.out ▸ HW.out.size))⟩
theorem same_any {D E : InoD} {v v' : Value} {B B' : Nat} {w : World} (h : InoM w B v D) (h' : InoM w B' v' E) (hs : SameD D E) :
    Calls Try.prog 13 #[v, v'] w fun e w' => e = .returned (.bool true) ∧ Below w.heap.size w w' := by
  obtain ⟨k, m, u, g, l, s, t0, t1, ln, xn, en, F, H, N, XN, VB⟩ := D
  obtain ⟨k', m', u', g', l', s', t0', t1', ln', xn', en', F', H', N', XN', VB'⟩ := E
  obtain ⟨rfl, rfl, rfl, rfl, rfl, rfl, rfl, rfl, rfl, rfl, rfl, s12, s13⟩ := hs
  obtain ⟨xa, ea, xc, ec, L, off, L', off', VA, VC, rfl, he, hx, hv, h1, h2⟩ := h
  obtain ⟨xa', ea', xc', ec', M, of, M', of', VA', VC', rfl, he', hx', hv', h1', h2'⟩ := h'
  refine same_walk _ _ _ _ _ _ _ _ _ _ _ _ _ _ _ _ _ _ _ _ _ _ _ _ _ _ _ _ _ _ _ _ _ _ _ VB VB' _ _ _ _ _ _ w he hx (fun i hi => ?_) he' hx' (fun i hi => ?_) (fun i hi => ⟨(s12 i hi).1.symm, (s12 i hi).2.symm⟩) (fun i hi => ⟨(s13 i hi).1.symm, (s13 i hi).2.1.symm, (s13 i hi).2.2.symm⟩)
  · obtain ⟨VL, VO, _, hb⟩ := hv i hi; exact ⟨VL, VO, hb⟩
  · obtain ⟨VL, VO, _, hb⟩ := hv' i hi; exact ⟨VL, VO, hb⟩
end Go.Proofs.Ytebnekpccdcnmaa
