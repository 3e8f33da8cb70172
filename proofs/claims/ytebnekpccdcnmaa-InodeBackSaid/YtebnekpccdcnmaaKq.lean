/- The walk of InodeBack. -/
import Derived.Test.YtebnekpccdcnmaaKp
import Derived.Outline
namespace Go.Proofs.Ytebnekpccdcnmaa
set_option linter.unusedVariables false
set_option linter.unusedSimpArgs false
open Go.RowKit

/-- What Encode answers, with what lies in the bytes. -/
def EncB (D : InoD) (w : World) (e : Ending) (w' : World) : Prop :=
  ∃ a l c q, e = .returned (.tuple #[.slice a l c, .int .i64 q]) ∧ Below w.heap.size w w' ∧ ((q = 0 ∧ rightD D = true ∧ l = 440 ∧ ∃ L off, BtsAt w' L off (.slice a l c) (payD D)) ∨ (q = 3 ∧ rightD D = false))
theorem enc_b {D : InoD} {v : Value} {B : Nat} {w : World} (h : InoM w B v D) (hw : D.wide) : Calls Try.prog 7 #[v] w (EncB D w) := by
  refine (encode_p h hw).mono fun e w' h => ?_
  obtain ⟨hb, ⟨hr, s, rfl, L, off, h1, h2⟩ | ⟨hr, rfl⟩⟩ := h
  · obtain ⟨a, c, rfl, _⟩ := id h2
    have hl := h2.len.1
    exact ⟨a, _, c, 0, rfl, hb, Or.inl ⟨rfl, hr, payD_len hr, L, off, h2⟩⟩
  · exact ⟨none, 0, 0, 3, rfl, hb, Or.inr ⟨rfl, hr⟩⟩

set_option maxRecDepth 100000 in
set_option maxHeartbeats 4000000 in
theorem back_of (k m u g l s : Int) (t0 t1 : Nat) (ln : ByteArray) (xn en : Nat) (xa ea : Option Addr) (xc ec : Nat) (D : InoD) (b0 : Option Addr) (n c L0 off0 : Nat) (bs : List Int) (w : World) (h : BtsAt w L0 off0 (.slice b0 n c) bs) (hc : b0 = none → c = 0) (hlen : n ≤ 140737488351232)
    (HDW : Hid (D.wide ∧ D.bytes))
    (HCOP : Hid (∀ w', Below w.heap.size w w' → Calls Try.prog 10 #[(.agg #[.int .i64 k, .int .i64 m, .int .i64 u, .int .i64 g, .int .i64 l, .int .i64 s, .float .f64 t0, .float .f64 t1, .string ln, .slice xa xn xc, .slice ea en ec])] w' fun e w'' => ∃ xa' xc' ea' ec', e = .returned (.agg #[.int .i64 k, .int .i64 m, .int .i64 u, .int .i64 g, .int .i64 l, .int .i64 s, .float .f64 t0, .float .f64 t1, .string ln, .slice xa' xn xc', .slice ea' en ec']) ∧ InoM w'' w'.heap.size (.agg #[.int .i64 k, .int .i64 m, .int .i64 u, .int .i64 g, .int .i64 l, .int .i64 s, .float .f64 t0, .float .f64 t1, .string ln, .slice xa' xn xc', .slice ea' en ec']) D ∧ Below w'.heap.size w' w''))
    (HSAM : Hid (∀ B v' D' w', InoM w' B v' D' → SameD D D' → Below w.heap.size w w' → Calls Try.prog 13 #[(.agg #[.int .i64 k, .int .i64 m, .int .i64 u, .int .i64 g, .int .i64 l, .int .i64 s, .float .f64 t0, .float .f64 t1, .string ln, .slice xa xn xc, .slice ea en ec]), v'] w' fun e w'' => e = .returned (.bool true) ∧ Below w'.heap.size w' w'')) :
    Calls Try.prog 6 #[(.agg #[.int .i64 k, .int .i64 m, .int .i64 u, .int .i64 g, .int .i64 l, .int .i64 s, .float .f64 t0, .float .f64 t1, .string ln, .slice xa xn xc, .slice ea en ec]), .slice b0 n c] w fun e w' => e = .returned (.bool true) ∧ Below w.heap.size w w' := by
  have HFIX := Lib.hid fixed_ino
  have HBT := Lib.hid h
  have HC0 := Lib.hid hc
  have HLN := Lib.hid hlen
  have hn9 : n ≤ 9223372036854775807 := by omega
  clear h hc hlen
  have hsf : ∀ (a : Addr) (n : Nat) (m : Mode) (w : World), (store a (.float .f64 n) m).run Try.prog w = stored Try.prog w a (.float .f64 n) m := fun a n m w => run_store Try.prog w a _ m rfl
  have hal : Below w.heap.size w (w.alloc (.cells #[.int .i64 k, .int .i64 m, .int .i64 u, .int .i64 g, .int .i64 l, .int .i64 s, .float .f64 t0, .float .f64 t1, .string ln, .slice xa xn xc, .slice ea en ec] 31)) := (Below.refl _ _).alloc (Nat.le_refl _) _
  have HW1 := Lib.hid hal
  have HI := Lib.hid (InoAt.new w k m u g l s t0 t1 ln xa xn xc ea en ec)
  clear hal
  go_enter Try.func6, Try.ntmps6
  go_upto_region 1 with fail
  generalize (w.alloc (.cells #[.int .i64 k, .int .i64 m, .int .i64 u, .int .i64 g, .int .i64 l, .int .i64 s, .float .f64 t0, .float .f64 t1, .string ln, .slice xa xn xc, .slice ea en ec] 31)) = w1 at HW1 HI ⊢
  obtain ⟨X, hX⟩ : ∃ X, Hid (w.heap.size = X) := ⟨_, rfl⟩
  rw [hX.out] at HI
  simp only [hX.out]
  go_upto_region 3 with (go_at_call 8; refine (HFIX.out _).mono ?_; rintro e w2 ⟨rfl, hb⟩; have HI2 := Lib.hid (HI.out.below hb); have HB2 := Lib.hid (HW1.out.trans (hb.mono HW1.out.size)); clear hb)
  obtain ⟨c0, c1, c2, c3, c4, c5, c6, c7, c8, c9, c10⟩ := HI2.out.cells
  go_upto_region 4 with (first
    | (go_at_call 10; refine (HCOP.out _ HB2.out).mono ?_; rintro e w3 ⟨xa', xc', ea', ec', rfl, hmv, hb⟩; have HM3 := Lib.hid hmv; have HI3 := Lib.hid (HI2.out.below hb); have HB3 := Lib.hid (HB2.out.trans (hb.mono HB2.out.size)); clear hb hmv)
    | (go_at_call 7; refine (enc_b HM3.out HDW.out.1).mono ?_; rintro e w4 ⟨a4, l4, c4', q4, rfl, hb, hr⟩; have HR4 := Lib.hid hr; have HI4 := Lib.hid (HI3.out.below hb); have HB4 := Lib.hid (HB3.out.trans (hb.mono HB3.out.size)); clear hb hr))
  clear c0 c1 c2 c3 c4 c5 c6 c7 c8 c9 c10 HI HI2 HI3 HW1 HB2 HB3 HM3 HCOP
  have HSTOP : True := trivial
  rcases HR4.out with ⟨rfl, hrd, rfl, L4, off4, hp⟩ | ⟨rfl, hrd⟩
  · have HP4 := Lib.hid hp
    have HRD := Lib.hid hrd
    clear hp hrd HR4
    go_upto_region 6 with (go_at_call 14; refine (decode_q _ _ _ _ _ _ _ HP4.out).mono ?_; rintro e w5 ⟨k', m', u', g', l', s', t0', t1', ln', xa', xn', xc', ea', en', ec', D', q', rfl, hm, hb, hr⟩; obtain ⟨hqq, hsd⟩ := decR_same (Or.inl ⟨rfl, HRD.out, rfl, HDW.out.1, HDW.out.2⟩) hr; have HSD := Lib.hid hsd; have HQQ := Lib.hid hqq; have HM5 := Lib.hid hm; have HI5 := Lib.hid (HI4.out.below hb); have HB5 := Lib.hid (HB4.out.trans (hb.mono HB4.out.size)); clear hm hb hr hqq hsd)
    obtain rfl : (0 : Int) = q' := HQQ.out
    have hal : Below w5.heap.size w5 (w5.alloc (.cells #[.int .i64 k', .int .i64 m', .int .i64 u', .int .i64 g', .int .i64 l', .int .i64 s', .float .f64 t0', .float .f64 t1', .string ln', .slice xa' xn' xc', .slice ea' en' ec'] 31)) := (Below.refl _ _).alloc (Nat.le_refl _) _
    have HI6 := Lib.hid (HI5.out.below hal)
    have HJ6 := Lib.hid (InoAt.new w5 k' m' u' g' l' s' t0' t1' ln' xa' xn' xc' ea' en' ec')
    have HM6 := Lib.hid (HM5.out.below hal)
    have HB6 := Lib.hid (HB5.out.trans (hal.mono HB5.out.size))
    clear hal HM5 HI5 HB5 HB4 HI4
    generalize (w5.alloc (.cells #[.int .i64 k', .int .i64 m', .int .i64 u', .int .i64 g', .int .i64 l', .int .i64 s', .float .f64 t0', .float .f64 t1', .string ln', .slice xa' xn' xc', .slice ea' en' ec'] 31)) = w6 at HI6 HJ6 HM6 HB6 ⊢
    obtain ⟨Y, hY⟩ : ∃ X, Hid (w5.heap.size = X) := ⟨_, rfl⟩
    rw [hY.out] at HJ6 ⊢
    obtain ⟨c0, c1, c2, c3, c4, c5, c6, c7, c8, c9, c10⟩ := HI6.out.cells
    obtain ⟨d0, d1, d2, d3, d4, d5, d6, d7, d8, d9, d10⟩ := HJ6.out.cells
    go_upto_region 8 with (go_at_call 13; refine (HSAM.out _ _ _ _ HM6.out HSD.out HB6.out).mono ?_; rintro e w7 ⟨rfl, hb⟩; have HB7 := Lib.hid (HB6.out.trans (hb.mono HB6.out.size)); clear hb)
    clear c0 c1 c2 c3 c4 c5 c6 c7 c8 c9 c10 d0 d1 d2 d3 d4 d5 d6 d7 d8 d9 d10 HI6 HJ6 HM6 HB6 HSD HP4
    obtain ⟨G, cap, w8, hrun, hG, hown, hb8⟩ := run_copied2 w7 L0 off0 b0 n c bs (HBT.out.below HB7.out) HC0.out (by have := HLN.out; omega)
    have HRUN := Lib.hid hrun
    have HMB : Hid (BtsAt w8 G 0 (.slice (some ⟨G, 0, none⟩) n cap) bs) := (BtsAt.of_own hown HBT.out.range).1
    have HB8 := Lib.hid (HB7.out.trans (hb8.mono HB7.out.size))
    clear hrun hG hown hb8
    go_upto_region 9 with (first
      | (at_builtin; refine wpList_append_run _ rfl _ _ _ _ rfl _ _ rfl rfl HRUN.out ?_)
      | (go_at_call 14; refine (decode_q _ _ _ _ _ _ _ HMB.out).mono ?_; rintro e w9 ⟨k2, m2, u2, g2, l2, s2, t20, t21, ln2, xa2, xn2, xc2, ea2, en2, ec2, D2, q2, rfl, hm, hb, hr⟩; have HR9 := Lib.hid hr; have HM9 := Lib.hid hm; have HB9 := Lib.hid (HB8.out.trans (hb.mono HB8.out.size)); clear hm hb hr))
    have hal : Below w9.heap.size w9 (w9.alloc (.cells #[.int .i64 k2, .int .i64 m2, .int .i64 u2, .int .i64 g2, .int .i64 l2, .int .i64 s2, .float .f64 t20, .float .f64 t21, .string ln2, .slice xa2 xn2 xc2, .slice ea2 en2 ec2] 31)) := (Below.refl _ _).alloc (Nat.le_refl _) _
    have HJ10 := Lib.hid (InoAt.new w9 k2 m2 u2 g2 l2 s2 t20 t21 ln2 xa2 xn2 xc2 ea2 en2 ec2)
    have HM10 := Lib.hid (HM9.out.below hal)
    have HB10 := Lib.hid (HB9.out.trans (hal.mono HB9.out.size))
    clear hal HM9 HB9 HB8 HB7 HRUN HMB
    generalize (w9.alloc (.cells #[.int .i64 k2, .int .i64 m2, .int .i64 u2, .int .i64 g2, .int .i64 l2, .int .i64 s2, .float .f64 t20, .float .f64 t21, .string ln2, .slice xa2 xn2 xc2, .slice ea2 en2 ec2] 31)) = w10 at HJ10 HM10 HB10 ⊢
    obtain ⟨Z, hZ⟩ : ∃ X, Hid (w9.heap.size = X) := ⟨_, rfl⟩
    rw [hZ.out] at HJ10 ⊢
    rcases HR9.out with ⟨rfl, hr2, hp2, hw2, hbt2⟩ | ⟨rfl, hD2, hno⟩
    · have HR2 := Lib.hid hr2
      have HP2 := Lib.hid hp2
      have HW2 := Lib.hid hw2
      clear hr2 hp2 hw2 hbt2 HR9
      obtain ⟨c0, c1, c2, c3, c4, c5, c6, c7, c8, c9, c10⟩ := HJ10.out.cells
      go_upto_region 12 with (go_at_call 7; refine (enc_b HM10.out HW2.out).mono ?_; rintro e w11 ⟨a11, l11, c11, q11, rfl, hb, hr⟩; have HR11 := Lib.hid hr; have HB11 := Lib.hid (HB10.out.trans (hb.mono HB10.out.size)); clear hb hr)
      clear c0 c1 c2 c3 c4 c5 c6 c7 c8 c9 c10 HJ10 HM10 HB10
      rcases HR11.out with ⟨rfl, hrd, hl, L5, off5, hp⟩ | ⟨rfl, hrd⟩
      · have z1 := Bts.run_str (B := 0) ⟨L5, off5, Nat.zero_le _, hp⟩ 32 9 5 Try.underlying32 Try.underlying5 Try.underlying9
        have z0 := Bts.run_str (B := 0) ⟨L0, off0, Nat.zero_le _, HBT.out.below HB11.out⟩ 32 9 5 Try.underlying32 Try.underlying5 Try.underlying9
        rw [HP2.out] at z1
        obtain ⟨S, hS⟩ : ∃ x, Hid (strOfNums bs = x) := ⟨_, rfl⟩
        rw [hS.out] at z1 z0
        clear hp hrd hl HR11
        go_wp2
        go_ret
        exact ⟨by simp, HB11.out⟩
      · exact absurd (HR2.out.symm.trans hrd) (by decide)
    · clear hD2 hno HR9
      go_wp2
      go_ret
      exact ⟨rfl, HB10.out⟩
  · go_upto_region 8 with fail
    obtain ⟨G, cap, w8, hrun, hG, hown, hb8⟩ := run_copied2 w4 L0 off0 b0 n c bs (HBT.out.below HB4.out) HC0.out (by have := HLN.out; omega)
    have HRUN := Lib.hid hrun
    have HMB : Hid (BtsAt w8 G 0 (.slice (some ⟨G, 0, none⟩) n cap) bs) := (BtsAt.of_own hown HBT.out.range).1
    have HB8 := Lib.hid (HB4.out.trans (hb8.mono HB4.out.size))
    clear hrun hG hown hb8
    go_upto_region 9 with (first
      | (at_builtin; refine wpList_append_run _ rfl _ _ _ _ rfl _ _ rfl rfl HRUN.out ?_)
      | (go_at_call 14; refine (decode_q _ _ _ _ _ _ _ HMB.out).mono ?_; rintro e w9 ⟨k2, m2, u2, g2, l2, s2, t20, t21, ln2, xa2, xn2, xc2, ea2, en2, ec2, D2, q2, rfl, hm, hb, hr⟩; have HR9 := Lib.hid hr; have HM9 := Lib.hid hm; have HB9 := Lib.hid (HB8.out.trans (hb.mono HB8.out.size)); clear hm hb hr))
    have hal : Below w9.heap.size w9 (w9.alloc (.cells #[.int .i64 k2, .int .i64 m2, .int .i64 u2, .int .i64 g2, .int .i64 l2, .int .i64 s2, .float .f64 t20, .float .f64 t21, .string ln2, .slice xa2 xn2 xc2, .slice ea2 en2 ec2] 31)) := (Below.refl _ _).alloc (Nat.le_refl _) _
    have HJ10 := Lib.hid (InoAt.new w9 k2 m2 u2 g2 l2 s2 t20 t21 ln2 xa2 xn2 xc2 ea2 en2 ec2)
    have HM10 := Lib.hid (HM9.out.below hal)
    have HB10 := Lib.hid (HB9.out.trans (hal.mono HB9.out.size))
    clear hal HM9 HB9 HB8 HB4 HRUN HMB
    generalize (w9.alloc (.cells #[.int .i64 k2, .int .i64 m2, .int .i64 u2, .int .i64 g2, .int .i64 l2, .int .i64 s2, .float .f64 t20, .float .f64 t21, .string ln2, .slice xa2 xn2 xc2, .slice ea2 en2 ec2] 31)) = w10 at HJ10 HM10 HB10 ⊢
    obtain ⟨Z, hZ⟩ : ∃ X, Hid (w9.heap.size = X) := ⟨_, rfl⟩
    rw [hZ.out] at HJ10 ⊢
    rcases HR9.out with ⟨rfl, hr2, hp2, hw2, hbt2⟩ | ⟨rfl, hD2, hno⟩
    · have HR2 := Lib.hid hr2
      have HP2 := Lib.hid hp2
      have HW2 := Lib.hid hw2
      clear hr2 hp2 hw2 hbt2 HR9
      obtain ⟨c0, c1, c2, c3, c4, c5, c6, c7, c8, c9, c10⟩ := HJ10.out.cells
      go_upto_region 12 with (go_at_call 7; refine (enc_b HM10.out HW2.out).mono ?_; rintro e w11 ⟨a11, l11, c11, q11, rfl, hb, hr⟩; have HR11 := Lib.hid hr; have HB11 := Lib.hid (HB10.out.trans (hb.mono HB10.out.size)); clear hb hr)
      clear c0 c1 c2 c3 c4 c5 c6 c7 c8 c9 c10 HJ10 HM10 HB10
      rcases HR11.out with ⟨rfl, hrd, hl, L5, off5, hp⟩ | ⟨rfl, hrd⟩
      · have z1 := Bts.run_str (B := 0) ⟨L5, off5, Nat.zero_le _, hp⟩ 32 9 5 Try.underlying32 Try.underlying5 Try.underlying9
        have z0 := Bts.run_str (B := 0) ⟨L0, off0, Nat.zero_le _, HBT.out.below HB11.out⟩ 32 9 5 Try.underlying32 Try.underlying5 Try.underlying9
        rw [HP2.out] at z1
        obtain ⟨S, hS⟩ : ∃ x, Hid (strOfNums bs = x) := ⟨_, rfl⟩
        rw [hS.out] at z1 z0
        clear hp hrd hl HR11
        go_wp2
        go_ret
        exact ⟨by simp, HB11.out⟩
      · exact absurd (HR2.out.symm.trans hrd) (by decide)
    · clear hD2 hno HR9
      go_wp2
      go_ret
      exact ⟨rfl, HB10.out⟩
theorem back_frame (D : InoD) (v : Value) (a : Option Addr) (len cap L off : Nat) (bs : List Int) (w : World) (h : InoG w v D) (hb0 : BtsAt w L off (.slice a len cap) bs) (hc : a = none → cap = 0) (hlen : len ≤ 140737488351232) :
    Calls Try.prog 6 #[v, .slice a len cap] w fun e w' => e = .returned (.bool true) ∧ Below w.heap.size w w' := by
  have hw := h.wide
  have h' := h
  obtain ⟨xa, ea, xc, ec, L1, off1, L', off', VA, VC, rfl, _⟩ := h
  refine back_of D.k D.m D.u D.g D.l D.s D.t0 D.t1 D.ln D.xn D.en xa ea xc ec D a len cap L off bs w hb0 hc hlen ⟨hw, h'.m.bytes⟩ ?_ ?_
  · intro w' hb
    refine (copied_any (h'.below hb)).mono fun e w2 ⟨v', h1, h2, h3⟩ => ?_
    obtain ⟨xa', xc', ea', ec', hv⟩ := h2.shape
    subst hv
    exact ⟨xa', xc', ea', ec', h1, h2, h3⟩
  · exact fun B v' D' w' hm hs hb => same_any (h'.m.below hb) hm hs
end Go.Proofs.Ytebnekpccdcnmaa
