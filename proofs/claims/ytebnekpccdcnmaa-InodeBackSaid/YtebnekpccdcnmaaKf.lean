/- The walk of InodeEncodes. -/
import Derived.Test.YtebnekpccdcnmaaKe
import Derived.Outline
namespace Go.Proofs.Ytebnekpccdcnmaa
set_option linter.unusedVariables false
set_option linter.unusedSimpArgs false
open Go.RowKit

/-- What both Encodes answer. -/
def EncP (r : Bool) (pay : List Int) (w : World) (e : Ending) (w' : World) : Prop :=
  Below w.heap.size w w' ∧ ((r = true ∧ ∃ s, e = .returned (.tuple #[s, .int .i64 0]) ∧ Bts w' w.heap.size s pay) ∨ (r = false ∧ e = .returned (.tuple #[.slice none 0 0, .int .i64 3])))
theorem encode_p {D : InoD} {v : Value} {B : Nat} {w : World} (h : InoM w B v D) (hw : D.wide) : Calls Try.prog 7 #[v] w (EncP (rightD D) (payD D) w) := by
  cases hr : rightD D with
  | true => exact (encodeD_good h hw hr).mono fun e w' ⟨s, h1, h2, h3⟩ => ⟨h3, Or.inl ⟨rfl, s, h1, h2⟩⟩
  | false => exact (encodeD_bad h hr).mono fun e w' ⟨h1, h3⟩ => ⟨h3, Or.inr ⟨rfl, h1⟩⟩
theorem refEncode_p {D : InoD} {v : Value} {B : Nat} {w : World} (h : InoM w B v D) (hw : D.wide) : Calls Try.prog 11 #[v] w (EncP (rightD D) (payD D) w) := by
  cases hr : rightD D with
  | true => exact (refEncode_good h hw hr).mono fun e w' ⟨s, h1, h2, h3⟩ => ⟨h3, Or.inl ⟨rfl, s, h1, h2⟩⟩
  | false => exact (refEncode_bad h hw hr).mono fun e w' ⟨h1, h3⟩ => ⟨h3, Or.inr ⟨rfl, h1⟩⟩
/-- What an Encode hands back, as a text. -/
theorem enc_str {w : World} {B : Nat} {s : Value} {xs : List Int} (h : Bts w B s xs) : ∃ a l c, s = .slice a l c ∧ ∀ w', Below w.heap.size w w' → (convert 32 9 s).run Try.prog w' = .ok (.string (strOfNums xs)) w' := by
  obtain ⟨L, off, h1, h2⟩ := h
  obtain ⟨a, c, rfl, _⟩ := id h2
  exact ⟨_, _, _, rfl, fun w' hb => Bts.run_str ⟨L, off, h1, h2.below hb⟩ 32 9 5 Try.underlying32 Try.underlying5 Try.underlying9⟩
theorem nil_str (w : World) : (convert 32 9 (.slice none 0 0)).run Try.prog w = .ok (.string ByteArray.empty) w :=
  Bts.run_str (Bts.nil w 0) 32 9 5 Try.underlying32 Try.underlying5 Try.underlying9

theorem InoM.shape {w : World} {B : Nat} {v : Value} {k m u g l s : Int} {t0 t1 : Nat} {ln : ByteArray} {xn en : Nat} {F H N : Nat → Int} {XN : Nat → ByteArray} {VB : Nat → List Int} (h : InoM w B v ⟨k, m, u, g, l, s, t0, t1, ln, xn, en, F, H, N, XN, VB⟩) :
    ∃ xa' xc' ea' ec', v = (.agg #[.int .i64 k, .int .i64 m, .int .i64 u, .int .i64 g, .int .i64 l, .int .i64 s, .float .f64 t0, .float .f64 t1, .string ln, .slice xa' xn xc', .slice ea' en ec']) := by
  obtain ⟨xa', ea', xc', ec', _, _, _, _, _, _, rfl, _⟩ := h
  exact ⟨xa', xc', ea', ec', rfl⟩
/-- What both Encodes answer: the error's number, the bytes as a text. -/
def EncQ (q : Int) (S : ByteArray) (w : World) (e : Ending) (w' : World) : Prop :=
  ∃ a l c, e = .returned (.tuple #[.slice a l c, .int .i64 q]) ∧ (∀ w3, Below w'.heap.size w' w3 → (convert 32 9 (.slice a l c)).run Try.prog w3 = .ok (.string S) w3) ∧ Below w.heap.size w w'
theorem enc_q {rr : Bool} {pay : List Int} {w w' : World} {e : Ending} (h : EncP rr pay w e w') : EncQ (if rr = true then 0 else 3) (if rr = true then strOfNums pay else ByteArray.empty) w e w' := by
  obtain ⟨hb, ⟨rfl, s, rfl, hs⟩ | ⟨rfl, rfl⟩⟩ := h
  · obtain ⟨a, l, c, rfl, hc⟩ := enc_str hs
    exact ⟨a, l, c, rfl, hc, hb⟩
  · exact ⟨none, 0, 0, rfl, fun w3 _ => nil_str w3, hb⟩
theorem below_undrew {B : Nat} {w w' : World} (h : Below B w.drew w') : Below B w w' := ⟨h.os, h.tape, h.output, h.size, h.block⟩
set_option maxRecDepth 100000 in
set_option maxHeartbeats 4000000 in
theorem encodes_of (k m u g l s : Int) (t0 t1 : Nat) (ln : ByteArray) (xn en : Nat) (xa ea : Option Addr) (xc ec : Nat) (D : InoD) (rr : Bool) (q : Int) (S : ByteArray) (hq : Hid ((q == 0) = rr)) (w : World)
    (HCOP : Hid (∀ w', Below w.heap.size w w' → Calls Try.prog 10 #[(.agg #[.int .i64 k, .int .i64 m, .int .i64 u, .int .i64 g, .int .i64 l, .int .i64 s, .float .f64 t0, .float .f64 t1, .string ln, .slice xa xn xc, .slice ea en ec])] w' fun e w'' => ∃ xa' xc' ea' ec', e = .returned (.agg #[.int .i64 k, .int .i64 m, .int .i64 u, .int .i64 g, .int .i64 l, .int .i64 s, .float .f64 t0, .float .f64 t1, .string ln, .slice xa' xn xc', .slice ea' en ec']) ∧ InoM w'' w'.heap.size (.agg #[.int .i64 k, .int .i64 m, .int .i64 u, .int .i64 g, .int .i64 l, .int .i64 s, .float .f64 t0, .float .f64 t1, .string ln, .slice xa' xn xc', .slice ea' en ec']) D ∧ Below w'.heap.size w' w''))
    (HENC : Hid (∀ B v' w', InoM w' B v' D → Calls Try.prog 7 #[v'] w' (EncQ q S w')))
    (HREF : Hid (∀ w', Below w.heap.size w w' → Calls Try.prog 11 #[(.agg #[.int .i64 k, .int .i64 m, .int .i64 u, .int .i64 g, .int .i64 l, .int .i64 s, .float .f64 t0, .float .f64 t1, .string ln, .slice xa xn xc, .slice ea en ec])] w' (EncQ q S w')))
    (HCHK : Hid (∀ B v' w', InoM w' B v' D → Calls Try.prog 9 #[v'] w' fun e w'' => e = .returned (.int .i64 q) ∧ Below w'.heap.size w' w''))
    (HRGT : Hid (∀ w', Below w.heap.size w w' → Calls Try.prog 12 #[(.agg #[.int .i64 k, .int .i64 m, .int .i64 u, .int .i64 g, .int .i64 l, .int .i64 s, .float .f64 t0, .float .f64 t1, .string ln, .slice xa xn xc, .slice ea en ec])] w' fun e w'' => e = .returned (.bool rr) ∧ Below w'.heap.size w' w''))
    (HSAM : Hid (∀ B v' w', InoM w' B v' D → Below w.heap.size w w' → Calls Try.prog 13 #[v', (.agg #[.int .i64 k, .int .i64 m, .int .i64 u, .int .i64 g, .int .i64 l, .int .i64 s, .float .f64 t0, .float .f64 t1, .string ln, .slice xa xn xc, .slice ea en ec])] w' fun e w'' => e = .returned (.bool true) ∧ Below w'.heap.size w' w''))
    (HFIX : Hid (∀ w, Calls Try.prog 8 #[] w fun e w' => e = .returned (.bool true) ∧ Below w.heap.size w w')) :
    Calls Try.prog 4 #[(.agg #[.int .i64 k, .int .i64 m, .int .i64 u, .int .i64 g, .int .i64 l, .int .i64 s, .float .f64 t0, .float .f64 t1, .string ln, .slice xa xn xc, .slice ea en ec])] w fun e w' => e = .returned (.bool true) ∧ Below w.heap.size w w' := by
  have hsf : ∀ (a : Addr) (n : Nat) (m : Mode) (w : World), (store a (.float .f64 n) m).run Try.prog w = stored Try.prog w a (.float .f64 n) m := fun a n m w => run_store Try.prog w a _ m rfl
  have hal : Below w.heap.size w (w.alloc (.cells #[.int .i64 k, .int .i64 m, .int .i64 u, .int .i64 g, .int .i64 l, .int .i64 s, .float .f64 t0, .float .f64 t1, .string ln, .slice xa xn xc, .slice ea en ec] 31)) := (Below.refl _ _).alloc (Nat.le_refl _) _
  have HW1 := Lib.hid hal
  have HI := Lib.hid (InoAt.new w k m u g l s t0 t1 ln xa xn xc ea en ec)
  clear hal
  go_enter Try.func4, Try.ntmps4
  go_upto_region 1 with fail
  generalize (w.alloc (.cells #[.int .i64 k, .int .i64 m, .int .i64 u, .int .i64 g, .int .i64 l, .int .i64 s, .float .f64 t0, .float .f64 t1, .string ln, .slice xa xn xc, .slice ea en ec] 31)) = w1 at HW1 HI ⊢
  obtain ⟨X, hX⟩ : ∃ X, Hid (w.heap.size = X) := ⟨_, rfl⟩
  rw [hX.out] at HI
  simp only [hX.out]
  obtain ⟨c0, c1, c2, c3, c4, c5, c6, c7, c8, c9, c10⟩ := HI.out.cells
  go_upto_region 2 with (go_at_call 10; refine (HCOP.out _ HW1.out).mono ?_; rintro e w2 ⟨xa', xc', ea', ec', rfl, hmv, hb⟩; have HM2 := Lib.hid hmv; have HI2 := Lib.hid (HI.out.below hb); have HB2 := Lib.hid (HW1.out.trans (hb.mono HW1.out.size)); clear hb hmv)
  clear c0 c1 c2 c3 c4 c5 c6 c7 c8 c9 c10 HI
  have hal : Below w2.heap.size w2 (w2.alloc (.cells #[.int .i64 k, .int .i64 m, .int .i64 u, .int .i64 g, .int .i64 l, .int .i64 s, .float .f64 t0, .float .f64 t1, .string ln, .slice xa' xn xc', .slice ea' en ec'] 31)) := (Below.refl _ _).alloc (Nat.le_refl _) _
  have HI3 := Lib.hid (HI2.out.below hal)
  have HJ3 := Lib.hid (InoAt.new w2 k m u g l s t0 t1 ln xa' xn xc' ea' en ec')
  have HM3 := Lib.hid (HM2.out.below hal)
  have HB3 := Lib.hid (HB2.out.trans (hal.mono HB2.out.size))
  clear hal HI2 HM2 HB2 HW1 HCOP hsf
  generalize (w2.alloc (.cells #[.int .i64 k, .int .i64 m, .int .i64 u, .int .i64 g, .int .i64 l, .int .i64 s, .float .f64 t0, .float .f64 t1, .string ln, .slice xa' xn xc', .slice ea' en ec'] 31)) = w3 at HI3 HJ3 HM3 HB3 ⊢
  obtain ⟨Y, hY⟩ : ∃ X, Hid (w2.heap.size = X) := ⟨_, rfl⟩
  rw [hY.out] at HJ3 ⊢
  obtain ⟨d0, d1, d2, d3, d4, d5, d6, d7, d8, d9, d10⟩ := HJ3.out.cells
  go_upto_region 3 with (go_at_call 7; refine (HENC.out _ _ _ HM3.out).mono ?_; rintro e w4 ⟨a4, l4, c4, rfl, hs4, hb⟩; have HS4 := Lib.hid hs4; have HI4 := Lib.hid (HI3.out.below hb); have HJ4 := Lib.hid (HJ3.out.below hb); have HM4 := Lib.hid (HM3.out.below hb); have HB4 := Lib.hid (HB3.out.trans (hb.mono HB3.out.size)); clear hb hs4)
  clear d0 d1 d2 d3 d4 d5 d6 d7 d8 d9 d10 HI3 HJ3 HM3 HB3 HENC
  obtain ⟨c0, c1, c2, c3, c4', c5, c6, c7, c8, c9, c10⟩ := HI4.out.cells
  go_upto_region 4 with (go_at_call 11; refine (HREF.out _ HB4.out).mono ?_; rintro e w5 ⟨a5, l5, c5', rfl, hs5, hb⟩; have HS5 := Lib.hid hs5; have HS45 : Hid (∀ w3, Below w5.heap.size w5 w3 → (convert 32 9 (.slice a4 l4 c4)).run Try.prog w3 = .ok (.string S) w3) := (fun w3 h3 => HS4.out w3 (hb.trans (h3.mono hb.size))); have HI5 := Lib.hid (HI4.out.below hb); have HJ5 := Lib.hid (HJ4.out.below hb); have HM5 := Lib.hid (HM4.out.below hb); have HB5 := Lib.hid (HB4.out.trans (hb.mono HB4.out.size)); clear hb hs5)
  clear c0 c1 c2 c3 c4' c5 c6 c7 c8 c9 c10 HI4 HJ4 HM4 HB4 HS4 HREF
  have hq' := hq.out
  go_region_with (first
    | (go_at_call 8; refine (HFIX.out _).mono ?_; rintro e w6 ⟨rfl, hb⟩; have hb : Below w5.heap.size w5 w6 := below_undrew hb; have z1 := HS45.out w6 hb; have z2 := HS5.out w6 hb; have HI6 := Lib.hid (HI5.out.below hb); have HJ6 := Lib.hid (HJ5.out.below hb); have HM6 := Lib.hid (HM5.out.below hb); have HB6 := Lib.hid (HB5.out.trans (hb.mono HB5.out.size)); clear hb; obtain ⟨c0, c1, c2, c3, c4', c5, c6, c7, c8, c9, c10⟩ := HI6.out.cells; obtain ⟨d0, d1, d2, d3, d4, d5, d6, d7, d8, d9, d10⟩ := HJ6.out.cells)
    | (go_at_call 9; refine (HCHK.out _ _ _ HM6.out).mono ?_; rintro e w7 ⟨rfl, hb⟩; have HI7 := Lib.hid (HI6.out.below hb); have HJ7 := Lib.hid (HJ6.out.below hb); have HM7 := Lib.hid (HM6.out.below hb); have HB7 := Lib.hid (HB6.out.trans (hb.mono HB6.out.size)); clear hb c0 c1 c2 c3 c4' c5 c6 c7 c8 c9 c10 d0 d1 d2 d3 d4 d5 d6 d7 d8 d9 d10; obtain ⟨c0, c1, c2, c3, c4', c5, c6, c7, c8, c9, c10⟩ := HI7.out.cells; obtain ⟨d0, d1, d2, d3, d4, d5, d6, d7, d8, d9, d10⟩ := HJ7.out.cells)
    | (go_at_call 12; refine (HRGT.out _ HB7.out).mono ?_; rintro e w8 ⟨rfl, hb⟩; have HI8 := Lib.hid (HI7.out.below hb); have HJ8 := Lib.hid (HJ7.out.below hb); have HM8 := Lib.hid (HM7.out.below hb); have HB8 := Lib.hid (HB7.out.trans (hb.mono HB7.out.size)); clear hb c0 c1 c2 c3 c4' c5 c6 c7 c8 c9 c10 d0 d1 d2 d3 d4 d5 d6 d7 d8 d9 d10; obtain ⟨c0, c1, c2, c3, c4', c5, c6, c7, c8, c9, c10⟩ := HI8.out.cells; obtain ⟨d0, d1, d2, d3, d4, d5, d6, d7, d8, d9, d10⟩ := HJ8.out.cells)
    | (go_at_call 13; refine (HSAM.out _ _ _ HM8.out HB8.out).mono ?_; rintro e w9 ⟨rfl, hb⟩; have HB9 := Lib.hid (HB8.out.trans (hb.mono HB8.out.size)); clear hb))
  all_goals (go_wp2; go_ret; exact ⟨rfl, HB9.out⟩)
theorem encodes_walk {D : InoD} {v : Value} {w : World} (h : InoG w v D) :
    Calls Try.prog 4 #[v] w fun e w' => e = .returned (.bool true) ∧ Below w.heap.size w w' := by
  have hw := h.wide
  have h' := h
  obtain ⟨xa, ea, xc, ec, L, off, L', off', VA, VC, rfl, _⟩ := h
  refine encodes_of D.k D.m D.u D.g D.l D.s D.t0 D.t1 D.ln D.xn D.en xa ea xc ec D (rightD D) (if rightD D = true then 0 else 3) (if rightD D = true then strOfNums (payD D) else ByteArray.empty) ?_ w ?_ ?_ ?_ ?_ ?_ ?_ (Lib.hid fixed_ino)
  · show _ = _
    cases rightD D <;> rfl
  · intro w' hb
    refine (copied_any (h'.below hb)).mono fun e w2 ⟨v', h1, h2, h3⟩ => ?_
    obtain ⟨xa', xc', ea', ec', hv⟩ := h2.shape
    subst hv
    exact ⟨xa', xc', ea', ec', h1, h2, h3⟩
  · exact fun B v' w' hm => (encode_p hm hw).mono fun e w2 h2 => enc_q h2
  · exact fun w' hb => (refEncode_p (h'.m.below hb) hw).mono fun e w2 h2 => enc_q h2
  · exact fun B v' w' hm => checkD hm
  · exact fun w' hb => refRightD (h'.m.below hb) hw
  · exact fun B v' w' hm hb => same_any hm (h'.m.below hb) (SameD.refl D)
end Go.Proofs.Ytebnekpccdcnmaa
