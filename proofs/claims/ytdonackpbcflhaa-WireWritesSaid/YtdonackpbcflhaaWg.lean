/- The walk of WireWrites. -/
import Derived.Test.YtdonackpbcflhaaWf
import Derived.OpenShut
namespace Go.Proofs.Ytdonackpbcflhaa
set_option linter.unusedVariables false
set_option linter.unusedSimpArgs false
open Go.RowKit

/-- What a writer of bytes hands back: bytes that read as xs, and er. -/
def ByteRes (w : World) (xs : List Int) (er : Int) (e : Ending) (w' : World) : Prop :=
  ∃ a n c, e = .returned (.tuple #[.slice a n c, .int .i64 er]) ∧ Bts w' 0 (.slice a n c) xs ∧ Below w.heap.size w w'

theorem ByteRes.bad {w : World} {e : Ending} {w' : World} (h : e = .returned (.tuple #[.slice none 0 0, .int .i64 2]) ∧ w = w') : ByteRes w [] 2 e w' := by
  obtain ⟨rfl, rfl⟩ := h
  exact ⟨none, 0, 0, rfl, Bts.nil _ _, Below.refl _ _⟩
theorem ByteRes.made {P : Program} {E : TypeId} {w : World} {xs : List Int} {e : Ending} {w' : World} (h : OkMade P E w 0 xs e w') (hr : ∀ x ∈ xs, 0 ≤ x ∧ x < 256) : ByteRes w xs 0 e w' := by
  obtain ⟨s, rfl, ⟨g, c, rfl⟩, h1, h2⟩ := h
  exact ⟨_, _, _, rfl, (Bts.of_own h1 hr).mono (Nat.zero_le _), h2⟩

def numBad (v : Nat) (n : Int) : Bool := decide (n < 1) || decide (8 < n) || decide (v / 256 ^ n.toNat ≠ 0)
def numB (v : Nat) (n : Int) : List Int := if numBad v n then [] else beB v n.toNat
def numE (v : Nat) (n : Int) : Int := if numBad v n then 2 else 0

theorem numB_bad {v : Nat} {n : Int} (h : numBad v n = true) : numB v n = [] ∧ numE v n = 2 := by unfold numB numE; rw [h]; exact ⟨rfl, rfl⟩
theorem numB_good {v : Nat} {n : Int} (h : numBad v n = false) : numB v n = beB v n.toNat ∧ numE v n = 0 := by unfold numB numE; rw [h]; exact ⟨rfl, rfl⟩

theorem shr_zero (v m : Nat) : ((v : Int) / 2 ^ (8 * m) != 0) = decide (v / 256 ^ m ≠ 0) := by
  have : (2 : Int) ^ (8 * m) = ((256 ^ m : Nat) : Int) := by rw [Int.pow_mul]; simp
  rw [this, ← Int.natCast_ediv, Bool.eq_iff_iff, bne_iff_ne, decide_eq_true_eq]
  omega

theorem number_all (v : Nat) (n : Int) (w : World) (hv : v < 18446744073709551616) : Calls Try.prog 6 #[.int .u64 v, .int .i64 n] w (ByteRes w (numB v n) (numE v n)) := by
  by_cases h1 : n < 1
  · obtain ⟨e1, e2⟩ := numB_bad (v := v) (n := n) (by unfold numBad; rw [decide_eq_true h1]; rfl)
    rw [e1, e2]
    exact (number_few v n w h1).mono fun _ _ h => ByteRes.bad h
  · by_cases h2 : 8 < n
    · obtain ⟨e1, e2⟩ := numB_bad (v := v) (n := n) (by unfold numBad; rw [decide_eq_true h2]; simp)
      rw [e1, e2]
      exact (number_many v n w h2).mono fun _ _ h => ByteRes.bad h
    · obtain ⟨m, rfl⟩ := Int.eq_ofNat_of_zero_le (show 0 ≤ n by omega)
      by_cases h3 : v / 256 ^ m = 0
      · obtain ⟨e1, e2⟩ := numB_good (v := v) (n := m) (by unfold numBad; rw [decide_eq_false h1, decide_eq_false h2, Int.toNat_natCast, decide_eq_false (by simpa using h3)]; rfl)
        rw [e1, e2, Int.toNat_natCast]
        exact (number_loop v m w (by omega) (by omega) (Or.inr (by rw [shr_zero]; simpa using h3)) hv).mono fun _ _ h => ByteRes.made h (beB_range v m)
      · obtain ⟨e1, e2⟩ := numB_bad (v := v) (n := m) (by unfold numBad; rw [Int.toNat_natCast, decide_eq_true h3]; simp)
        rw [e1, e2]
        have hm8 : m < 8 := by
          refine Classical.byContradiction fun hc => h3 ?_
          have : m = 8 := by omega
          subst this
          exact Nat.div_eq_of_lt hv
        exact (number_great v m w (by omega) hm8 (by rw [shr_zero]; exact decide_eq_true h3)).mono fun _ _ h => ByteRes.bad h
theorem refNumber_all (v : Nat) (n : Int) (w : World) (hv : v < 18446744073709551616) : Calls Try.prog 7 #[.int .u64 v, .int .i64 n] w (ByteRes w (numB v n) (numE v n)) := by
  by_cases h1 : n < 1
  · obtain ⟨e1, e2⟩ := numB_bad (v := v) (n := n) (by unfold numBad; rw [decide_eq_true h1]; rfl)
    rw [e1, e2]
    exact (refNumber_few v n w h1).mono fun _ _ h => ByteRes.bad h
  · by_cases h2 : 8 < n
    · obtain ⟨e1, e2⟩ := numB_bad (v := v) (n := n) (by unfold numBad; rw [decide_eq_true h2]; simp)
      rw [e1, e2]
      exact (refNumber_many v n w h2).mono fun _ _ h => ByteRes.bad h
    · obtain ⟨m, rfl⟩ := Int.eq_ofNat_of_zero_le (show 0 ≤ n by omega)
      refine (refNumber_loop v m w (by omega) (by omega) hv).mono fun e w' h => ?_
      rcases h with ⟨h3, h⟩ | ⟨h3, rfl, h⟩
      · obtain ⟨e1, e2⟩ := numB_good (v := v) (n := m) (by unfold numBad; rw [decide_eq_false h1, decide_eq_false h2, Int.toNat_natCast, decide_eq_false (by simpa using h3)]; rfl)
        rw [e1, e2, Int.toNat_natCast]
        exact ByteRes.made h (beB_range v m)
      · obtain ⟨e1, e2⟩ := numB_bad (v := v) (n := m) (by unfold numBad; rw [Int.toNat_natCast, decide_eq_true h3]; simp)
        rw [e1, e2]
        exact ⟨none, 0, 0, rfl, Bts.nil _ _, h⟩

def txtBad (s : ByteArray) (n : Int) : Bool := decide (n < 1 ∨ 256 < n ∨ n - 1 < (s.size : Int))
def txtB (s : ByteArray) (n : Int) : List Int := if txtBad s n then [] else textB s n.toNat
def txtE (s : ByteArray) (n : Int) : Int := if txtBad s n then 2 else 0
theorem txt_all {s : ByteArray} {n : Int} {w : World} {f : FuncId} (hs : (s.size : Int) ≤ 9223372036854775807)
    (hb : (n < 1 ∨ 256 < n ∨ n - 1 < (s.size : Int)) → Calls Try.prog f #[.string s, .int .i64 n] w fun e w' => e = .returned (.tuple #[.slice none 0 0, .int .i64 2]) ∧ w = w')
    (hg : ∀ m : Nat, m ≤ 256 → s.size + 1 ≤ m → Calls Try.prog f #[.string s, .int .i64 m] w (OkMade Try.prog 5 w 0 (textB s m))) :
    Calls Try.prog f #[.string s, .int .i64 n] w (ByteRes w (txtB s n) (txtE s n)) := by
  by_cases h : n < 1 ∨ 256 < n ∨ n - 1 < (s.size : Int)
  · have e : txtBad s n = true := decide_eq_true h
    unfold txtB txtE
    rw [e]
    exact (hb h).mono fun _ _ h => ByteRes.bad h
  · have e : txtBad s n = false := decide_eq_false h
    unfold txtB txtE
    rw [e]
    obtain ⟨m, rfl⟩ := Int.eq_ofNat_of_zero_le (show 0 ≤ n by omega)
    rw [Int.toNat_natCast]
    exact (hg m (by omega) (by omega)).mono fun _ _ h => ByteRes.made h (textB_range s m (by omega))

set_option maxHeartbeats 800000 in
/-- WireWrites -/
theorem writes_walk (v : Int) (s : ByteArray) (n : Int) (w : World) (wv : (Lit.int .u64 v).wf = true) (ws : s.size ≤ maxLen) (wn : (Lit.int .i64 n).wf = true) :
    Calls Try.prog 3 #[.int .u64 v, .string s, .int .i64 n] w fun e w' => e = .returned (.bool true) ∧ Below w.heap.size w w' := by
  have hv := bounds_u64 wv
  obtain ⟨u, rfl⟩ := Int.eq_ofNat_of_zero_le hv.1
  have hu : u < 18446744073709551616 := by omega
  have hs : (s.size : Int) ≤ 9223372036854775807 := by unfold maxLen at ws; omega
  have C1 := fun w => number_all u n w hu
  have C2 := fun w => refNumber_all u n w hu
  have C3 := fun w => txt_all (f := 8) (w := w) hs (text_bad s n w hs) (fun m h1 h2 => text_good s m w h1 h2)
  have C4 := fun w => txt_all (f := 9) (w := w) hs (refText_bad s n w hs) (fun m h1 h2 => refText_good s m w h1 h2)
  obtain ⟨XA, HXA⟩ : ∃ X, Hid (numB u n = X) := ⟨_, rfl⟩
  obtain ⟨XC, HXC⟩ : ∃ X, Hid (txtB s n = X) := ⟨_, rfl⟩
  obtain ⟨ea, HEA⟩ : ∃ X, Hid (numE u n = X) := ⟨_, rfl⟩
  obtain ⟨ec, HEC⟩ : ∃ X, Hid (txtE s n = X) := ⟨_, rfl⟩
  rw [HXA.out, HEA.out] at C1 C2
  rw [HXC.out, HEC.out] at C3 C4
  clear wv ws wn hv hu hs
  go_enter Try.func3, Try.ntmps3
  go_wp2_with (first
    | (go_at_call 6; refine (C1 _).mono ?_; rintro e w1 ⟨a1, n1, c1, rfl, h1, h1b⟩; have A1 := Lib.hid h1; have B1 := Lib.hid h1b; clear h1 h1b)
    | (go_at_call 7; refine (C2 _).mono ?_; rintro e w2 ⟨a2, n2, c2, rfl, h2, h2b⟩; have A2 := Lib.hid h2; have B2 := Lib.hid h2b; clear h2 h2b)
    | (go_at_call 8; refine (C3 _).mono ?_; rintro e w3 ⟨a3, n3, c3, rfl, h3, h3b⟩; have A3 := Lib.hid h3; have B3 := Lib.hid h3b; clear h3 h3b)
    | (go_at_call 9; refine (C4 _).mono ?_; rintro e w4 ⟨a4, n4, c4, rfl, h4, h4b⟩; have A4 := Lib.hid h4; have B4 := Lib.hid h4b; clear h4 h4b))
  obtain ⟨hl3, hl3b, hl3c⟩ := A3.out.len
  have HL := Lib.hid hl3
  have hn3 : n3 ≤ 9223372036854775807 := by omega
  have A3' := Lib.hid (A3.out.below B4.out)
  clear hl3 hl3b hl3c
  go_loop [15, 44] (fun z i => ∃ (k : Nat) (t : Bool), k ≤ n3 ∧ i = .int .i64 k ∧ z = .bool t ∧ Hid (t = (XC.take k).all (· == 0))) (fun _ i => n3 - (intOf i).toNat)
  case atStart => exact ⟨0, true, Nat.zero_le _, rfl, rfl, rfl⟩
  case round =>
    obtain ⟨k, t, hk, rfl, rfl, ht⟩ := hrel
    by_cases hlt : k < n3
    · obtain ⟨b, off, rfl, _, hcell⟩ := A3'.out.cells (by omega)
      have hc := hcell k hlt
      have HT : Hid ((t && (XC.getD k 0 == 0)) = (XC.take (k + 1)).all (· == 0)) := by
        have hk2 : k < XC.length := by rw [← HL.out]; exact hlt
        show _ = _
        rw [List.take_succ_eq_append_getElem hk2, List.all_append, ← ht.out]
        simp [List.getD, hk2]
      clear hcell
      generalize XC.getD k 0 = x at *
      cases t
      · go_wp2
        go_round
        case rel => exact ⟨k + 1, false, by omega, by go_num, rfl, HT.out⟩
        case measure => simp [intOf]; omega
      · cases hx : (x == 0)
        · have HX : Hid (false = (XC.take (k + 1)).all (· == 0)) := by have := HT.out; rw [hx] at this; exact this
          clear HT
          go_wp2
          go_round
          case rel => exact ⟨k + 1, false, by omega, by go_num, rfl, HX⟩
          case measure => simp [intOf]; omega
        · have HX : Hid (true = (XC.take (k + 1)).all (· == 0)) := by have := HT.out; rw [hx] at this; exact this
          clear HT
          go_wp2
          go_round
          case rel => exact ⟨k + 1, true, by omega, by go_num, rfl, HX⟩
          case measure => simp [intOf]; omega
    · have HT : Hid (t = XC.all (· == 0)) := by
        have := ht.out
        rw [List.take_of_length_le (by rw [← HL.out]; omega)] at this
        exact this
      clear ht
      go_wp2_with (first
        | (go_at_call 10; refine (fixed_any _).mono ?_; rintro e w5 ⟨rfl, h5⟩; have s1 := run_strB (((A1.out.below B2.out).below (B3.out)).below (B4.out) |>.below h5); have s2 := run_strB (((A2.out.below B3.out).below B4.out).below h5); have s3 := run_strB (A3'.out.below h5); have s4 := run_strB (A4.out.below h5); have A5 := Lib.hid (A3'.out.below h5); have B5 := Lib.hid h5; clear h5)
        | (go_at_call 11; refine (zero_any _ _ _ 0 _ _ A5.out).mono ?_; rintro e w' ⟨rfl, rfl⟩; have hq := HT.out; rw [← hq]))
      go_ret
      refine ⟨rfl, ?_⟩
      have z1 := B1.out.size
      have z2 := B2.out.size
      have z3 := B3.out.size
      have z4 := B4.out.size
      exact (((B1.out.trans (B2.out.mono (by omega))).trans (B3.out.mono (by omega))).trans (B4.out.mono (by omega))).trans (B5.out.mono (by omega))
end Go.Proofs.Ytdonackpbcflhaa
