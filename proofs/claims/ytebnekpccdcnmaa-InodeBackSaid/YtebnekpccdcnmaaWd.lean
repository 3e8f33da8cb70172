/- Walks of the layer wire: the reader's Number, Bytes, Zeros, Text; Read. -/
import Derived.Test.YtebnekpccdcnmaaWc
namespace Go.Proofs.Ytebnekpccdcnmaa
set_option linter.unusedVariables false
set_option linter.unusedSimpArgs false
open Go.RowKit
set_option maxRecDepth 100000

/-! What reading comes to, on what is left and whether it is spoilt. -/
def badT (xs : List Int) (sp : Bool) (n : Int) : Bool := sp || decide (n < 0) || decide ((xs.length : Int) < n)
/-- The bytes that are taken. -/
def gotT (xs : List Int) (sp : Bool) (n : Int) : List Int := if badT xs sp n then [] else xs.take n.toNat
/-- What is left behind them. -/
def restT (xs : List Int) (sp : Bool) (n : Int) : List Int := if badT xs sp n then xs else xs.drop n.toNat

theorem badT_iff (xs : List Int) (sp : Bool) (n : Int) : badT xs sp n = true ↔ (sp = true ∨ n < 0 ∨ (xs.length : Int) < n) := by
  unfold badT; simp [or_assoc]

/-- What take comes to: of whatever it is asked. -/
def TookAny (w : World) (R L off : Nat) (xs : List Int) (sp : Bool) (n : Int) (e : Ending) (w' : World) : Prop :=
  ∃ a l, OnRdr w R L (off + (xs.length - (restT xs sp n).length)) (restT xs sp n) (badT xs sp n) (.slice a l l) e w' ∧ BtsAt w' L off (.slice a l l) (gotT xs sp n)

theorem take_any (R L off : Nat) (xs : List Int) (sp : Bool) (n : Int) (w : World) (h : Rdr w R L off xs sp) :
    Calls Try.prog 54 #[.pointer (some ⟨R, 0, none⟩), .int .i64 n] w (TookAny w R L off xs sp n) := by
  by_cases hb : badT xs sp n = true
  · refine (take_bad R L off xs sp n w h ((badT_iff _ _ _).1 hb)).mono fun e w' hw => ?_
    have e1 : restT xs sp n = xs := if_pos hb
    have e2 : gotT xs sp n = [] := if_pos hb
    unfold TookAny
    rw [e1, e2, hb, Nat.sub_self, Nat.add_zero]
    exact ⟨none, 0, hw, BtsAt.nil _ _ _⟩
  · have hx : ¬ (sp = true ∨ n < 0 ∨ (xs.length : Int) < n) := fun hc => hb ((badT_iff _ _ _).2 hc)
    have hsp : sp = false := by cases sp; rfl; exact absurd (Or.inl rfl) hx
    subst hsp
    obtain ⟨k, rfl⟩ := Int.eq_ofNat_of_zero_le (show 0 ≤ n by omega)
    have hk : k ≤ xs.length := by omega
    refine (take_good R L off xs k w h hk).mono fun e w' hw => ?_
    have hbf : badT xs false k = false := by simpa using hb
    have e1 : restT xs false k = xs.drop k := if_neg hb
    have e2 : gotT xs false k = xs.take k := if_neg hb
    obtain ⟨a, h1, h2⟩ := hw
    unfold TookAny
    rw [e1, e2, hbf, List.length_drop, show xs.length - (xs.length - k) = k by omega]
    exact ⟨a, k, h1, h2⟩

theorem stp_then {w w1 w2 : World} {R L off off' : Nat} {xs ys : List Int} {sp sq : Bool} (h1 : Rdr w1 R L off xs sp ∧ w.grownBy w1 (some R) ∧ w1.heap.size = w.heap.size) (h2 : Rdr w2 R L off' ys sq ∧ w1.grownBy w2 (some R) ∧ w2.heap.size = w1.heap.size) :
    Rdr w2 R L off' ys sq ∧ w.grownBy w2 (some R) ∧ w2.heap.size = w.heap.size := by
  obtain ⟨_, g1, s1⟩ := h1
  obtain ⟨hr, g2, s2⟩ := h2
  exact ⟨hr, ⟨g2.os.trans g1.os, g2.tape.trans g1.tape, g2.output.trans g1.output, Nat.le_trans g1.size g2.size, fun k hk hne => (g2.block k (by omega) hne).trans (g1.block k hk hne)⟩, by omega⟩

/-- (*wire.Reader).Zeros -/
def zerosBad (xs : List Int) (sp : Bool) (n : Int) : Bool := badT xs sp n || !(gotT xs sp n).all (· == 0)
theorem zeros_any (R L off : Nat) (xs : List Int) (sp : Bool) (n : Int) (w : World) (h : Rdr w R L off xs sp) :
    Calls Try.prog 37 #[.pointer (some ⟨R, 0, none⟩), .int .i64 n] w (OnRdr w R L (off + (xs.length - (restT xs sp n).length)) (restT xs sp n) (zerosBad xs sp n) (.tuple #[])) := by
  have H := Lib.hid h
  clear h
  cases hz : (gotT xs sp n).all (· == 0)
  · have HZ : Hid (zerosBad xs sp n = true) := by show zerosBad xs sp n = true; unfold zerosBad; rw [hz]; simp
    have HG := Lib.hid hz
    clear hz
    go_enter Try.func37, Try.ntmps37
    go_wp2_with (first
      | (go_at_call 54; refine (take_any R L off xs sp n _ H.out).mono ?_; rintro e w1 ⟨a, l, ⟨rfl, h1⟩, h2⟩; have H1 := Lib.hid h1; have H2 := Lib.hid h2; clear h1 h2)
      | (go_at_call 39; refine (zero_any a l l L _ _ ⟨L, off, Nat.le_refl _, H2.out⟩).mono ?_; rintro e w' ⟨rfl, rfl⟩; have hq := HG.out; rw [hq])
      | (go_at_call 34; refine (spoil_any R L _ _ _ _ H1.out.1).mono ?_; rintro e w2 ⟨rfl, h3⟩; have H3 := Lib.hid h3; clear h3))
    go_end0
    rw [HZ.out]
    exact ⟨rfl, stp_then H1.out H3.out⟩
  · have HZ : Hid (zerosBad xs sp n = badT xs sp n) := by show zerosBad xs sp n = _; unfold zerosBad; rw [hz]; simp
    have HG := Lib.hid hz
    clear hz
    go_enter Try.func37, Try.ntmps37
    go_wp2_with (first
      | (go_at_call 54; refine (take_any R L off xs sp n _ H.out).mono ?_; rintro e w1 ⟨a, l, ⟨rfl, h1⟩, h2⟩; have H1 := Lib.hid h1; have H2 := Lib.hid h2; clear h1 h2)
      | (go_at_call 39; refine (zero_any a l l L _ _ ⟨L, off, Nat.le_refl _, H2.out⟩).mono ?_; rintro e w' ⟨rfl, rfl⟩; have hq := HG.out; rw [hq]))
    go_end0
    rw [HZ.out]
    exact ⟨rfl, H1.out⟩
theorem zeros_nil (n : Int) (w : World) : Calls Try.prog 37 #[.pointer none, .int .i64 n] w fun e w' => e = .returned (.tuple #[]) ∧ w = w' := by
  have Z : ∀ w, Calls Try.prog 39 #[.slice none 0 0] w fun e w' => e = .returned (.bool true) ∧ w = w' := fun w => zero_any none 0 0 0 [] w (Bts.nil w 0)
  go_enter Try.func37, Try.ntmps37
  go_wp2_with (first
      | (go_at_call 54; refine (take_nil _ _).mono ?_; rintro e w' ⟨rfl, rfl⟩)
      | (go_at_call 39; refine (Z _).mono ?_; rintro e w' ⟨rfl, rfl⟩))
  go_end0
  exact ⟨rfl, rfl⟩

/-! Number: the bytes of a number, the greatest first. -/
def foldB (xs : List Int) : Int := xs.foldl (fun v x => v * 256 + x) 0
theorem foldB_snoc (xs : List Int) (x : Int) : foldB (xs ++ [x]) = foldB xs * 256 + x := by simp [foldB]
theorem fold_bd (xs : List Int) : ∀ v : Int, 0 ≤ v → (∀ x ∈ xs, 0 ≤ x ∧ x < 256) → 0 ≤ xs.foldl (fun v x => v * 256 + x) v ∧ xs.foldl (fun v x => v * 256 + x) v < (v + 1) * 256 ^ xs.length := by
  induction xs with
  | nil => intro v hv _; simp; omega
  | cons x xs ih =>
    intro v hv h
    have h2 := h x (by simp)
    obtain ⟨i1, i2⟩ := ih (v * 256 + x) (by omega) (fun y hy => h y (by simp [hy]))
    refine ⟨i1, Int.lt_of_lt_of_le i2 ?_⟩
    rw [List.length_cons, Int.pow_succ, Int.mul_comm (256 ^ xs.length) 256, ← Int.mul_assoc]
    have hp : (0 : Int) ≤ 256 ^ xs.length := Int.pow_nonneg (by decide)
    exact Int.mul_le_mul_of_nonneg_right (by omega) hp
theorem foldB_bd (xs : List Int) (h : ∀ x ∈ xs, 0 ≤ x ∧ x < 256) : 0 ≤ foldB xs ∧ foldB xs < 256 ^ xs.length := by
  have := fold_bd xs 0 (by decide) h
  simpa [foldB] using this
theorem or_low (v x : Int) (hv : 0 ≤ v) (hv2 : v < 72057594037927936) (hx : 0 ≤ x) (hx2 : x < 256) : bits BinOp.or IntKind.u64 (v * 256) x = v * 256 + x := by
  obtain ⟨a, rfl⟩ := Int.eq_ofNat_of_zero_le hv
  obtain ⟨b, rfl⟩ := Int.eq_ofNat_of_zero_le hx
  have e : ((a : Int) * 256) = ((a * 256 : Nat) : Int) := by simp
  rw [e, u64_or_nat (a * 256) b (by omega) (by omega)]
  have : a * 256 ||| b = a * 256 + b := by
    have := Nat.two_pow_add_eq_or_of_lt (i := 8) (b := b) (by omega) a
    rw [Nat.mul_comm] at this
    exact this.symm
  rw [this]; simp

theorem foldB_take (xs : List Int) (k : Nat) (hk : k < xs.length) : foldB (xs.take (k + 1)) = foldB (xs.take k) * 256 + xs.getD k 0 := by
  rw [List.take_succ_eq_append_getElem hk, foldB_snoc]
  simp [List.getD, hk]

/-- Is a number of n bytes asked that there is none of? -/
def badN (sp : Bool) (n : Int) : Bool := sp || decide (n < 1) || decide (8 < n)
def numV (xs : List Int) (sp : Bool) (n : Int) : Int := foldB (gotT xs (badN sp n) n)

def Numbered (w : World) (R L off : Nat) (xs : List Int) (sp : Bool) (n : Int) (e : Ending) (w' : World) : Prop :=
  OnRdr w R L (off + (xs.length - (restT xs (badN sp n) n).length)) (restT xs (badN sp n) n) (badT xs (badN sp n) n) (.int .u64 (numV xs sp n)) e w'

theorem gotT_len (xs : List Int) (sp : Bool) (n : Int) (h : n ≤ 8) : (gotT xs sp n).length ≤ 8 := by
  unfold gotT
  split
  · simp
  · rw [List.length_take]; omega
theorem gotT_bad (xs : List Int) (n : Int) : gotT xs true n = [] := by unfold gotT badT; simp
theorem badN_len (xs : List Int) (sp : Bool) (n : Int) : (gotT xs (badN sp n) n).length ≤ 8 := by
  by_cases h : n ≤ 8
  · exact gotT_len _ _ _ h
  · have : badN sp n = true := by unfold badN; simp; omega
    rw [this, gotT_bad]; simp

set_option maxHeartbeats 800000 in
/-- (*wire.Reader).Number: with what stands behind the test of n. -/
theorem number_rd (R L off : Nat) (xs : List Int) (sp : Bool) (n : Int) (w : World) (h : Rdr w R L off xs sp) :
    Calls Try.prog 32 #[.pointer (some ⟨R, 0, none⟩), .int .i64 n] w (Numbered w R L off xs sp n) := by
  have H := Lib.hid h
  clear h
  by_cases hn1 : n < 1 ∨ 8 < n
  · have hbN : Hid (badN sp n = true) := by show badN sp n = true; unfold badN; simp; omega
    have HN : Hid (numV xs sp n = 0) := by show numV xs sp n = 0; unfold numV; rw [hbN.out, gotT_bad]; rfl
    have HG : Hid (gotT xs true n = []) := gotT_bad xs n
    rcases hn1 with hn1 | hn1
    all_goals
      (try have hn2 : ¬ n < 1 := by omega)
      go_enter Try.func32, Try.ntmps32
      go_wp2_with (first
        | (go_at_call 34; refine (spoil_any R L off xs sp _ H.out).mono ?_; rintro e w1 ⟨rfl, h1⟩; have H1 := Lib.hid h1; clear h1)
        | (go_at_call 54; refine (take_any R L off xs true n _ H1.out.1).mono ?_; rintro e w2 ⟨a, l, ⟨rfl, h2⟩, h3⟩; have H2 := Lib.hid h2; have hl := h3.len.1; rw [HG.out] at hl; obtain rfl : l = 0 := hl; clear h2 h3))
      refine wp_loop_rounds 1 ?_
      rw [rounds_succ]
      go_wp2
      go_ret
      refine ⟨by rw [HN.out]; rfl, ?_⟩
      rw [hbN.out]
      exact stp_then H1.out H2.out
  · have hb : badN sp n = sp := by unfold badN; have : decide (n < 1) = false := decide_eq_false (by omega); have h8 : decide (8 < n) = false := decide_eq_false (by omega); rw [this, h8]; simp
    have HN : Hid (numV xs sp n = foldB (gotT xs sp n)) := by show numV xs sp n = _; unfold numV; rw [hb]
    have HB := Lib.hid hb
    have g1 : decide (n < 1) = false := decide_eq_false (by omega)
    have g2 : decide (8 < n) = false := decide_eq_false (by omega)
    have g8 : Hid ((gotT xs sp n).length ≤ 8) := gotT_len _ _ _ (by omega)
    clear hb hn1
    go_enter Try.func32, Try.ntmps32
    go_wp2_with (go_at_call 54; refine (take_any R L off xs sp n _ H.out).mono ?_; rintro e w2 ⟨a, l, ⟨rfl, h2⟩, h3⟩; have H2 := Lib.hid h2; have H3 := Lib.hid h3; clear h2 h3)
    obtain ⟨hl1, hl2, hl3⟩ := H3.out.len
    have hl8 : l ≤ 8 := by rw [hl1]; exact g8.out
    have HL := Lib.hid hl1
    clear hl1 g1 g2
    go_loop [5, 20] (fun v i => ∃ k : Nat, ∃ q : Int, k ≤ l ∧ i = .int .i64 k ∧ v = .int .u64 q ∧ Hid (q = foldB ((gotT xs sp n).take k))) (fun _ i => l - (intOf i).toNat)
    case atStart => exact ⟨0, 0, Nat.zero_le _, rfl, rfl, rfl⟩
    case round =>
      obtain ⟨k, q, hk, rfl, rfl, hq⟩ := hrel
      by_cases hlt : k < l
      · obtain ⟨rfl, hcell⟩ := H3.out.cells (by omega)
        have hc := hcell k hlt
        clear hcell
        obtain ⟨hx0, hx1⟩ := range_at H3.out.range k
        have hqb := foldB_bd ((gotT xs sp n).take k) (fun x hx => H3.out.range x (List.mem_of_mem_take hx))
        rw [← hq.out, List.length_take_of_le (by rw [← HL.out]; exact hk)] at hqb
        have hq2 : q < 72057594037927936 := by
          refine Int.lt_of_lt_of_le hqb.2 ?_
          have : ((256 ^ k : Nat) : Int) ≤ ((256 ^ 7 : Nat) : Int) := Int.ofNat_le.2 (Nat.pow_le_pow_right (by decide) (by omega))
          rw [Int.natCast_pow, Int.natCast_pow] at this
          exact Int.le_trans this (by decide)
        have hq0 := hqb.1
        have hor := or_low q ((gotT xs sp n).getD k 0) hq0 hq2 hx0 hx1
        have HQ : Hid (q * 256 + (gotT xs sp n).getD k 0 = foldB ((gotT xs sp n).take (k + 1))) := by
          show _ = _
          rw [foldB_take _ k (by rw [← HL.out]; exact hlt), ← hq.out]
        clear hqb
        generalize (gotT xs sp n).getD k 0 = x at *
        go_wp2
        go_round
        case rel => exact ⟨k + 1, _, by omega, by go_num, rfl, HQ⟩
        case measure => simp [intOf]; omega
      · have hkl : k = l := by omega
        have HQ : Hid (q = foldB (gotT xs sp n)) := by
          have := hq.out
          rw [hkl, List.take_of_length_le (by rw [← HL.out]; exact Nat.le_refl _)] at this
          exact this
        clear hq
        go_wp2
        go_ret
        refine ⟨by rw [HN.out, ← HQ.out]; rfl, ?_⟩
        rw [HB.out]
        exact H2.out
theorem number_rd_nil (n : Int) (w : World) : Calls Try.prog 32 #[.pointer none, .int .i64 1] w fun e w' => e = .returned (.int .u64 0) ∧ w = w' := by
  go_enter Try.func32, Try.ntmps32
  go_wp2_with (go_at_call 54; refine (take_nil _ _).mono ?_; rintro e w' ⟨rfl, rfl⟩)
  refine wp_loop_rounds 1 ?_
  rw [rounds_succ]
  go_wp2
  go_ret
  exact ⟨rfl, rfl⟩
end Go.Proofs.Ytebnekpccdcnmaa
