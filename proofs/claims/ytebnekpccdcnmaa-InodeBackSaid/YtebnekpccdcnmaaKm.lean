/- The walk of the reference of the layer inode: Decode. -/
import Derived.Test.YtebnekpccdcnmaaKl
import Derived.Test.YtebnekpccdcnmaaKf
import Derived.Outline
namespace Go.Proofs.Ytebnekpccdcnmaa
set_option linter.unusedVariables false
set_option linter.unusedSimpArgs false
open Go.RowKit

theorem str_beq {a b : ByteArray} (h : a ≠ b) : (a.toList == b.toList) = false := by
  refine beq_eq_false_iff_ne.2 fun e => h ?_
  rw [Lib.toList_data, Lib.toList_data] at e
  cases a; cases b
  simp only [ByteArray.mk.injEq]
  exact Array.toList_inj.1 e

set_option maxRecDepth 100000 in
set_option maxHeartbeats 4000000 in
theorem refDecode_440 (b0 : Option Addr) (n c L0 off0 : Nat) (bs : List Int) (w : World) (h : BtsAt w L0 off0 (.slice b0 n c) bs) (hl : bs.length = 440) :
    Calls Try.prog 15 #[.slice b0 n c] w (DecP bs w) := by
  have HBT := Lib.hid h
  have HLB := Lib.hid hl
  obtain rfl : n = 440 := h.len.1.trans hl
  have HRG := Lib.hid h.range
  have hne : bs ≠ [] := by intro e; rw [e] at hl; cases hl
  have hLl := h.lt hne
  obtain ⟨ad, had⟩ : ∃ ad, b0 = some ad := ⟨_, (h.cells (by omega)).1⟩
  subst had
  have hsf : ∀ (a : Addr) (n : Nat) (m : Mode) (w : World), (store a (.float .f64 n) m).run Try.prog w = stored Try.prog w a (.float .f64 n) m := fun a n m w => run_store Try.prog w a _ m rfl
  have hal : Below w.heap.size w (w.alloc (.cells #[.int .i64 0, .int .i64 0, .int .i64 0, .int .i64 0, .int .i64 0, .int .i64 0, .float .f64 0, .float .f64 0, .string ⟨#[]⟩, .slice none 0 0, .slice none 0 0] 31)) := (Below.refl _ _).alloc (Nat.le_refl _) _
  have HZ := Lib.hid (InoAt.new w 0 0 0 0 0 0 0 0 ⟨#[]⟩ none 0 0 none 0 0)
  have HB0 := Lib.hid hal
  have HLL := Lib.hid hLl
  clear h hl hne hLl
  go_enter Try.func15, Try.ntmps15
  go_upto_region 3 with fail
  generalize (w.alloc (.cells #[.int .i64 0, .int .i64 0, .int .i64 0, .int .i64 0, .int .i64 0, .int .i64 0, .float .f64 0, .float .f64 0, .string ⟨#[]⟩, .slice none 0 0, .slice none 0 0] 31)) = wa at hal HZ HB0 ⊢
  obtain ⟨Z, hZ⟩ : ∃ X, Hid (w.heap.size = X) := ⟨_, rfl⟩
  rw [hZ.out] at HZ HB0 HLL ⊢
  clear hal
  go_upto_region 4 with fail
  have hal : Below wa.heap.size wa (wa.alloc (.cells #[.slice (some ad) 440 c, .int .i64 0, .bool false] 78)) := (Below.refl _ _).alloc (Nat.le_refl _) _
  have HR0 : Hid (RR (wa.alloc (.cells #[.slice (some ad) 440 c, .int .i64 0, .bool false] 78)) wa.heap.size L0 off0 bs (sN bs 0)) := ⟨0, ⟨ad, 440, c, heap_alloc_new wa _, (HBT.out.below (show Below w.heap.size w wa by rw [hZ.out]; exact HB0.out)).below hal, Nat.zero_le _⟩, rfl⟩
  have HB1 := Lib.hid hal
  have hTl : wa.heap.size < (wa.alloc (.cells #[.slice (some ad) 440 c, .int .i64 0, .bool false] 78)).heap.size := by simp
  have HTL := Lib.hid hTl
  clear hal hTl
  generalize (wa.alloc (.cells #[.slice (some ad) 440 c, .int .i64 0, .bool false] 78)) = wc at HR0 HB1 HTL ⊢
  obtain ⟨T, hT⟩ : ∃ X, Hid (wa.heap.size = X) := ⟨_, rfl⟩
  rw [hT.out] at HR0 HB1 HTL ⊢
  have HCL : Hid (∀ (i : Nat) (w : World), i < 6 → RR w T L0 off0 bs (sN bs i) → wc.grownBy w (some T) → Calls Try.prog 40 #[.pointer (some ⟨T, 0, none⟩), .int .i64 (nb i)] w fun e w' => e = .returned (.int .i64 (hV bs i)) ∧ RR w' T L0 off0 bs (sN bs (i + 1)) ∧ wc.grownBy w' (some T)) := fun i w hi hr hg =>
    (rInt hr (by rw [HLB.out]; omega) (sN_bytes HRG.out i) (nb i) (nb_mid i).1 (by match i, hi with | 0, _ | 1, _ | 2, _ | 3, _ | 4, _ | 5, _ => decide)).mono fun e w' ⟨h1, h2, h3⟩ => ⟨h1, h2, grown_then hg h3⟩
  have HG0 : Hid (wc.grownBy wc (some T)) := ⟨rfl, rfl, rfl, Nat.le_refl _, fun _ _ _ => rfl⟩
  have HC0 : Hid (∀ (w : World), RR w T L0 off0 bs (sN bs 0) → wc.grownBy w (some T) → Calls Try.prog 40 #[.pointer (some ⟨T, 0, none⟩), .int .i64 1] w fun e w' => e = .returned (.int .i64 (hV bs 0)) ∧ RR w' T L0 off0 bs (sN bs 1) ∧ wc.grownBy w' (some T)) := fun w => HCL.out 0 w (by omega)
  have HC1 : Hid (∀ (w : World), RR w T L0 off0 bs (sN bs 1) → wc.grownBy w (some T) → Calls Try.prog 40 #[.pointer (some ⟨T, 0, none⟩), .int .i64 2] w fun e w' => e = .returned (.int .i64 (hV bs 1)) ∧ RR w' T L0 off0 bs (sN bs 2) ∧ wc.grownBy w' (some T)) := fun w => HCL.out 1 w (by omega)
  have HC2 : Hid (∀ (w : World), RR w T L0 off0 bs (sN bs 2) → wc.grownBy w (some T) → Calls Try.prog 40 #[.pointer (some ⟨T, 0, none⟩), .int .i64 2] w fun e w' => e = .returned (.int .i64 (hV bs 2)) ∧ RR w' T L0 off0 bs (sN bs 3) ∧ wc.grownBy w' (some T)) := fun w => HCL.out 2 w (by omega)
  have HC3 : Hid (∀ (w : World), RR w T L0 off0 bs (sN bs 3) → wc.grownBy w (some T) → Calls Try.prog 40 #[.pointer (some ⟨T, 0, none⟩), .int .i64 2] w fun e w' => e = .returned (.int .i64 (hV bs 3)) ∧ RR w' T L0 off0 bs (sN bs 4) ∧ wc.grownBy w' (some T)) := fun w => HCL.out 3 w (by omega)
  have HC4 : Hid (∀ (w : World), RR w T L0 off0 bs (sN bs 4) → wc.grownBy w (some T) → Calls Try.prog 40 #[.pointer (some ⟨T, 0, none⟩), .int .i64 1] w fun e w' => e = .returned (.int .i64 (hV bs 4)) ∧ RR w' T L0 off0 bs (sN bs 5) ∧ wc.grownBy w' (some T)) := fun w => HCL.out 4 w (by omega)
  have HC5 : Hid (∀ (w : World), RR w T L0 off0 bs (sN bs 5) → wc.grownBy w (some T) → Calls Try.prog 40 #[.pointer (some ⟨T, 0, none⟩), .int .i64 4] w fun e w' => e = .returned (.int .i64 (hV bs 5)) ∧ RR w' T L0 off0 bs (sN bs 6) ∧ wc.grownBy w' (some T)) := fun w => HCL.out 5 w (by omega)
  clear HCL
  go_upto_region 5 with (first
    | (go_at_call 40; ((with_reducible refine (HC0.out _ HR0.out HG0.out).mono ?_); rintro e w1 ⟨rfl, h2, h3⟩); have HA1 := Lib.hid h2; have HG1 := Lib.hid h3; clear h2 h3)
    | (go_at_call 40; ((with_reducible refine (HC1.out _ HA1.out HG1.out).mono ?_); rintro e w2 ⟨rfl, h2, h3⟩); have HA2 := Lib.hid h2; have HG2 := Lib.hid h3; clear h2 h3)
    | (go_at_call 40; ((with_reducible refine (HC2.out _ HA2.out HG2.out).mono ?_); rintro e w3 ⟨rfl, h2, h3⟩); have HA3 := Lib.hid h2; have HG3 := Lib.hid h3; clear h2 h3)
    | (go_at_call 40; ((with_reducible refine (HC3.out _ HA3.out HG3.out).mono ?_); rintro e w4 ⟨rfl, h2, h3⟩); have HA4 := Lib.hid h2; have HG4 := Lib.hid h3; clear h2 h3)
    | (go_at_call 40; ((with_reducible refine (HC4.out _ HA4.out HG4.out).mono ?_); rintro e w5 ⟨rfl, h2, h3⟩); have HA5 := Lib.hid h2; have HG5 := Lib.hid h3; clear h2 h3)
    | (go_at_call 40; ((with_reducible refine (HC5.out _ HA5.out HG5.out).mono ?_); rintro e w6 ⟨rfl, h2, h3⟩); have HA6 := Lib.hid h2; have HG6 := Lib.hid h3; clear h2 h3))
  have hal : Below w6.heap.size w6 (w6.alloc (.cells #[.int .i64 (hV bs 0), .int .i64 (hV bs 1), .int .i64 (hV bs 2), .int .i64 (hV bs 3), .int .i64 (hV bs 4), .int .i64 (hV bs 5), .float .f64 0, .float .f64 0, .string ⟨#[]⟩, .slice none 0 0, .slice none 0 0] 31)) := (Below.refl _ _).alloc (Nat.le_refl _) _
  have HX0 := Lib.hid (InoAt.new w6 (hV bs 0) (hV bs 1) (hV bs 2) (hV bs 3) (hV bs 4) (hV bs 5) 0 0 ⟨#[]⟩ none 0 0 none 0 0)
  have hb6 : Below T wa w6 := (show Below T wa wc from HB1.out).grown HG6.out (by have := HTL.out; omega) (fun k hk => by simp only [Option.some.injEq] at hk; omega)
  have hsz6 : T < w6.heap.size := Nat.lt_of_lt_of_le HTL.out HG6.out.size
  have hZlt := lt_of_block HZ.out
  have hZT : Z < T := by have := hT.out; omega
  have hb7 : Below T wa (w6.alloc (.cells #[.int .i64 (hV bs 0), .int .i64 (hV bs 1), .int .i64 (hV bs 2), .int .i64 (hV bs 3), .int .i64 (hV bs 4), .int .i64 (hV bs 5), .float .f64 0, .float .f64 0, .string ⟨#[]⟩, .slice none 0 0, .slice none 0 0] 31)) := hb6.trans (hal.mono (by omega))
  have HBW : Hid (Below Z w (w6.alloc (.cells #[.int .i64 (hV bs 0), .int .i64 (hV bs 1), .int .i64 (hV bs 2), .int .i64 (hV bs 3), .int .i64 (hV bs 4), .int .i64 (hV bs 5), .float .f64 0, .float .f64 0, .string ⟨#[]⟩, .slice none 0 0, .slice none 0 0] 31))) := HB0.out.trans (hb7.mono (by omega))
  have HRB : Hid (RR (w6.alloc (.cells #[.int .i64 (hV bs 0), .int .i64 (hV bs 1), .int .i64 (hV bs 2), .int .i64 (hV bs 3), .int .i64 (hV bs 4), .int .i64 (hV bs 5), .float .f64 0, .float .f64 0, .string ⟨#[]⟩, .slice none 0 0, .slice none 0 0] 31)) T L0 off0 bs (sN bs 6)) := HA6.out.grown (row_grown hal none) (by simp) (fun _ => by simp)
  have HZB : Hid (InoAt (w6.alloc (.cells #[.int .i64 (hV bs 0), .int .i64 (hV bs 1), .int .i64 (hV bs 2), .int .i64 (hV bs 3), .int .i64 (hV bs 4), .int .i64 (hV bs 5), .float .f64 0, .float .f64 0, .string ⟨#[]⟩, .slice none 0 0, .slice none 0 0] 31)) Z 0 0 0 0 0 0 0 0 ⟨#[]⟩ none 0 0 none 0 0) := (hb7.block Z hZT).trans HZ.out
  have HNUM : Hid (Z < T ∧ L0 < Z ∧ T < w6.heap.size ∧ w6.heap.size < (w6.alloc (.cells #[.int .i64 (hV bs 0), .int .i64 (hV bs 1), .int .i64 (hV bs 2), .int .i64 (hV bs 3), .int .i64 (hV bs 4), .int .i64 (hV bs 5), .float .f64 0, .float .f64 0, .string ⟨#[]⟩, .slice none 0 0, .slice none 0 0] 31)).heap.size) := ⟨hZT, HLL.out, hsz6, lt_of_block HX0.out⟩
  clear hal hb6 hb7 hsz6 hZlt hZT HA1 HA2 HA3 HA4 HA5 HA6 HG0 HG1 HG2 HG3 HG4 HG5 HG6 HC0 HC1 HC2 HC3 HC4 HC5 HR0 HB1 HTL HZ HB0
  generalize (w6.alloc (.cells #[.int .i64 (hV bs 0), .int .i64 (hV bs 1), .int .i64 (hV bs 2), .int .i64 (hV bs 3), .int .i64 (hV bs 4), .int .i64 (hV bs 5), .float .f64 0, .float .f64 0, .string ⟨#[]⟩, .slice none 0 0, .slice none 0 0] 31)) = wB at HX0 HBW HRB HZB HNUM ⊢
  obtain ⟨X, hX⟩ : ∃ X, Hid (w6.heap.size = X) := ⟨_, rfl⟩
  rw [hX.out] at HX0 HNUM ⊢
  have HD0 : Hid (Dr wB wB T X L0 off0 bs (sT false bs 0) (hV bs 0) (hV bs 1) (hV bs 2) (hV bs 3) (hV bs 4) (hV bs 5) (tmR bs 0 0) (tmR bs 0 1) ⟨#[]⟩ none 0 0 none 0 0) := ⟨rfl, rfl, rfl, Nat.le_refl _, fun _ _ _ _ => rfl, HRB.out, HX0.out⟩
  clear HRB HX0
  obtain ⟨h0, hh0⟩ : ∃ x, Hid (hV bs 0 = x) := ⟨_, rfl⟩
  obtain ⟨h1, hh1⟩ : ∃ x, Hid (hV bs 1 = x) := ⟨_, rfl⟩
  obtain ⟨h2, hh2⟩ : ∃ x, Hid (hV bs 2 = x) := ⟨_, rfl⟩
  obtain ⟨h3, hh3⟩ : ∃ x, Hid (hV bs 3 = x) := ⟨_, rfl⟩
  obtain ⟨h4, hh4⟩ : ∃ x, Hid (hV bs 4 = x) := ⟨_, rfl⟩
  obtain ⟨h5, hh5⟩ : ∃ x, Hid (hV bs 5 = x) := ⟨_, rfl⟩
  rw [hh0.out, hh1.out, hh2.out, hh3.out, hh4.out, hh5.out] at HD0
  simp only [hh0.out, hh1.out, hh2.out, hh3.out, hh4.out, hh5.out]
  obtain ⟨n1, n2, n3, n4⟩ := HNUM.out
  have HSR : Hid (Sr wB T X L0 bs) := ⟨by omega, n4, by omega, by omega, by omega, by rw [HLB.out]; omega⟩
  have HTs : Hid (T < wB.heap.size) := by show _ < _; omega
  have HXs : Hid (X < wB.heap.size) := n4
  have HN1 : Hid (Z < T) := n1
  have HN2 : Hid (Z < X) := by show _ < _; omega
  have HN3 : Hid (Z < wB.heap.size) := by show _ < _; omega
  have HZK : Hid (∀ (w : World), (∀ j, j < wB.heap.size → j ≠ T → j ≠ X → w.heap[j]? = wB.heap[j]?) → w.heap[Z]? = some (.cells #[.int .i64 0, .int .i64 0, .int .i64 0, .int .i64 0, .int .i64 0, .int .i64 0, .float .f64 0, .float .f64 0, .string ⟨#[]⟩, .slice none 0 0, .slice none 0 0] 31 (0, 0))) := fun w hk => (hk Z (by omega) (by omega) (by omega)).trans HZB.out
  have HSI := Lib.hid infoIno
  have HZ1 : Hid (Array.all (#[.int .i64 0, .int .i64 0, .int .i64 0, .int .i64 0, .int .i64 0, .int .i64 0, .float .f64 0, .float .f64 0, .string ⟨#[]⟩, .slice none 0 0, .slice none 0 0] : Array Value) (·.oneCell') = true) := by show _ = _; rw [← Array.all_toList]; rfl
  clear n1 n2 n3 n4
  have hff := run_frombits
  go_wp2_with fail
  go_loopw [6] (fun iv wr => ∃ j : Nat, j ≤ 2 ∧ iv = .int .i64 j ∧ Hid (Dr wB wr T X L0 off0 bs (sT false bs j) h0 h1 h2 h3 h4 h5 (tmR bs j 0) (tmR bs j 1) ⟨#[]⟩ none 0 0 none 0 0)) (fun iv _ => 2 - (intOf iv).toNat)
  case atStart => exact ⟨0, by omega, rfl, HD0.out⟩
  case round =>
    obtain ⟨j, hj, rfl, hd⟩ := hrel
    by_cases hlt : j < 2
    · have hby := sT_bytes (b := false) HRG.out j
      have hnb := num_bd (n := 8) (by decide) (by decide) hby
      have HTV : Hid (tV false bs j = (nS (sT false bs j) 8).toNat) := rfl
      have HSN : Hid (nT (sT false bs j) 8 = sT false bs (j + 1)) := (tT_ref _).symm
      obtain ⟨q, hq⟩ : ∃ q : Nat, nS (sT false bs j) 8 = q := Int.eq_ofNat_of_zero_le hnb.1
      have HNM := Lib.hid (num_dr hd.out HSR.out)
      rw [hq, HSN.out] at HNM
      rw [hq, Int.toNat_natCast] at HTV
      clear hq hby hnb HSN
      go_wp2_with (go_at_call 42; refine HNM.out.mono ?_; rintro e w7 ⟨rfl, _, hd7⟩; obtain ⟨⟨v6, e6⟩, f6, hi8⟩ := time_ref hd7.ino hlt; rw [HTV.out] at hi8; have HD8 := Lib.hid (hd7.toX HSR.out hi8 (grownBy_set _ X (6 + j) _)); clear hd7 hi8)
      go_roundw
      case rel => exact ⟨j + 1, by omega, by go_num, HD8⟩
      case measure => simp [intOf]; omega
    · obtain rfl : j = 2 := by omega
      have e0 : tmR bs 2 0 = tV false bs 0 := by simp [tmR]
      have e1 : tmR bs 2 1 = tV false bs 1 := by simp [tmR]
      have hd2 := hd.out
      rw [e0, e1] at hd2
      obtain ⟨v0, hv0⟩ : ∃ x, Hid (tV false bs 0 = x) := ⟨_, rfl⟩
      obtain ⟨v1, hv1⟩ : ∃ x, Hid (tV false bs 1 = x) := ⟨_, rfl⟩
      rw [hv0.out, hv1.out] at hd2
      have HTX := Lib.hid (text_dr hd2 HSR.out 65 (by decide) (by decide))
      have HLN : Hid (xS (sT false bs 2) 65 = lV false bs) := rfl
      have HSL : Hid (xT (sT false bs 2) 65 = sL false bs) := rfl
      rw [HLN.out, HSL.out] at HTX
      obtain ⟨ln, hln⟩ : ∃ x, Hid (lV false bs = x) := ⟨_, rfl⟩
      rw [hln.out] at HTX
      clear e0 e1 hd2 hd hlt hj HD0 HLN HSL
      go_upto_region 10 with (go_at_call 43; refine HTX.out.mono ?_; rintro e w7 ⟨rfl, _, hd7⟩; have HD7 := Lib.hid hd7; clear hd7; have f8 : w7.frozen? ⟨X, 8, none⟩ = false := frozen_of_row w7 X 8 _ _ HD7.out.ino; have k8 := HD7.out.ino.cells.2.2.2.2.2.2.2.2.1)
      have HD8 := Lib.hid (HD7.out.toX HSR.out (heap_setCell_same w7 X 8 _ _ (.string ln) HD7.out.ino) (grownBy_set w7 X 8 _))
      clear HTX f8 k8
      generalize (w7.setCell ⟨X, 8, none⟩ (.string ln)) = w8 at HD8 ⊢
      have hbL := xT_bytes (n := 65) (sT_bytes (b := false) HRG.out 2)
      have hbX := num_bd (n := 1) (by decide) (by decide) hbL
      obtain ⟨cx, hcx⟩ : ∃ c : Nat, cX false bs = c := Int.eq_ofNat_of_zero_le hbX.1
      have hcx8 : cx < 256 := by have := hbX.2; have h2 : nS (xT (sT false bs 2) 65) 1 = cx := hcx; omega
      have HCLO := Lib.hid (int_dr HD8.out HSR.out hbL 1 (by decide) (by decide))
      have HCX : Hid (nS (sL false bs) 1 = cx) := hcx
      have HSX : Hid (nT (sL false bs) 1 = sX false bs 0) := rfl
      rw [HCX.out, HSX.out] at HCLO
      have HNX : Hid (nX false bs = cx) := by show (cX false bs).toNat = _; rw [hcx, Int.toNat_natCast]
      have HCXB := Lib.hid hcx
      clear hbL hbX hcx HCX HSX
      by_cases h4' : 4 < cx
      · have HNO : Hid (∀ D, rightD D = true → D.wide → D.bytes → payD D ≠ bs) := ref_none (fun h => by rw [HCXB.out] at h; omega)
        go_upto_region 12 with (go_at_call 40; refine HCLO.out.mono ?_; rintro e w9 ⟨rfl, _, hd9⟩; have HDE := Lib.hid hd9; clear hd9)
        have HZH := Lib.hid (HZK.out w9 HDE.out.keep)
        go_wp2_with ((refine wpList_store_row rfl 31 (.tmp 2) (.tmp 48) rfl Z #[.int .i64 0, .int .i64 0, .int .i64 0, .int .i64 0, .int .i64 0, .int .i64 0, .float .f64 0, .float .f64 0, .string ⟨#[]⟩, .slice none 0 0, .slice none 0 0] rfl rfl 31 _ HZH.out HSI.out rfl HZ1.out ?_))
        exact bodyPost_ret (v := .tuple #[.agg #[.int .i64 0, .int .i64 0, .int .i64 0, .int .i64 0, .int .i64 0, .int .i64 0, .float .f64 0, .float .f64 0, .string ⟨#[]⟩, .slice none 0 0, .slice none 0 0], .int .i64 12]) (results_row_tmp rfl _ _ Z 31 #[.int .i64 0, .int .i64 0, .int .i64 0, .int .i64 0, .int .i64 0, .int .i64 0, .float .f64 0, .float .f64 0, .string ⟨#[]⟩, .slice none 0 0, .slice none 0 0] (0, 0) _ rfl (setRow_heap w9 Z _ _ _ _ HZH.out) Try.underlying31 rfl HSI.out (.int .i64 12) rfl) rfl (ref_bad HDE.out HBW.out hZ.out HN1.out HN2.out HN3.out HNO.out _)
      · have hnx4 : cx ≤ 4 := by omega
        have HNX4 := Lib.hid hnx4
        clear hcx8
        go_upto_region 13 with (go_at_call 40; refine HCLO.out.mono ?_; rintro e w9 ⟨rfl, _, hd9⟩; have HD9 := Lib.hid hd9; clear hd9)
        clear HCLO HD8 h4'
        obtain ⟨nx, hnx⟩ : ∃ n, cx = n := ⟨_, rfl⟩
        subst hnx
        go_wp2_with fail
        go_loopw [8] (fun iv wr => ∃ i : Nat, ∃ xa xc VA VC, i ≤ cx ∧ iv = .int .i64 i ∧ Hid (Dr wB wr T X L0 off0 bs (sX false bs i) h0 h1 h2 h3 h4 h5 v0 v1 ln xa i xc none 0 0) ∧ Hid (XaRow wB.heap.size wr (.slice xa i xc) i (xNm false bs) VA VC (fun i => strB (xVl false bs i)))) (fun iv _ => cx - (intOf iv).toNat)
        case atStart => exact ⟨0, none, 0, fun _ => none, fun _ => 0, Nat.zero_le _, rfl, HD9.out, XaRow.nil _ _ _ _ _ _⟩
        case round =>
          obtain ⟨i, xa, xc, VA, VC, hi, rfl, hd, hxr⟩ := hrel
          by_cases hlt : i < cx
          · have HNM : Hid (xS (sX false bs i) 13 = xNm false bs i) := rfl
            have HVL : Hid (xS (xT (sX false bs i) 13) 41 = xVl false bs i) := rfl
            have HSX : Hid (xT (xT (sX false bs i) 13) 41 = sX false bs (i + 1)) := rfl
            have HTX := Lib.hid (text_dr hd.out HSR.out 13 (by decide) (by decide))
            rw [HNM.out] at HTX
            have hvsz : (xVl false bs i).size ≤ maxLen := by
              have h41 : (xS (xT (sX false bs i) 13) 41).size ≤ 41 := x_size (by decide)
              rw [HVL.out] at h41; unfold maxLen; omega
            obtain ⟨nm, hnm⟩ : ∃ x, Hid (xNm false bs i = x) := ⟨_, rfl⟩
            obtain ⟨vs, hvs⟩ : ∃ x, Hid (xVl false bs i = x) := ⟨_, rfl⟩
            rw [hnm.out] at HTX
            rw [hvs.out] at HVL hvsz
            have HVSZ := Lib.hid hvsz
            clear hvsz
            go_upto_region 17 with (go_at_call 43; refine HTX.out.mono ?_; rintro e w10 ⟨rfl, hg10, hd10⟩; have HD10 := Lib.hid hd10; have HG10 := Lib.hid hg10; clear hd10 hg10)
            clear HTX
            have hal : Below w10.heap.size w10 (w10.alloc (.cells #[.string nm, .slice none 0 0] 60)) := (Below.refl _ _).alloc (Nat.le_refl _) _
            have HQ : Hid ((w10.alloc (.cells #[.string nm, .slice none 0 0] 60)).heap[w10.heap.size]? = some (.cells #[.string nm, .slice none 0 0] 60 (0, 0))) := heap_alloc_new w10 _
            have HD11 := Lib.hid (HD10.out.below HSR.out hal)
            have HG11 : Hid (w10.grownBy (w10.alloc (.cells #[.string nm, .slice none 0 0] 60)) (some T)) := row_grown hal _
            have HXR10 := Lib.hid (hxr.out.aside HG10.out (aside_low _ _ _ HTs.out))
            have HB10 := Lib.hid HD10.out.size
            clear hal
            generalize (w10.alloc (.cells #[.string nm, .slice none 0 0] 60)) = w11 at HQ HD11 HG11 ⊢
            obtain ⟨Q, hQ⟩ : ∃ X, Hid (w10.heap.size = X) := ⟨_, rfl⟩
            rw [hQ.out] at HQ HB10 ⊢
            have HTX := Lib.hid (text_dr HD11.out HSR.out 41 (by decide) (by decide))
            rw [HVL.out, HSX.out] at HTX
            go_upto_region 18 with (go_at_call 43; refine HTX.out.mono ?_; rintro e w12 ⟨rfl, hg12, hd12⟩; obtain ⟨w13, cc, hcv, hb13, hu13, hbt13⟩ := run_bytes_u8 w12 vs HVSZ.out; have HD12 := Lib.hid hd12; have HG12 := Lib.hid hg12; have HB13 := Lib.hid hb13; have HU13 := Lib.hid hu13; have HBT13 := Lib.hid hbt13; have HQ12 : Hid (w13.heap[Q]? = some (.cells #[.string nm, .slice none 0 0] 60 (0, 0))) := (hb13.block Q (Nat.lt_of_lt_of_le (lt_of_block HQ.out) hg12.size)).trans ((hg12.block Q (lt_of_block HQ.out) (fun e => by have := HTs.out; have := HB10.out; simp at e; omega)).trans HQ.out); have q1 : w13.cell? ⟨Q, 1, none⟩ = some (.slice none 0 0) := cell_of_row w13 Q 1 _ _ (0, 0) HQ12.out; have qf : w13.frozen? ⟨Q, 1, none⟩ = false := frozen_of_row w13 Q 1 _ _ HQ12.out; clear hd12 hg12 hb13 hu13 hbt13)
            have hVLs : w10.heap.size ≤ w12.heap.size := Nat.le_trans HG11.out.size HG12.out.size
            have HWB : Hid (wB.heap.size ≤ w12.heap.size) := by have := HB10.out; have := hQ.out; show _ ≤ _; omega
            have hQlt : Q < w12.heap.size := Nat.lt_of_lt_of_le (lt_of_block HQ.out) HG12.out.size
            have HG14 : Hid (w10.grownBy (w13.setCell ⟨Q, 1, none⟩ (.slice (some ⟨w12.heap.size, 0, none⟩) (strB vs).length cc)) (some T)) := grown_set (grown_then (grown_then HG11.out HG12.out) (row_grown HB13.out _)) (by have := hQ.out; omega) _
            have HQ14 : Hid ((w13.setCell ⟨Q, 1, none⟩ (.slice (some ⟨w12.heap.size, 0, none⟩) (strB vs).length cc)).heap[Q]? = some (.cells #[.string nm, .slice (some ⟨w12.heap.size, 0, none⟩) (strB vs).length cc] 60 (0, 0))) := heap_setCell_same w13 Q 1 _ _ _ HQ12.out
            have HD14 := Lib.hid ((HD12.out.below HSR.out HB13.out).grow HSR.out (grownBy_set w13 Q 1 (.slice (some ⟨w12.heap.size, 0, none⟩) (strB vs).length cc)) (fun j hj => by simp only [Option.some.injEq] at hj; have := HB10.out; omega))
            have HBT14 := Lib.hid (HBT13.out.grown (grownBy_set w13 Q 1 (.slice (some ⟨w12.heap.size, 0, none⟩) (strB vs).length cc)) (fun _ e => by simp only [Option.some.injEq] at e; omega))
            have HU14 : Hid (U8At (w13.setCell ⟨Q, 1, none⟩ (.slice (some ⟨w12.heap.size, 0, none⟩) (strB vs).length cc)) w12.heap.size) := by
              obtain ⟨cs, fr, hu⟩ := HU13.out
              exact ⟨cs, fr, (Below.heap_setCell _ _ _ _ (show w12.heap.size ≠ Q by omega)).trans hu⟩
            have HXR14 := Lib.hid (HXR10.out.aside HG14.out (aside_low _ _ _ HTs.out))
            clear hVLs hQlt q1 qf hcv HQ HQ12 HD11 HD12 HB13 HU13 HBT13 HG11 HG12 HXR10 HD10 HG10 HTX
            obtain ⟨VL, hVL⟩ : ∃ x, Hid (w12.heap.size = x) := ⟨_, rfl⟩
            have HVLB : Hid (wB.heap.size ≤ VL) := by have := hVL.out; have := HWB.out; show _ ≤ _; omega
            rw [hVL.out] at HG14 HQ14 HD14 HBT14 HU14 HXR14 ⊢
            generalize (w13.setCell ⟨Q, 1, none⟩ (.slice (some ⟨VL, 0, none⟩) (strB vs).length cc)) = w14 at HG14 HQ14 HD14 HBT14 HU14 HXR14 ⊢
            have hal : Below w14.heap.size w14 (w14.alloc (.cells #[.string nm, .slice (some ⟨VL, 0, none⟩) (strB vs).length cc] 60)) := (Below.refl _ _).alloc (Nat.le_refl _) _
            have hu15 : U8At (w14.alloc (.cells #[.string nm, .slice (some ⟨VL, 0, none⟩) (strB vs).length cc] 60)) VL := (u8_aside (B := 0) (t1 := 9) HU14.out (Nat.zero_le _) (row_grown hal none) (aside_none _ _ _ _)).1
            obtain ⟨a16, c16, w16, hrun, hx16, hg16⟩ := (HXR14.out.below hal).push (Nat.le_trans HD14.out.size hal.size) nm (some ⟨VL, 0, none⟩) cc (strB vs) VL w14.heap.size HVLB.out hu15 (HBT14.out.below hal) (heap_alloc_new w14 _) hnm.out (by show strB (xVl false bs i) = _; rw [hvs.out]) (by omega)
            have HRUN := Lib.hid hrun
            have hd16 := (HD14.out.below HSR.out hal).grow HSR.out hg16 (fun j hj => ((HXR14.out.below hal).row.lt j hj).1)
            have f9 : w16.frozen? ⟨X, 9, none⟩ = false := frozen_of_row w16 X 9 _ _ hd16.ino
            have k9 := hd16.ino.cells.2.2.2.2.2.2.2.2.2.1
            have HD17 := Lib.hid (hd16.toX HSR.out (heap_setCell_same w16 X 9 _ _ (.slice a16 (i + 1) c16) hd16.ino) (grownBy_set w16 X 9 _))
            have HXR17 := Lib.hid (hx16.aside (grownBy_set w16 X 9 (.slice a16 (i + 1) c16)) (aside_low _ _ _ HXs.out))
            have e9 := HD14.out.ino.cells.2.2.2.2.2.2.2.2.2.1
            have q0 : w14.cell? ⟨Q, 0, none⟩ = some (.string nm) := cell_of_row w14 Q 0 _ _ (0, 0) HQ14.out
            have q1 : w14.cell? ⟨Q, 1, none⟩ = some (.slice (some ⟨VL, 0, none⟩) (strB vs).length cc) := cell_of_row w14 Q 1 _ _ (0, 0) HQ14.out
            clear hal hu15 hrun hx16 hg16 hd16 HG14 HQ14 HD14 HBT14 HU14 HXR14
            go_wp2_with (at_builtin; refine wpList_append_run _ rfl _ _ _ _ rfl _ _ rfl rfl HRUN.out ?_)
            go_roundw
            case rel => exact ⟨i + 1, a16, c16, _, _, by omega, by go_num, HD17, HXR17⟩
            case measure => simp [intOf]; omega
          · have e : i = cx := by omega
            rw [e] at hd hxr ⊢
            clear e hlt
            have HD9 := Lib.hid hd.out
            have HXR := Lib.hid hxr.out
            clear hd hxr
            have hbX' := sX_bytes (b := false) HRG.out cx
            have hbE := num_bd (n := 1) (by decide) (by decide) hbX'
            have HCEE : Hid (cE false bs = nS (sX false bs cx) 1) := by show nS (sX false bs (nX false bs)) 1 = _; rw [HNX.out]
            have HSE : Hid (nT (sX false bs cx) 1 = sE false bs 0) := by show _ = nT (sX false bs (nX false bs)) 1; rw [HNX.out]
            obtain ⟨ce, hce⟩ : ∃ c : Nat, nS (sX false bs cx) 1 = c := Int.eq_ofNat_of_zero_le hbE.1
            have hce8 : ce < 256 := by have := hbE.2; omega
            have HCLO := Lib.hid (int_dr HD9.out HSR.out hbX' 1 (by decide) (by decide))
            rw [hce, HSE.out] at HCLO
            have HNE : Hid (nE false bs = ce) := by show (cE false bs).toNat = _; rw [HCEE.out, hce, Int.toNat_natCast]
            have HCEB : Hid (cE false bs = ce) := by show _ = _; rw [HCEE.out, hce]
            clear hbX' hbE hce HCEE
            obtain ⟨sp0, hsp0⟩ : ∃ x, Hid ((sE false bs 0).sp = x) := ⟨_, rfl⟩
            go_upto_region 20 with (go_at_call 40; refine HCLO.out.mono ?_; rintro e w10 ⟨rfl, hg10, hd10⟩; have hbd := hd10.bad; rw [hsp0.out] at hbd; have HD10 := Lib.hid hd10; have HXR10 := Lib.hid (HXR.out.aside hg10 (aside_low _ _ _ HTs.out)); clear hd10 hg10)
            clear HCLO HD9 HXR
            by_cases h40 : 40 < ce
            · have HNO : Hid (∀ D, rightD D = true → D.wide → D.bytes → payD D ≠ bs) := ref_none (fun _ h => by rw [HCEB.out] at h; omega)
              have HDE := HD10
              go_upto_region 21 with fail
              have HZH := Lib.hid (HZK.out w10 HDE.out.keep)
              go_wp2_with ((refine wpList_store_row rfl 31 (.tmp 2) (.tmp 77) rfl Z #[.int .i64 0, .int .i64 0, .int .i64 0, .int .i64 0, .int .i64 0, .int .i64 0, .float .f64 0, .float .f64 0, .string ⟨#[]⟩, .slice none 0 0, .slice none 0 0] rfl rfl 31 _ HZH.out HSI.out rfl HZ1.out ?_))
              exact bodyPost_ret (v := .tuple #[.agg #[.int .i64 0, .int .i64 0, .int .i64 0, .int .i64 0, .int .i64 0, .int .i64 0, .float .f64 0, .float .f64 0, .string ⟨#[]⟩, .slice none 0 0, .slice none 0 0], .int .i64 12]) (results_row_tmp rfl _ _ Z 31 #[.int .i64 0, .int .i64 0, .int .i64 0, .int .i64 0, .int .i64 0, .int .i64 0, .float .f64 0, .float .f64 0, .string ⟨#[]⟩, .slice none 0 0, .slice none 0 0] (0, 0) _ rfl (setRow_heap w10 Z _ _ _ _ HZH.out) Try.underlying31 rfl HSI.out (.int .i64 12) rfl) rfl (ref_bad HDE.out HBW.out hZ.out HN1.out HN2.out HN3.out HNO.out _)
            · cases sp0 with
              | true =>
                have HNO : Hid (∀ D, rightD D = true → D.wide → D.bytes → payD D ≠ bs) := ref_none (fun _ _ h => by rw [hsp0.out] at h; cases h)
                have HDE := HD10
                go_upto_region 21 with fail
                have HZH := Lib.hid (HZK.out w10 HDE.out.keep)
                go_wp2_with ((refine wpList_store_row rfl 31 (.tmp 2) (.tmp 77) rfl Z #[.int .i64 0, .int .i64 0, .int .i64 0, .int .i64 0, .int .i64 0, .int .i64 0, .float .f64 0, .float .f64 0, .string ⟨#[]⟩, .slice none 0 0, .slice none 0 0] rfl rfl 31 _ HZH.out HSI.out rfl HZ1.out ?_))
                exact bodyPost_ret (v := .tuple #[.agg #[.int .i64 0, .int .i64 0, .int .i64 0, .int .i64 0, .int .i64 0, .int .i64 0, .float .f64 0, .float .f64 0, .string ⟨#[]⟩, .slice none 0 0, .slice none 0 0], .int .i64 12]) (results_row_tmp rfl _ _ Z 31 #[.int .i64 0, .int .i64 0, .int .i64 0, .int .i64 0, .int .i64 0, .int .i64 0, .float .f64 0, .float .f64 0, .string ⟨#[]⟩, .slice none 0 0, .slice none 0 0] (0, 0) _ rfl (setRow_heap w10 Z _ _ _ _ HZH.out) Try.underlying31 rfl HSI.out (.int .i64 12) rfl) rfl (ref_bad HDE.out HBW.out hZ.out HN1.out HN2.out HN3.out HNO.out _)
              | false =>
                have hne41 : ce ≤ 40 := by omega
                have HCE40 := Lib.hid hne41
                clear hce8
                go_upto_region 22 with fail
                clear hbd h40
                go_wp2_with fail
                go_loopw [10] (fun iv wr => ∃ i : Nat, ∃ ea ec, i ≤ ce ∧ iv = .int .i64 i ∧ Hid (Dr wB wr T X L0 off0 bs (sE false bs i) h0 h1 h2 h3 h4 h5 v0 v1 ln xa cx xc ea i ec) ∧ Hid (XaRow wB.heap.size wr (.slice xa cx xc) cx (xNm false bs) VA VC (fun i => strB (xVl false bs i))) ∧ Hid (ExRow wB.heap.size wr (.slice ea i ec) i (qF false bs) (qH false bs) (qN false bs))) (fun iv _ => ce - (intOf iv).toNat)
                case atStart => exact ⟨0, none, 0, Nat.zero_le _, rfl, HD10.out, HXR10.out, ExRow.nil _ _ _ _ _⟩
                case round =>
                  obtain ⟨i, ea, ec, hi, rfl, hd, hxr, her⟩ := hrel
                  by_cases hlt : i < ce
                  · have e0 : Hid (nS (sE false bs i) 1 = qF false bs i) := rfl
                    have e1 : Hid (nS (nT (sE false bs i) 1) 1 = qH false bs i) := rfl
                    have e2 : Hid (nS (nT (nT (sE false bs i) 1) 1) 1 = qN false bs i) := rfl
                    have e3 : Hid (nT (nT (nT (sE false bs i) 1) 1) 1 = sE false bs (i + 1)) := rfl
                    have b0' := sE_bytes (b := false) HRG.out i
                    obtain ⟨f, hf⟩ : ∃ x, Hid (qF false bs i = x) := ⟨_, rfl⟩
                    obtain ⟨hh, hhh⟩ : ∃ x, Hid (qH false bs i = x) := ⟨_, rfl⟩
                    obtain ⟨nn, hnn⟩ : ∃ x, Hid (qN false bs i = x) := ⟨_, rfl⟩
                    have HE1 : Hid (∀ (w : World), Dr wB w T X L0 off0 bs (sE false bs i) h0 h1 h2 h3 h4 h5 v0 v1 ln xa cx xc ea i ec → Calls Try.prog 40 #[.pointer (some ⟨T, 0, none⟩), .int .i64 1] w fun e w' => e = .returned (.int .i64 f) ∧ w.grownBy w' (some T) ∧ Dr wB w' T X L0 off0 bs (nT (sE false bs i) 1) h0 h1 h2 h3 h4 h5 v0 v1 ln xa cx xc ea i ec) := fun w h => by
                      have := int_dr h HSR.out b0' 1 (by decide) (by decide)
                      rw [e0.out, hf.out] at this
                      exact this
                    have HE2 : Hid (∀ (w : World), Dr wB w T X L0 off0 bs (nT (sE false bs i) 1) h0 h1 h2 h3 h4 h5 v0 v1 ln xa cx xc ea i ec → Calls Try.prog 40 #[.pointer (some ⟨T, 0, none⟩), .int .i64 1] w fun e w' => e = .returned (.int .i64 hh) ∧ w.grownBy w' (some T) ∧ Dr wB w' T X L0 off0 bs (nT (nT (sE false bs i) 1) 1) h0 h1 h2 h3 h4 h5 v0 v1 ln xa cx xc ea i ec) := fun w h => by
                      have := int_dr h HSR.out (nT_bytes b0') 1 (by decide) (by decide)
                      rw [e1.out, hhh.out] at this
                      exact this
                    have HE3 : Hid (∀ (w : World), Dr wB w T X L0 off0 bs (nT (nT (sE false bs i) 1) 1) h0 h1 h2 h3 h4 h5 v0 v1 ln xa cx xc ea i ec → Calls Try.prog 40 #[.pointer (some ⟨T, 0, none⟩), .int .i64 1] w fun e w' => e = .returned (.int .i64 nn) ∧ w.grownBy w' (some T) ∧ Dr wB w' T X L0 off0 bs (sE false bs (i + 1)) h0 h1 h2 h3 h4 h5 v0 v1 ln xa cx xc ea i ec) := fun w h => by
                      have := int_dr h HSR.out (nT_bytes (nT_bytes b0')) 1 (by decide) (by decide)
                      rw [e2.out, hnn.out, e3.out] at this
                      exact this
                    clear b0'
                    have HD0 := Lib.hid hd.out.drew
                    have k10 := hd.out.ino.cells.2.2.2.2.2.2.2.2.2.2
                    have gd : wr.grownBy wr.drew none := ⟨rfl, rfl, rfl, Nat.le_refl _, fun _ _ _ => rfl⟩
                    have HX0 := Lib.hid (hxr.out.aside gd (aside_none _ _ _ _))
                    have HR0' := Lib.hid (her.out.aside (t2 := 5) gd (aside_none _ _ _ _))
                    clear gd
                    go_upto_block 5 with fail
                    go_cut [] (fun wx => ∃ (ea : Option Addr) (ec : Nat), Hid (Dr wB wx T X L0 off0 bs (sE false bs (i + 1)) h0 h1 h2 h3 h4 h5 v0 v1 ln xa cx xc ea (i + 1) ec) ∧ Hid (XaRow wB.heap.size wx (.slice xa cx xc) cx (xNm false bs) VA VC (fun i => strB (xVl false bs i))) ∧ Hid (ExRow wB.heap.size wx (.slice ea (i + 1) ec) (i + 1) (qF false bs) (qH false bs) (qN false bs)))
                    case first =>
                      go_upto_region 25 with fail
                      clear hd hxr her
                      go_region_law (first
                        | (go_simp; go_at_call 40; ((with_reducible refine (HE1.out _ HD0.out).mono ?_); rintro e w11 ⟨rfl, hg, hd⟩); have HD11 := Lib.hid hd; have HX11 := Lib.hid (HX0.out.aside hg (aside_low _ _ _ HTs.out)); have HR11 := Lib.hid (HR0'.out.aside (t2 := 5) hg (aside_low _ _ _ HTs.out)); have k11 := hd.ino.cells.2.2.2.2.2.2.2.2.2.2; clear hg hd)
                        | (go_simp; go_at_call 40; ((with_reducible refine (HE2.out _ HD11.out).mono ?_); rintro e w12 ⟨rfl, hg, hd⟩); have HD12 := Lib.hid hd; have HX12 := Lib.hid (HX11.out.aside hg (aside_low _ _ _ HTs.out)); have HR12 := Lib.hid (HR11.out.aside (t2 := 5) hg (aside_low _ _ _ HTs.out)); have k12 := hd.ino.cells.2.2.2.2.2.2.2.2.2.2; clear hg hd)
                        | (go_simp; go_at_call 40; ((with_reducible refine (HE3.out _ HD12.out).mono ?_); rintro e w13 ⟨rfl, hg, hd⟩); have k13 := hd.ino.cells.2.2.2.2.2.2.2.2.2.2; have hx13 := HX12.out.aside hg (aside_low _ _ _ HTs.out); have hr13 := HR12.out.aside (t2 := 5) hg (aside_low _ _ _ HTs.out); have hal : Below w13.heap.size w13 (w13.alloc (.cells #[.int .i64 f, .int .i64 hh, .int .i64 nn] 25)) := (Below.refl _ _).alloc (Nat.le_refl _) _; obtain ⟨a15, c15, w15, hrun, hr15, hg15⟩ := (hr13.below hal).push (Nat.le_trans hd.size hal.size) f hh nn w13.heap.size (heap_alloc_new w13 _) hf.out hhh.out hnn.out (by omega); have hd14 := hd.below HSR.out hal; have k14 := hd14.ino.cells.2.2.2.2.2.2.2.2.2.2; have hd15 := hd14.grow HSR.out hg15 (fun j hj => ((hr13.below hal).row.lt j hj).1); have f15 : w15.frozen? ⟨X, 10, none⟩ = false := frozen_of_row w15 X 10 _ _ hd15.ino; have k15 := hd15.ino.cells.2.2.2.2.2.2.2.2.2.2; have HD16 := Lib.hid (hd15.toX HSR.out (heap_setCell_same w15 X 10 _ _ (.slice a15 (i + 1) c15) hd15.ino) (grownBy_set w15 X 10 _)); have HX16 := Lib.hid (((hx13.below hal).aside hg15 (aside_row (hr13.below hal).row (by decide) (by decide))).aside (grownBy_set w15 X 10 (.slice a15 (i + 1) c15)) (aside_low _ _ _ HXs.out)); have HR16 := Lib.hid (hr15.aside (t2 := 5) (grownBy_set w15 X 10 (.slice a15 (i + 1) c15)) (aside_low _ _ _ HXs.out)); have HRUN := Lib.hid hrun; clear hg hd hx13 hr13 hal hrun hr15 hg15 hd14 hd15)
                        | (refine step_append_run (by rfl) _ _ _ _ (by rfl) _ _ (by rfl) (by rfl) HRUN.out ?_))
                      all_goals (go_wp2; go_meet; exact ⟨a15, c15, HD16, HX16, HR16⟩)
                    case rest =>
                      obtain ⟨ea16, ec16, hd16, hx16, hr16⟩ := hcut
                      go_wp2
                      go_roundw
                      case rel => exact ⟨i + 1, ea16, ec16, by omega, by go_num, hd16, hx16, hr16⟩
                      case measure => simp [intOf]; omega
                  · have e : i = ce := by omega
                    rw [e] at hd her ⊢
                    clear e hlt
                    obtain ⟨L1, hL1, hex⟩ := ex_at her.out.row
                    obtain ⟨L2, hL2, hxa⟩ := xa_at hxr.out.row
                    have HM0 : InoM wr wB.heap.size (.agg #[.int .i64 (hV bs 0), .int .i64 (hV bs 1), .int .i64 (hV bs 2), .int .i64 (hV bs 3), .int .i64 (hV bs 4), .int .i64 (hV bs 5), .float .f64 (tV false bs 0), .float .f64 (tV false bs 1), .string (lV false bs), .slice xa (nX false bs) xc, .slice ea (nE false bs) ec]) (prs false bs) := by
                      refine ⟨xa, ea, xc, ec, L1, 0, L2, 0, VA, VC, rfl, ?_, ?_, fun j hj => ?_, hL1, hL2⟩
                      · show ExAt wr L1 0 ea (nE false bs) ec _ _ _
                        rw [HNE.out]; exact hex
                      · show XaAt wr L2 0 xa (nX false bs) xc _ _ _ _
                        rw [HNX.out]; exact hxa
                      · have hj' : j < cx := by rw [← HNX.out]; exact hj
                        obtain ⟨VL, q1, _, q3⟩ := hxr.out.vals j hj'
                        exact ⟨VL, 0, q1, q3⟩
                    rw [hh0.out, hh1.out, hh2.out, hh3.out, hh4.out, hh5.out, hv0.out, hv1.out, hln.out, HNX.out, HNE.out] at HM0
                    have HM := Lib.hid HM0
                    have HD := Lib.hid hd.out
                    clear HM0 hL1 hL2 hex hxa hd her hxr
                    obtain ⟨rr, hrr⟩ : ∃ x, Hid (rightD (prs false bs) = x) := ⟨_, rfl⟩
                    have HRT : Hid (∀ w', InoM w' wB.heap.size (.agg #[.int .i64 h0, .int .i64 h1, .int .i64 h2, .int .i64 h3, .int .i64 h4, .int .i64 h5, .float .f64 v0, .float .f64 v1, .string ln, .slice xa cx xc, .slice ea ce ec]) (prs false bs) → Calls Try.prog 12 #[.agg #[.int .i64 h0, .int .i64 h1, .int .i64 h2, .int .i64 h3, .int .i64 h4, .int .i64 h5, .float .f64 v0, .float .f64 v1, .string ln, .slice xa cx xc, .slice ea ce ec]] w' fun e w'' => e = .returned (.bool rr) ∧ Below w'.heap.size w' w'') := fun w' hm => by
                      have := refRightD hm (prs_wide HRG.out)
                      rw [hrr.out] at this
                      exact this
                    obtain ⟨k0, k1, k2, k3, k4, k5, k6, k7, k8, k9, k10⟩ := HD.out.ino.cells
                    have HMD := Lib.hid (HM.out.below ((Below.refl _ _).drew))
                    have HDD := Lib.hid HD.out.drew
                    have HSB : Hid (∀ w', Below Z w w' → (convert 32 9 (.slice (some ad) 440 c)).run Try.prog w' = .ok (.string (strOfNums bs)) w') := fun w' hb => Bts.run_str ⟨L0, off0, Nat.zero_le _, HBT.out.below (show Below w.heap.size w w' by rw [hZ.out]; exact hb)⟩ 32 9 5 Try.underlying32 Try.underlying5 Try.underlying9
                    have HBLW : Hid (∀ w', Dr wB w' T X L0 off0 bs (sE false bs ce) h0 h1 h2 h3 h4 h5 v0 v1 ln xa cx xc ea ce ec → Below Z w w') := fun w' hd => hd.toBelow HBW.out (by have := HN3.out; omega) (by have := HN1.out; omega) (by have := HN2.out; omega)
                    go_upto_region 26 with fail
                    cases rr with
                    | false =>
                      have HNO : Hid (∀ D, rightD D = true → D.wide → D.bytes → payD D ≠ bs) := ref_none (fun _ _ _ h => by rw [hrr.out] at h; cases h)
                      go_cut [105] (fun v wx => v = .bool true ∧ Hid (Dr wB wx T X L0 off0 bs (sE false bs ce) h0 h1 h2 h3 h4 h5 v0 v1 ln xa cx xc ea ce ec))
                      case first =>
                        refine wp_region_any (by kernel_rfl) ?_
                        change wpAny _ _ _ _ _ _ _ (World.drew _)
                        refine wpAny_ready (rs := [0]) (by kernel_rfl) (by simp) (AllReady.cons rfl (fun K hK => ?_) AllReady.nil)
                        go_simp
                        refine hK _ _ ?_
                        clear hK K
                        refine wpAny_ready (rs := [1]) (by kernel_rfl) (by simp) (AllReady.cons rfl (fun K hK => ?_) AllReady.nil)
                        go_simp
                        go_at_call 12
                        refine (HRT.out _ HMD.out).mono ?_
                        rintro e w13 ⟨rfl, hb⟩
                        have HDE := Lib.hid (HDD.out.below HSR.out hb)
                        clear hb
                        go_simp
                        refine hK _ _ ?_
                        clear hK K
                        refine wpAny_ready (rs := [2]) (by kernel_rfl) (by simp) (AllReady.cons rfl (fun K hK => ?_) AllReady.nil)
                        go_simp
                        refine hK _ _ ?_
                        clear hK K
                        refine wpAny_ready (rs := [3]) (by kernel_rfl) (by simp) (AllReady.cons rfl (fun K hK => ?_) AllReady.nil)
                        go_simp
                        refine hK _ _ ?_
                        clear hK K
                        refine wpAny_take (i := 4) (v := undef) rfl (by kernel_rfl) (by kernel_rfl) (by kernel_rfl) (fun _ _ _ h => h) (Or.inr ⟨by rfl, rfl⟩) ?_
                        refine wpAny_take (i := 5) (v := undef) rfl (by kernel_rfl) (by kernel_rfl) (by kernel_rfl) (fun _ _ _ h => h) (Or.inr ⟨by rfl, rfl⟩) ?_
                        refine wpAny_take (i := 6) (v := undef) rfl (by kernel_rfl) (by kernel_rfl) (by kernel_rfl) (fun _ _ _ h => h) (Or.inr ⟨by rfl, rfl⟩) ?_
                        refine wpAny_take (i := 7) (v := undef) rfl (by kernel_rfl) (by kernel_rfl) (by kernel_rfl) (fun _ _ _ h => h) (Or.inr ⟨by rfl, rfl⟩) ?_
                        refine wpAny_take (i := 8) (v := undef) rfl (by kernel_rfl) (by kernel_rfl) (by kernel_rfl) (fun _ _ _ h => h) (Or.inr ⟨by rfl, rfl⟩) ?_
                        refine wpAny_take (i := 9) (v := undef) rfl (by kernel_rfl) (by kernel_rfl) (by kernel_rfl) (fun _ _ _ h => h) (Or.inr ⟨by rfl, rfl⟩) ?_
                        refine wpAny_ready (rs := [10]) (by kernel_rfl) (by simp) (AllReady.cons rfl (fun K hK => ?_) AllReady.nil)
                        go_simp
                        refine hK _ _ ?_
                        clear hK K
                        refine wpAny_done (by kernel_rfl) ?_ _
                        all_goals (go_wp2; go_meet; exact ⟨rfl, HDE⟩)
                      case rest =>
                        obtain ⟨rfl, hde⟩ := hcut
                        have HDE := Lib.hid hde.out
                        clear k0 k1 k2 k3 k4 k5 k6 k7 k8 k9 k10 hde
                        go_upto_region 27 with fail
                        obtain ⟨wc', hwc⟩ : ∃ x : World, Hid (wc = x) := ⟨_, rfl⟩
                        rw [hwc.out] at HDE ⊢
                        have HZH := Lib.hid (HZK.out wc' HDE.out.keep)
                        go_wp2_with ((refine wpList_store_row rfl 31 (.tmp 2) (.tmp 106) rfl Z #[.int .i64 0, .int .i64 0, .int .i64 0, .int .i64 0, .int .i64 0, .int .i64 0, .float .f64 0, .float .f64 0, .string ⟨#[]⟩, .slice none 0 0, .slice none 0 0] rfl rfl 31 _ HZH.out HSI.out rfl HZ1.out ?_))
                        exact bodyPost_ret (v := .tuple #[.agg #[.int .i64 0, .int .i64 0, .int .i64 0, .int .i64 0, .int .i64 0, .int .i64 0, .float .f64 0, .float .f64 0, .string ⟨#[]⟩, .slice none 0 0, .slice none 0 0], .int .i64 12]) (results_row_tmp rfl _ _ Z 31 #[.int .i64 0, .int .i64 0, .int .i64 0, .int .i64 0, .int .i64 0, .int .i64 0, .float .f64 0, .float .f64 0, .string ⟨#[]⟩, .slice none 0 0, .slice none 0 0] (0, 0) _ rfl (setRow_heap wc' Z _ _ _ _ HZH.out) Try.underlying31 rfl HSI.out (.int .i64 12) rfl) rfl (ref_bad HDE.out HBW.out hZ.out HN1.out HN2.out HN3.out HNO.out _)
                    | true =>
                      have HBY : Hid (∀ w', InoM w' wB.heap.size (.agg #[.int .i64 h0, .int .i64 h1, .int .i64 h2, .int .i64 h3, .int .i64 h4, .int .i64 h5, .float .f64 v0, .float .f64 v1, .string ln, .slice xa cx xc, .slice ea ce ec]) (prs false bs) → Calls Try.prog 24 #[.agg #[.int .i64 h0, .int .i64 h1, .int .i64 h2, .int .i64 h3, .int .i64 h4, .int .i64 h5, .float .f64 v0, .float .f64 v1, .string ln, .slice xa cx xc, .slice ea ce ec]] w' fun e w'' => ∃ s, e = .returned s ∧ Bts w'' w'.heap.size s (payD (prs false bs)) ∧ Below w'.heap.size w' w'') := fun w' hm => refBytesD hm (prs_wide HRG.out) hrr.out
                      obtain ⟨pq, hpq⟩ : ∃ x, Hid (payD (prs false bs) = x) := ⟨_, rfl⟩
                      rw [hpq.out] at HBY
                      by_cases hp : pq = bs
                      · rw [hp] at HBY
                        have HP : Hid (payD (prs false bs) = bs) := hpq.out.trans hp
                        clear hp
                        obtain ⟨S, hS⟩ : ∃ x, Hid (strOfNums bs = x) := ⟨_, rfl⟩
                        rw [hS.out] at HSB
                        go_cut [105] (fun v wx => v = .bool false ∧ Hid (Dr wB wx T X L0 off0 bs (sE false bs ce) h0 h1 h2 h3 h4 h5 v0 v1 ln xa cx xc ea ce ec) ∧ Hid (InoM wx wB.heap.size (.agg #[.int .i64 h0, .int .i64 h1, .int .i64 h2, .int .i64 h3, .int .i64 h4, .int .i64 h5, .float .f64 v0, .float .f64 v1, .string ln, .slice xa cx xc, .slice ea ce ec]) (prs false bs)))
                        case first =>
                          go_region_with (first
                            | (go_at_call 12; refine (HRT.out _ HMD.out).mono ?_; rintro e w13 ⟨rfl, hb⟩; have HDE := Lib.hid (HDD.out.below HSR.out hb); have HME := Lib.hid (HMD.out.below hb); clear hb k0 k1 k2 k3 k4 k5 k6 k7 k8 k9 k10; have z0 := HSB.out w13 (HBLW.out w13 HDE.out); obtain ⟨k0, k1, k2, k3, k4, k5, k6, k7, k8, k9, k10⟩ := HDE.out.ino.cells)
                            | (go_at_call 24; refine (HBY.out _ HME.out).mono ?_; rintro e w14 ⟨s, rfl, hs, hb⟩; obtain ⟨a4, l4, c4, rfl, hcv⟩ := enc_str hs; have z1 := hcv w14 (Below.refl _ _); rw [hS.out] at z1; have HDF := Lib.hid (HDE.out.below HSR.out hb); have HMF := Lib.hid (HME.out.below hb); have z2 := HSB.out w14 (HBLW.out w14 HDF.out); clear hb hs hcv))
                          all_goals (go_wp2; go_meet; exact ⟨rfl, HDF, HMF⟩)
                        case rest =>
                          obtain ⟨rfl, hde, hme⟩ := hcut
                          have HDE := Lib.hid hde.out
                          have HME := Lib.hid hme.out
                          clear k0 k1 k2 k3 k4 k5 k6 k7 k8 k9 k10 hde hme
                          go_upto_region 28 with fail
                          obtain ⟨wc', hwc⟩ : ∃ x : World, Hid (wc = x) := ⟨_, rfl⟩
                          rw [hwc.out] at HDE HME ⊢
                          obtain ⟨k0, k1, k2, k3, k4, k5, k6, k7, k8, k9, k10⟩ := HDE.out.ino.cells
                          have HZH := Lib.hid (HZK.out wc' HDE.out.keep)
                          have HV1 : Hid (Array.all (#[.int .i64 h0, .int .i64 h1, .int .i64 h2, .int .i64 h3, .int .i64 h4, .int .i64 h5, .float .f64 v0, .float .f64 v1, .string ln, .slice xa cx xc, .slice ea ce ec] : Array Value) (·.oneCell') = true) := by show _ = _; rw [← Array.all_toList]; rfl
                          go_wp2_with ((refine wpList_store_row rfl 31 (.tmp 2) (.tmp 107) rfl Z #[.int .i64 h0, .int .i64 h1, .int .i64 h2, .int .i64 h3, .int .i64 h4, .int .i64 h5, .float .f64 v0, .float .f64 v1, .string ln, .slice xa cx xc, .slice ea ce ec] rfl rfl 31 _ HZH.out HSI.out rfl HV1.out ?_))
                          exact bodyPost_ret (v := .tuple #[.agg #[.int .i64 h0, .int .i64 h1, .int .i64 h2, .int .i64 h3, .int .i64 h4, .int .i64 h5, .float .f64 v0, .float .f64 v1, .string ln, .slice xa cx xc, .slice ea ce ec], .int .i64 0]) (results_row_tmp rfl _ _ Z 31 #[.int .i64 h0, .int .i64 h1, .int .i64 h2, .int .i64 h3, .int .i64 h4, .int .i64 h5, .float .f64 v0, .float .f64 v1, .string ln, .slice xa cx xc, .slice ea ce ec] (0, 0) _ rfl (setRow_heap wc' Z _ _ _ _ HZH.out) Try.underlying31 rfl HSI.out (.int .i64 0) rfl) rfl (ref_good HDE.out HBW.out hZ.out HN1.out HN2.out HN3.out HRG.out hrr.out HP.out HME.out _)
                      · have HNO : Hid (∀ D, rightD D = true → D.wide → D.bytes → payD D ≠ bs) := ref_none (fun _ _ _ _ => by rw [hpq.out]; exact hp)
                        have hpr : ∀ x ∈ pq, 0 ≤ x ∧ x < 256 := by
                          rw [← hpq.out]
                          obtain ⟨k', m', u', g', l', s', _, _, _, _, _, _, hf⟩ := right_fitsD hrr.out
                          rename_i q1 q2 q3 q4 q5 q6
                          show ∀ x ∈ payL (prs false bs).k.toNat (prs false bs).m.toNat (prs false bs).u.toNat (prs false bs).g.toNat (prs false bs).l.toNat (prs false bs).s.toNat _ _ _ _ _ _ _ _ _ _, _
                          rw [q1, q2, q3, q4, q5, q6]
                          exact pay_range hf (fun _ _ => rfl)
                        have hS12 : strOfNums pq ≠ strOfNums bs := fun e => hp (strOf_inj hpr e HRG.out)
                        obtain ⟨S, hS⟩ : ∃ x, Hid (strOfNums bs = x) := ⟨_, rfl⟩
                        obtain ⟨S', hS'⟩ : ∃ x, Hid (strOfNums pq = x) := ⟨_, rfl⟩
                        rw [hS.out, hS'.out] at hS12
                        rw [hS.out] at HSB
                        have HS12 := Lib.hid hS12
                        clear hpr hS12 hp
                        go_cut [105] (fun v wx => v = .bool true ∧ Hid (Dr wB wx T X L0 off0 bs (sE false bs ce) h0 h1 h2 h3 h4 h5 v0 v1 ln xa cx xc ea ce ec))
                        case first =>
                          go_region_with (first
                            | (go_at_call 12; refine (HRT.out _ HMD.out).mono ?_; rintro e w13 ⟨rfl, hb⟩; have HDE := Lib.hid (HDD.out.below HSR.out hb); have HME := Lib.hid (HMD.out.below hb); clear hb k0 k1 k2 k3 k4 k5 k6 k7 k8 k9 k10; have z0 := HSB.out w13 (HBLW.out w13 HDE.out); obtain ⟨k0, k1, k2, k3, k4, k5, k6, k7, k8, k9, k10⟩ := HDE.out.ino.cells)
                            | (go_at_call 24; refine (HBY.out _ HME.out).mono ?_; rintro e w14 ⟨s, rfl, hs, hb⟩; obtain ⟨a4, l4, c4, rfl, hcv⟩ := enc_str hs; have z1 := hcv w14 (Below.refl _ _); rw [hS'.out] at z1; have HDF := Lib.hid (HDE.out.below HSR.out hb); have z2 := HSB.out w14 (HBLW.out w14 HDF.out); clear hb hs hcv))
                          all_goals (go_wp2; go_meet; exact ⟨by rw [str_beq HS12.out]; rfl, HDF⟩)
                        case rest =>
                          obtain ⟨rfl, hde⟩ := hcut
                          have HDE := Lib.hid hde.out
                          clear k0 k1 k2 k3 k4 k5 k6 k7 k8 k9 k10 hde
                          go_upto_region 27 with fail
                          obtain ⟨wc', hwc⟩ : ∃ x : World, Hid (wc = x) := ⟨_, rfl⟩
                          rw [hwc.out] at HDE ⊢
                          have HZH := Lib.hid (HZK.out wc' HDE.out.keep)
                          go_wp2_with ((refine wpList_store_row rfl 31 (.tmp 2) (.tmp 106) rfl Z #[.int .i64 0, .int .i64 0, .int .i64 0, .int .i64 0, .int .i64 0, .int .i64 0, .float .f64 0, .float .f64 0, .string ⟨#[]⟩, .slice none 0 0, .slice none 0 0] rfl rfl 31 _ HZH.out HSI.out rfl HZ1.out ?_))
                          exact bodyPost_ret (v := .tuple #[.agg #[.int .i64 0, .int .i64 0, .int .i64 0, .int .i64 0, .int .i64 0, .int .i64 0, .float .f64 0, .float .f64 0, .string ⟨#[]⟩, .slice none 0 0, .slice none 0 0], .int .i64 12]) (results_row_tmp rfl _ _ Z 31 #[.int .i64 0, .int .i64 0, .int .i64 0, .int .i64 0, .int .i64 0, .int .i64 0, .float .f64 0, .float .f64 0, .string ⟨#[]⟩, .slice none 0 0, .slice none 0 0] (0, 0) _ rfl (setRow_heap wc' Z _ _ _ _ HZH.out) Try.underlying31 rfl HSI.out (.int .i64 12) rfl) rfl (ref_bad HDE.out HBW.out hZ.out HN1.out HN2.out HN3.out HNO.out _)
end Go.Proofs.Ytebnekpccdcnmaa
