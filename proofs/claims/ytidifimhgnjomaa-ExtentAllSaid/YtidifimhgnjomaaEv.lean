/- Walks of the reference of the layer extent: build. -/
import Derived.Test.YtidifimhgnjomaaEu
namespace Go.Proofs.Ytidifimhgnjomaa
set_option linter.unusedVariables false
set_option linter.unusedSimpArgs false
open Go.RowKit

/-- n ints lie in a slice. -/
def InAt (w : World) (L off : Nat) (a : Option Addr) (n c : Nat) (v : Nat → Int) : Prop :=
  n ≤ c ∧ c ≤ 9223372036854775807 ∧ (0 < n → a = some ⟨L, off, none⟩ ∧ ∀ i, i < n → w.cell? ⟨L, off + i, none⟩ = some (.int .i64 (v i)))
theorem InAt.lt {w : World} {L off n c : Nat} {a : Option Addr} {v : Nat → Int} (h : InAt w L off a n c v) (hn : 0 < n) : L < w.heap.size :=
  World.block_lt_of_cell? w _ ((h.2.2 hn).2 0 hn)
theorem InAt.below {w w' : World} {L off n c : Nat} {a : Option Addr} {v : Nat → Int} (h : InAt w L off a n c v) (hb : Below w.heap.size w w') : InAt w' L off a n c v :=
  ⟨h.1, h.2.1, fun hn => ⟨(h.2.2 hn).1, fun i hi => by rw [hb.cell (p := ⟨L, off + i, none⟩) (h.lt hn)]; exact (h.2.2 hn).2 i hi⟩⟩

set_option maxRecDepth 100000 in
set_option maxHeartbeats 1600000 in
theorem build_any (a0 : Option Addr) (c0 L off : Nat) (g : Nat → Int) (w : World) (h : InAt w L off a0 40 c0 (fun i => g i - 1)) (h0 : ∀ s, 0 ≤ g s) (h1 : ∀ s, g s ≤ 256) :
    Calls Try.prog 24 #[.slice a0 40 c0] w (Listed w (bld g 40)) := by
  obtain ⟨i0, hi, hz0, hz1, hz2⟩ := info_parts infoExt
  have hc0 := h.1
  have hc1 := h.2.1
  have HIN := Lib.hid h
  obtain ⟨ha, hcell⟩ := h.2.2 (by omega)
  subst ha
  have H0 := Lib.hid h0
  have H1 := Lib.hid h1
  clear h hcell h0 h1
  go_enter Try.func24, Try.ntmps24
  go_wp2_with fail
  go_loopw [3, 4] (fun v i wr => ∃ b : Nat, b ≤ 40 ∧ i = .int .i64 b ∧ ∃ a n c, v = .slice a n c ∧ Hid (RunsAt w g b a n c wr)) (fun _ i _ => 40 - (intOf i).toNat)
  case atStart => exact ⟨0, by omega, rfl, none, 0, 0, rfl, rfl, World.ownsRow_nil _ _ _ _, Below.refl _ _⟩
  case round =>
    obtain ⟨b, hb, rfl, a, n, c, rfl, hc⟩ := hrel
    by_cases hlt : b < 40
    · have HBr := Lib.hid (HIN.out.below hc.out.bel)
      have cb : wr.cell? ⟨L, off + b, none⟩ = some (.int .i64 (g b - 1)) := (HBr.out.2.2 (by omega)).2 b hlt
      go_upto_block 1 with fail
      go_cut [3] (fun v wx => ∃ a n c, v = .slice a n c ∧ Hid (RunsAt w g (b + 1) a n c wx))
      case first =>
        have hg0 := H0.out b
        have hg1 := H1.out b
        have HJ := Lib.hid (BInv.test (b := b) H0.out (bld_inv g H0.out b))
        obtain ⟨xb, hgb⟩ : ∃ x, Hid (g b - 1 = x) := ⟨_, rfl⟩
        rw [hgb.out] at cb
        have hgb1 : g b = xb + 1 := by have := hgb.out; omega
        rw [hgb1] at hg0 hg1
        by_cases h0 : xb = -1
        · have HE := Lib.hid (hc.out.skip (by rw [hgb1, h0]; rfl))
          have d0 : decide (xb < 0) = true := decide_eq_true (by omega)
          clear h0 hgb1
          go_wp2
          go_meet
          exact ⟨_, _, _, rfl, HE.out⟩
        · have d0 : decide (xb < 0) = false := decide_eq_false (by omega)
          have HNZ : Hid (g b ≠ 0) := by show g b ≠ 0; rw [hgb1]; omega
          have HF : Hid (n ≤ 40) := by have h1 := (bld_inv g H0.out b).few; have h2 := hc.out.len; show n ≤ 40; omega
          clear h0
          cases hj : joins g b with
          | true =>
            have ht := (HJ.out HNZ.out).1 hj
            obtain ⟨m, hm⟩ : ∃ m, n = m + 1 := ⟨n - 1, by have := hc.out.len; omega⟩
            subst hm
            obtain ⟨k, hk⟩ : ∃ k, b = k + 1 := by
              cases b with
              | zero => cases hj
              | succ k => exact ⟨k, rfl⟩
            subst hk
            have hlen := hc.out.len
            have HC := Lib.hid hc.out
            have HJ1 := Lib.hid hj
            obtain ⟨hj1, hj2⟩ : g k ≠ 0 ∧ g (k + 1) = g k + 1 := by simpa [joins] using hj
            have hk0 := H0.out k
            obtain ⟨xk, hgk⟩ : ∃ x, Hid (g k - 1 = x) := ⟨_, rfl⟩
            have ck : wr.cell? ⟨L, off + k, none⟩ = some (.int .i64 xk) := by
              rw [(HBr.out.2.2 (by omega)).2 k (by omega)]
              show some (Value.int .i64 (g k - 1)) = _
              rw [hgk.out]
            have hgk1 := hgk.out
            have e1 : decide (0 ≤ xk) = true := decide_eq_true (by omega)
            have e2 : (xb == xk + 1) = true := beq_iff_eq.2 (by omega)
            have hxk : 0 ≤ xk ∧ xk ≤ 300 := by omega
            have e0 : decide ((0 : Int) < (k : Int) + 1) = true := decide_eq_true (by omega)
            obtain ⟨G, cap, hv, hcell⟩ : ∃ G cap, Value.slice a (m + 1) c = .slice (some ⟨G, 0, none⟩) (m + 1) cap ∧ True := by
              obtain ⟨G, cap, hv, _⟩ := hc.out.own.form (Nat.succ_pos m)
              exact ⟨G, cap, hv, trivial⟩
            injection hv with hv1 hv2 hv3
            subst hv1 hv3
            clear hcell hv2
            have ho := (bld_inv g H0.out (k + 1)).one m (by omega)
            obtain ⟨k1, k2, k3⟩ := cells3_at (bld g (k + 1)) m (by omega)
            have c2 : wr.cell? ⟨G, m * 3 + 2, none⟩ = some (.int .i64 (eN (bld g (k + 1)) m)) := by rw [hc.out.own.cellAt _ (by omega)]; exact k3
            have f2 : wr.frozen? ⟨G, m * 3 + 2, none⟩ = false := hc.out.own.frozenAt _
            have hm40 : m < 40 := by have := HF.out; omega
            have hk1 : (k : Int) < 40 := by omega
            clear hc k1 k2 k3 hlen HJ ht hj1 hj2 hk0 HF
            obtain ⟨nn, hnn⟩ : ∃ x, Hid (eN (bld g (k + 1)) m = x) := ⟨_, rfl⟩
            rw [hnn.out] at ho c2
            obtain ⟨o1, o2, o3, o4⟩ := ho
            have on : nn ≤ 40 := by omega
            have q3 : IntKind.i64.wrap (xk + 1) = xk + 1 := IntWalk.i64_in _ (by omega)
            have q1 : IntKind.i64.wrap (k : Int) = k := IntWalk.i64_in _ (by omega)
            clear hgb1 hgk1
            go_wp2_with fail
            go_quiet (fail)
            clear q1 q3
            go_wp2
            go_meet
            exact ⟨_, _, _, rfl, (HC.out.drewN _).bump HNZ.out HJ1.out (nn + 1) (by rw [hnn.out])⟩
          | false =>
            have HJ2 := Lib.hid hj
            have HC := Lib.hid hc.out
            cases b with
            | zero =>
              clear hc HJ hgb1
              have hix : (0 : Int) < 40 := by decide
              rw [Nat.add_zero] at cb
              rw [show ((0 : Nat) : Int) = 0 from rfl]
              go_wp2_with fail
              go_quiet (fail)
              clear hix
              go_wp2_with (at_builtin; refine wpList_append_own _ rfl (.tmp 49) (.tmp 56) 27 rfl w.heap.size 54 i0 _ 3 24 Try.underlying27 hi hz0 hz1 hz2 rfl (by decide) _ _ _ rfl ((HC.out.drewN _).own.alloc _) ⟨wr.heap.size, 0, none⟩ 1 1 [.int .i64 (0 : Int), .int .i64 xb, .int .i64 1] rfl rfl ?c1 ?c2 ?c3 ?c4 ?c5 ?_)
              case c1 => exact news3 _ _ _ _ _
              case c2 => exact ones3 _ _ _
              case c3 => have := HF.out; unfold maxLen; omega
              case c4 => have := HF.out; omega
              case c5 => have := HC.out.bel.size; simp; omega
              intro v3 w3 hown3 hgrow3 _
              obtain ⟨a3, c3, rfl, h3⟩ := HC.out.app HNZ.out HJ2.out ((below_drewN (Below.refl wr.heap.size wr) _).alloc (Nat.le_refl _) _) (by rw [hgb.out]; exact hown3) hgrow3
              have HR3 := Lib.hid h3
              clear hown3 hgrow3 h3
              go_wp2
              go_meet
              exact ⟨_, _, _, rfl, HR3.out⟩
            | succ k =>
              have hk0 := H0.out k
              obtain ⟨xk, hgk⟩ : ∃ x, Hid (g k - 1 = x) := ⟨_, rfl⟩
              have hgk1 := hgk.out
              have ck : wr.cell? ⟨L, off + k, none⟩ = some (.int .i64 xk) := by
                rw [(HBr.out.2.2 (by omega)).2 k (by omega)]
                show some (Value.int .i64 (g k - 1)) = _
                rw [hgk.out]
              have hk1 := H1.out k
              have hj0 : ¬ (0 ≤ xk ∧ xb = xk + 1) := by
                intro hh
                have : joins g (k + 1) = true := by
                  have h1 : g k ≠ 0 ∧ g (k + 1) = g k + 1 := by omega
                  simpa [joins] using h1
                rw [hj] at this; cases this
              have e0 : decide ((0 : Int) < (k : Int) + 1) = true := decide_eq_true (by omega)
              have hix : (k : Int) < 40 := by omega
              rcases (show decide (0 ≤ xk) = false ∨ (decide (0 ≤ xk) = true ∧ (xb == xk + 1) = false) by
                by_cases q : 0 ≤ xk
                · exact Or.inr ⟨decide_eq_true q, beq_eq_false_iff_ne.2 (fun q2 => hj0 ⟨by omega, by omega⟩)⟩
                · exact Or.inl (decide_eq_false q)) with e1 | ⟨e1, e2⟩
              · have q3 : IntKind.i64.wrap (xk + 1) = xk + 1 := IntWalk.i64_in _ (by omega)
                have q1 : IntKind.i64.wrap (k : Int) = k := IntWalk.i64_in _ (by omega)
                clear hc HJ hj0 hgb1 hgk1 hk0 hk1
                go_wp2_with fail
                go_quiet (fail)
                clear hix q1 q3
                go_wp2_with (at_builtin; refine wpList_append_own _ rfl (.tmp 49) (.tmp 56) 27 rfl w.heap.size 54 i0 _ 3 24 Try.underlying27 hi hz0 hz1 hz2 rfl (by decide) _ _ _ rfl ((HC.out.drewN _).own.alloc _) ⟨wr.heap.size, 0, none⟩ 1 1 [.int .i64 ((k : Int) + 1), .int .i64 xb, .int .i64 1] rfl rfl ?c1 ?c2 ?c3 ?c4 ?c5 ?_)
                case c1 => exact news3 _ _ _ _ _
                case c2 => exact ones3 _ _ _
                case c3 => have := HF.out; unfold maxLen; omega
                case c4 => have := HF.out; omega
                case c5 => have := HC.out.bel.size; simp; omega
                intro v3 w3 hown3 hgrow3 _
                obtain ⟨a3, c3, rfl, h3⟩ := HC.out.app HNZ.out HJ2.out ((below_drewN (Below.refl wr.heap.size wr) _).alloc (Nat.le_refl _) _) (by rw [hgb.out]; exact hown3) hgrow3
                have HR3 := Lib.hid h3
                clear hown3 hgrow3 h3
                go_wp2
                go_meet
                exact ⟨_, _, _, rfl, HR3.out⟩
              · have q3 : IntKind.i64.wrap (xk + 1) = xk + 1 := IntWalk.i64_in _ (by omega)
                have q1 : IntKind.i64.wrap (k : Int) = k := IntWalk.i64_in _ (by omega)
                clear hc HJ hj0 hgb1 hgk1 hk0 hk1
                go_wp2_with fail
                go_quiet (fail)
                clear hix q1 q3
                go_wp2_with (at_builtin; refine wpList_append_own _ rfl (.tmp 49) (.tmp 56) 27 rfl w.heap.size 54 i0 _ 3 24 Try.underlying27 hi hz0 hz1 hz2 rfl (by decide) _ _ _ rfl ((HC.out.drewN _).own.alloc _) ⟨wr.heap.size, 0, none⟩ 1 1 [.int .i64 ((k : Int) + 1), .int .i64 xb, .int .i64 1] rfl rfl ?c1 ?c2 ?c3 ?c4 ?c5 ?_)
                case c1 => exact news3 _ _ _ _ _
                case c2 => exact ones3 _ _ _
                case c3 => have := HF.out; unfold maxLen; omega
                case c4 => have := HF.out; omega
                case c5 => have := HC.out.bel.size; simp; omega
                intro v3 w3 hown3 hgrow3 _
                obtain ⟨a3, c3, rfl, h3⟩ := HC.out.app HNZ.out HJ2.out ((below_drewN (Below.refl wr.heap.size wr) _).alloc (Nat.le_refl _) _) (by rw [hgb.out]; exact hown3) hgrow3
                have HR3 := Lib.hid h3
                clear hown3 hgrow3 h3
                go_wp2
                go_meet
                exact ⟨_, _, _, rfl, HR3.out⟩
      case rest =>
        obtain ⟨a2, n2, c2, rfl, HCN⟩ := hcut
        clear cb
        go_wp2
        go_roundw
        case rel => exact ⟨b + 1, by omega, by go_num, _, _, _, rfl, HCN⟩
        case measure => simp [intOf]; omega
    · obtain rfl : b = 40 := by omega
      go_wp2
      go_ret
      refine ⟨_, rfl, own_exl (by have := hc.out.own; rw [hc.out.len] at this; rw [hc.out.len]; exact this), hc.out.bel⟩
end Go.Proofs.Ytidifimhgnjomaa
