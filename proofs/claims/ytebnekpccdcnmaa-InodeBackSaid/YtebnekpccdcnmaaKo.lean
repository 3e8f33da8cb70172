/- The walk of InodeDecodes. -/
import Derived.Test.YtebnekpccdcnmaaKn
import Derived.Outline
namespace Go.Proofs.Ytebnekpccdcnmaa
set_option linter.unusedVariables false
set_option linter.unusedSimpArgs false
open Go.RowKit

set_option maxRecDepth 100000 in
set_option maxHeartbeats 4000000 in
theorem decodes_walk (b0 : Option Addr) (n c L0 off0 : Nat) (bs : List Int) (w : World) (h : BtsAt w L0 off0 (.slice b0 n c) bs) (hc : b0 = none → c = 0) (hlen : n ≤ 140737488351232) :
    Calls Try.prog 5 #[.slice b0 n c] w fun e w' => e = .returned (.bool true) ∧ Below w.heap.size w w' := by
  have HBT := Lib.hid h
  have HFIX := Lib.hid fixed_ino
  have hsf : ∀ (a : Addr) (n : Nat) (m : Mode) (w : World), (store a (.float .f64 n) m).run Try.prog w = stored Try.prog w a (.float .f64 n) m := fun a n m w => run_store Try.prog w a _ m rfl
  obtain ⟨G, cap, w1, hrun, hG, hown, hb1⟩ := run_copied2 w L0 off0 b0 n c bs h hc (by omega)
  have HRG := Lib.hid h.range
  have hn9 : n ≤ 9223372036854775807 := by omega
  have HRUN := Lib.hid hrun
  have HG := Lib.hid hG
  have HOWN := Lib.hid hown
  have HB1 := Lib.hid hb1
  have HGl : Hid (G < w1.heap.size) := (hown.lt G rfl).2
  have HMB : Hid (BtsAt w1 G 0 (.slice (some ⟨G, 0, none⟩) n cap) bs) := (BtsAt.of_own hown h.range).1
  have HS1 : Hid (∀ w', Below w1.heap.size w1 w' → (convert 32 9 (.slice (some ⟨G, 0, none⟩) n cap)).run Try.prog w' = .ok (.string (strOfNums bs)) w') := fun w' hb => Bts.run_str ⟨G, 0, Nat.zero_le _, HMB.out.below hb⟩ 32 9 5 Try.underlying32 Try.underlying5 Try.underlying9
  have HS0 : Hid (∀ w', Below w1.heap.size w1 w' → (convert 32 9 (.slice b0 n c)).run Try.prog w' = .ok (.string (strOfNums bs)) w') := fun w' hb => Bts.run_str ⟨L0, off0, Nat.zero_le _, (HBT.out.below HB1.out).below hb⟩ 32 9 5 Try.underlying32 Try.underlying5 Try.underlying9
  obtain ⟨S, hS⟩ : ∃ x, Hid (strOfNums bs = x) := ⟨_, rfl⟩
  rw [hS.out] at HS1 HS0
  have HREF : Hid (∀ w', Below w1.heap.size w1 w' → Calls Try.prog 15 #[.slice b0 n c] w' (DecQ bs w')) := fun w' hb => refDecode_q b0 n c L0 off0 bs w' ((HBT.out.below HB1.out).below hb)
  have HDEC := Lib.hid (decode_q (some ⟨G, 0, none⟩) n cap G 0 bs w1 HMB.out)
  clear h hc hrun hG hown hb1 hlen
  go_enter Try.func5, Try.ntmps5
  go_upto_region 2 with (at_builtin; refine wpList_append_run _ rfl _ _ _ _ rfl _ _ rfl rfl HRUN.out ?_)
  go_upto_region 3 with (go_at_call 14; refine HDEC.out.mono ?_; rintro e w2 ⟨k, m, u, g, l, s, t0, t1, ln, xa, xn, xc, ea, en, ec, D, q, rfl, hm, hb, hr⟩; have HM2 := Lib.hid hm; have HB2 := Lib.hid hb; have HR2 := Lib.hid hr; clear hm hb hr)
  have hal : Below w2.heap.size w2 (w2.alloc (.cells #[.int .i64 k, .int .i64 m, .int .i64 u, .int .i64 g, .int .i64 l, .int .i64 s, .float .f64 t0, .float .f64 t1, .string ln, .slice xa xn xc, .slice ea en ec] 31)) := (Below.refl _ _).alloc (Nat.le_refl _) _
  have HI3 := Lib.hid (InoAt.new w2 k m u g l s t0 t1 ln xa xn xc ea en ec)
  have HM3 := Lib.hid (HM2.out.below hal)
  have HB3 := Lib.hid (HB2.out.trans (hal.mono HB2.out.size))
  have HXl : Hid (w1.heap.size ≤ w2.heap.size) := HB2.out.size
  clear hal HM2 HB2 HDEC HRUN
  generalize (w2.alloc (.cells #[.int .i64 k, .int .i64 m, .int .i64 u, .int .i64 g, .int .i64 l, .int .i64 s, .float .f64 t0, .float .f64 t1, .string ln, .slice xa xn xc, .slice ea en ec] 31)) = w3 at HI3 HM3 HB3 ⊢
  obtain ⟨X, hX⟩ : ∃ X, Hid (w2.heap.size = X) := ⟨_, rfl⟩
  rw [hX.out] at HI3 HXl ⊢
  go_upto_region 4 with (go_at_call 15; refine (HREF.out _ HB3.out).mono ?_; rintro e w4 ⟨k', m', u', g', l', s', t0', t1', ln', xa', xn', xc', ea', en', ec', D', q', rfl, hm, hb, hr⟩; obtain ⟨hqq, hsd⟩ := decR_same HR2.out hr; have HSD := Lib.hid hsd; have HQQ := Lib.hid hqq; have HM4 := Lib.hid (hm.mono HB3.out.size); have HI4 := Lib.hid (HI3.out.below hb); have HN4 := Lib.hid (HM3.out.below hb); have HB4 := Lib.hid (HB3.out.trans (hb.mono HB3.out.size)); clear hm hb hr hqq hsd)
  clear HREF HI3 HM3 HB3
  obtain rfl : q = q' := HQQ.out
  have hal : Below w4.heap.size w4 (w4.alloc (.cells #[.int .i64 k', .int .i64 m', .int .i64 u', .int .i64 g', .int .i64 l', .int .i64 s', .float .f64 t0', .float .f64 t1', .string ln', .slice xa' xn' xc', .slice ea' en' ec'] 31)) := (Below.refl _ _).alloc (Nat.le_refl _) _
  have HI5 := Lib.hid (HI4.out.below hal)
  have HJ5 := Lib.hid (InoAt.new w4 k' m' u' g' l' s' t0' t1' ln' xa' xn' xc' ea' en' ec')
  have HM5 := Lib.hid (HM4.out.below hal)
  have HN5 := Lib.hid (HN4.out.below hal)
  have HB5 := Lib.hid (HB4.out.trans (hal.mono HB4.out.size))
  have HYl : Hid (w1.heap.size ≤ w4.heap.size) := HB4.out.size
  clear hal HM4 HI4 HN4 HB4
  generalize (w4.alloc (.cells #[.int .i64 k', .int .i64 m', .int .i64 u', .int .i64 g', .int .i64 l', .int .i64 s', .float .f64 t0', .float .f64 t1', .string ln', .slice xa' xn' xc', .slice ea' en' ec'] 31)) = w5 at HI5 HJ5 HM5 HN5 HB5 ⊢
  obtain ⟨Y, hY⟩ : ∃ X, Hid (w4.heap.size = X) := ⟨_, rfl⟩
  rw [hY.out] at HJ5 HYl ⊢
  have HSAM : Hid (∀ w', InoM w' w1.heap.size (.agg #[.int .i64 k, .int .i64 m, .int .i64 u, .int .i64 g, .int .i64 l, .int .i64 s, .float .f64 t0, .float .f64 t1, .string ln, .slice xa xn xc, .slice ea en ec]) D → InoM w' w1.heap.size (.agg #[.int .i64 k', .int .i64 m', .int .i64 u', .int .i64 g', .int .i64 l', .int .i64 s', .float .f64 t0', .float .f64 t1', .string ln', .slice xa' xn' xc', .slice ea' en' ec']) D' →
      Calls Try.prog 13 #[.agg #[.int .i64 k, .int .i64 m, .int .i64 u, .int .i64 g, .int .i64 l, .int .i64 s, .float .f64 t0, .float .f64 t1, .string ln, .slice xa xn xc, .slice ea en ec], .agg #[.int .i64 k', .int .i64 m', .int .i64 u', .int .i64 g', .int .i64 l', .int .i64 s', .float .f64 t0', .float .f64 t1', .string ln', .slice xa' xn' xc', .slice ea' en' ec']] w' fun e w'' => e = .returned (.bool true) ∧ Below w'.heap.size w' w'') := fun w' h1 h2 => same_any h1 h2 HSD.out
  obtain ⟨c0, c1, c2, c3, c4, c5, c6, c7, c8, c9, c10⟩ := HI5.out.cells
  obtain ⟨d0, d1, d2, d3, d4, d5, d6, d7, d8, d9, d10⟩ := HJ5.out.cells
  go_upto_region 6 with (first
    | (go_at_call 8; refine (HFIX.out _).mono ?_; rintro e w6 ⟨rfl, hb⟩; have HI6 := Lib.hid (HI5.out.below hb); have HJ6 := Lib.hid (HJ5.out.below hb); have HM6 := Lib.hid (HM5.out.below hb); have HN6 := Lib.hid (HN5.out.below hb); have HB6 := Lib.hid (HB5.out.trans (hb.mono HB5.out.size)); clear hb c0 c1 c2 c3 c4 c5 c6 c7 c8 c9 c10 d0 d1 d2 d3 d4 d5 d6 d7 d8 d9 d10; obtain ⟨c0, c1, c2, c3, c4, c5, c6, c7, c8, c9, c10⟩ := HI6.out.cells; obtain ⟨d0, d1, d2, d3, d4, d5, d6, d7, d8, d9, d10⟩ := HJ6.out.cells)
    | (go_at_call 13; refine (HSAM.out _ HN6.out HM6.out).mono ?_; rintro e w7 ⟨rfl, hb⟩; have HI7 := Lib.hid (HI6.out.below hb); have HJ7 := Lib.hid (HJ6.out.below hb); have HM7 := Lib.hid (HM6.out.below hb); have HN7 := Lib.hid (HN6.out.below hb); have HB7 := Lib.hid (HB6.out.trans (hb.mono HB6.out.size)); clear hb c0 c1 c2 c3 c4 c5 c6 c7 c8 c9 c10 d0 d1 d2 d3 d4 d5 d6 d7 d8 d9 d10; have z1 := HS1.out _ HB7.out; have z0 := HS0.out _ HB7.out))
  clear z1 z0 HI5 HJ5 HM5 HN5 HB5 HI6 HJ6 HM6 HN6 HB6
  have HOWN7 := Lib.hid (own_below HOWN.out HB7.out)
  clear HOWN
  go_wp2_with fail
  go_loopw [44] (fun iv wr => ∃ i : Nat, i ≤ n ∧ iv = .int .i64 i ∧ Hid (w7.grownBy wr (some G)) ∧ Hid (∃ xs, wr.ownsRow w.heap.size 5 1 (.slice (some ⟨G, 0, none⟩) n cap) n xs)) (fun iv _ => n - (intOf iv).toNat)
  case atStart => exact ⟨0, Nat.zero_le _, rfl, ⟨rfl, rfl, rfl, Nat.le_refl _, fun _ _ _ => rfl⟩, ⟨_, HOWN7.out⟩⟩
  case round =>
    obtain ⟨i, hi, rfl, hg, ho⟩ := hrel
    by_cases hlt : i < n
    · obtain ⟨xs, hx⟩ := ho.out
      have hf := hx.frozenAt i
      obtain ⟨v, hv⟩ := own_some hx hlt
      have HG8 : Hid (w7.grownBy (wr.setCell ⟨G, i, none⟩ (.int .u8 238)) (some G)) := grown_then hg.out (grownBy_set wr G i _)
      have HO8 : Hid (∃ xs, (wr.setCell ⟨G, i, none⟩ (.int .u8 238)).ownsRow w.heap.size 5 1 (.slice (some ⟨G, 0, none⟩) n cap) n xs) := ⟨_, (hx.stored i (.int .u8 238)).1⟩
      clear hx
      go_wp2
      go_roundw
      case rel => exact ⟨i + 1, by omega, by go_num, HG8, HO8⟩
      case measure => simp [intOf]; omega
    · have hne : ∀ j, w1.heap.size ≤ j → some j ≠ some G := fun j hj e => by have := HGl.out; simp only [Option.some.injEq] at e; omega
      have hi8 : InoAt wr X _ _ _ _ _ _ _ _ _ _ _ _ _ _ _ := (hg.out.block X (lt_of_block HI7.out) (hne X HXl.out)).trans HI7.out
      have hj8 : InoAt wr Y _ _ _ _ _ _ _ _ _ _ _ _ _ _ _ := (hg.out.block Y (lt_of_block HJ7.out) (hne Y HYl.out)).trans HJ7.out
      have HM8 := Lib.hid (HM7.out.grown hg.out (fun j hj => by simp only [Option.some.injEq] at hj; have := HGl.out; omega))
      have HN8 := Lib.hid (HN7.out.grown hg.out (fun j hj => by simp only [Option.some.injEq] at hj; have := HGl.out; omega))
      obtain ⟨c0, c1, c2, c3, c4, c5, c6, c7, c8, c9, c10⟩ := hi8.cells
      obtain ⟨d0, d1, d2, d3, d4, d5, d6, d7, d8, d9, d10⟩ := hj8.cells
      have HB8 : Hid (Below w.heap.size w wr) := (HB1.out.trans (HB7.out.mono HB1.out.size)).grown hg.out (Nat.le_trans HB1.out.size HB7.out.size) (fun j hj => by simp only [Option.some.injEq] at hj; have := HG.out; omega)
      clear hi8 hj8 hne
      go_wp2_with (go_at_call 13; refine (HSAM.out _ HN8.out HM8.out).mono ?_; rintro e w9 ⟨rfl, hb⟩; have HB9 := Lib.hid (HB8.out.trans (hb.mono HB8.out.size)); clear hb)
      go_ret
      exact ⟨rfl, HB9.out⟩
end Go.Proofs.Ytebnekpccdcnmaa
