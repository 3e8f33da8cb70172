/- Walks of the layer extent: Check. -/
import Derived.Test.YtebnekpccdcnmaaEp
import Derived.Deep.DeepCutAuto
import Derived.Deep.CutBlock
import Derived.Deep.RegionHeld
namespace Go.Proofs.Ytebnekpccdcnmaa
set_option linter.unusedVariables false
set_option linter.unusedSimpArgs false
open Go.RowKit

open Classical in
/-- What Check answers. -/
noncomputable def chk (n : Nat) (F H N : Nat → Int) : Int := if Right n F H N then 0 else 3
theorem chk_bad {n : Nat} {F H N : Nat → Int} (h : ¬ Right n F H N) : chk n F H N = 3 := by unfold chk; rw [if_neg h]
theorem chk_good {n : Nat} {F H N : Nat → Int} (h : Right n F H N) : chk n F H N = 0 := by unfold chk; rw [if_pos h]

/-- Where Check's loop stands: the first j are right, and their homes are marked in the block b. -/
structure Chk (w wr : World) (b j : Nat) (F H N : Nat → Int) (sb : Nat → Bool) : Prop where
  bel : Below w.heap.size w wr
  new : w.heap.size ≤ b
  arr : Arr wr b 256 93 (fun s => .bool (sb s))
  right : RightP j F H N
  seen : ∀ s : Nat, s < 256 → (sb s = true ↔ seenP j H N s)

theorem Chk.below {w wr w' : World} {b j : Nat} {F H N : Nat → Int} {sb : Nat → Bool} (h : Chk w wr b j F H N sb) (hb : Below wr.heap.size wr w') : Chk w w' b j F H N sb :=
  ⟨h.bel.trans (hb.mono h.bel.size), h.new, h.arr.below hb, h.right, h.seen⟩
/-- An extent lies in a block of its own. -/
def X3 (w : World) (X : Nat) (f h n : Int) : Prop := w.cell? ⟨X, 0, none⟩ = some (.int .i64 f) ∧ w.cell? ⟨X, 1, none⟩ = some (.int .i64 h) ∧ w.cell? ⟨X, 2, none⟩ = some (.int .i64 n)
theorem X3.below {w w' : World} {X : Nat} {f h n : Int} (hx : X3 w X f h n) (hl : X < w.heap.size) (hb : Below w.heap.size w w') : X3 w' X f h n := by
  obtain ⟨h0, h1, h2⟩ := hx
  refine ⟨?_, ?_, ?_⟩
  · rw [hb.cell (p := ⟨X, 0, none⟩) hl]; exact h0
  · rw [hb.cell (p := ⟨X, 1, none⟩) hl]; exact h1
  · rw [hb.cell (p := ⟨X, 2, none⟩) hl]; exact h2
theorem X3.new (w : World) (f h n : Int) (t : TypeId) : X3 (w.alloc (.cells #[.int .i64 f, .int .i64 h, .int .i64 n] t)) w.heap.size f h n :=
  ⟨cell_of_row _ _ 0 _ _ (0, 0) (heap_alloc_new w _), cell_of_row _ _ 1 _ _ (0, 0) (heap_alloc_new w _), cell_of_row _ _ 2 _ _ (0, 0) (heap_alloc_new w _)⟩

set_option maxRecDepth 100000 in
set_option maxHeartbeats 1600000 in
theorem check_any (a : Option Addr) (n c L off : Nat) (F H N : Nat → Int) (w : World) (h : ExAt w L off a n c F H N) :
    Calls Try.prog 47 #[.slice a n c] w fun e w' => e = .returned (.int .i64 (chk n F H N)) ∧ Below w.heap.size w w' := by
  have HB := Lib.hid h
  have hn9 : n ≤ 9223372036854775807 := by have := h.1; have := h.2.1; omega
  clear h
  by_cases h40 : 40 < n
  · have HX : Hid (chk n F H N = 3) := chk_bad (fun h => by have := h.1; omega)
    go_enter Try.func47, Try.ntmps47
    go_wp2
    go_ret
    exact ⟨by rw [HX.out]; rfl, Below.refl _ _⟩
  · obtain ⟨Z, hZ⟩ : ∃ Z : Array Value, Hid (Z = Array.replicate 256 (.bool false)) := ⟨_, rfl⟩
    have hz : ∀ w, (zeroValue 93).run Try.prog w = .ok (.agg Z) w := fun w => by rw [hZ.out]; exact zeroSeen w
    have HC : Hid (Chk w (w.alloc (.cells Z 93)) w.heap.size 0 F H N (fun _ => false)) := by
      refine ⟨(Below.refl _ _).alloc (Nat.le_refl _) _, Nat.le_refl _, Arr.new w 256 _ Z _ (by rw [hZ.out]; simp) (fun i hi => by rw [hZ.out]; simp [hi]), RightP.zero F H N, fun s hs => ?_⟩
      constructor
      · intro h; cases h
      · rintro ⟨k, hk, _⟩; omega
    have HN40 : Hid (n ≤ 40) := by show n ≤ 40; omega
    go_enter Try.func47, Try.ntmps47
    go_wp2_with fail
    generalize (w.alloc (.cells Z 93)) = w1 at HC ⊢
    obtain ⟨b, hb⟩ : ∃ b, Hid (w.heap.size = b) := ⟨_, rfl⟩
    rw [hb.out] at HC ⊢
    clear hz hZ Z
    go_loopw [13] (fun i wr => ∃ j : Nat, j ≤ n ∧ i = .int .i64 j ∧ ∃ sb, Hid (Chk w wr b j F H N sb)) (fun i _ => n - (intOf i).toNat)
    case atStart => exact ⟨0, Nat.zero_le _, rfl, _, HC.out⟩
    case round =>
      obtain ⟨j, hj, rfl, sb, hc⟩ := hrel
      by_cases hlt : j < n
      · have HBr := Lib.hid (HB.out.below hc.out.bel)
        obtain ⟨ha, hcell⟩ := HB.out.2.2 (by omega)
        subst ha
        obtain ⟨c0, c1, c2⟩ := (HBr.out.2.2 (by omega)).2 j hlt
        have HCells := Lib.hid (HBr.out.2.2 (by omega)).2
        clear hcell
        obtain ⟨f, hf⟩ : ∃ f, Hid (F j = f) := ⟨_, rfl⟩
        obtain ⟨hh, hhh⟩ : ∃ hh, Hid (H j = hh) := ⟨_, rfl⟩
        obtain ⟨nn, hnn⟩ : ∃ nn, Hid (N j = nn) := ⟨_, rfl⟩
        rw [hf.out] at c0
        rw [hhh.out] at c1
        rw [hnn.out] at c2
        go_upto_block 1 with fail
        go_cut [] (fun wx => ∃ sb, Hid (Chk w wx b (j + 1) F H N sb))
        case first =>
          by_cases h1 : oneP f hh nn
          · have H1 : Hid (decide (oneP f hh nn) = true) := decide_eq_true h1
            have HO := Lib.hid h1
            clear h1
            go_upto_if 22 with (go_at_call 57; refine (one_any _ _ _ _).mono ?_; rintro e w2 ⟨rfl, hb2⟩; rw [H1.out]; have HB2 := Lib.hid hb2; clear hb2)
            have hal : Below wr.heap.size wr (wr.alloc (.cells #[.int .i64 f, .int .i64 hh, .int .i64 nn] 25)) := (Below.refl _ _).alloc (Nat.le_refl _) _
            have HB3 := Lib.hid (hal.trans (HB2.out.mono hal.size))
            have HX2 := Lib.hid ((X3.new wr f hh nn 25).below (by simp) HB2.out)
            have HC2 := Lib.hid (hc.out.below HB3.out)
            have HXb : Hid (wr.heap.size ≠ b) := by have := hc.out.arr.lt; show wr.heap.size ≠ b; omega
            have HXw : Hid (w.heap.size ≤ wr.heap.size) := hc.out.bel.size
            have HL2 := Lib.hid (HBr.out.below HB3.out)
            clear hal HB2 c0 c1 c2
            generalize wr.heap.size = X at HX2 HXb HXw HB3 ⊢
            go_cut [] (fun wx => Hid (Chk w wx b j F H N sb ∧ X3 wx X f hh nn ∧ ExAt wx L off (some ⟨L, off, none⟩) n c F H N ∧ ∀ i, i + 1 = j → F i + N i ≤ f ∧ ¬ (f = F i + N i ∧ hh = H i + N i)))
            case first =>
              cases j with
              | zero =>
                go_wp2
                go_meet
                exact ⟨HC2.out, HX2.out, HL2.out, fun i hi => by omega⟩
              | succ j =>
                obtain ⟨c0, c1, c2⟩ := (HL2.out.2.2 (by omega)).2 j (by omega)
                obtain ⟨x0, x1, x2⟩ := HX2.out
                have ho := hc.out.right.one j (by omega)
                have HRT : Hid (∀ i, i + 1 = j + 1 → i = j) := fun i hi => by omega
                obtain ⟨fp, hfp⟩ : ∃ fp, Hid (F j = fp) := ⟨_, rfl⟩
                obtain ⟨hp, hhp⟩ : ∃ hp, Hid (H j = hp) := ⟨_, rfl⟩
                obtain ⟨np, hnp⟩ : ∃ np, Hid (N j = np) := ⟨_, rfl⟩
                rw [hfp.out, hhp.out, hnp.out] at ho
                rw [hfp.out] at c0
                rw [hhp.out] at c1
                rw [hnp.out] at c2
                obtain ⟨o1, o2, o3, o4, o5, o6⟩ := ho
                have j1 : ((j + 1 : Nat) : Int) - 1 = (j : Int) := by omega
                have j2 : (j : Int) < (n : Int) := by omega
                have hXl := World.block_lt_of_cell? w2 _ x0
                have hal2 : Hid (Below w2.heap.size w2 (w2.alloc (.cells #[.int .i64 fp, .int .i64 hp, .int .i64 np] 25))) := (Below.refl _ _).alloc (Nat.le_refl _) _
                have HE : Hid (Below w.heap.size w (w2.alloc (.cells #[.int .i64 fp, .int .i64 hp, .int .i64 np] 25))) := HC2.out.bel.trans (hal2.out.mono HC2.out.bel.size)
                by_cases k1 : f < fp + np
                · have HX : Hid (chk n F H N = 3) := chk_bad (fun h => by have := (h.2.next j (by omega)).1; rw [hfp.out, hnp.out, hf.out] at this; omega)
                  have d1 : decide (f < fp + np) = true := decide_eq_true k1
                  clear k1
                  go_wp2
                  go_ret
                  exact ⟨by rw [HX.out]; rfl, HE.out⟩
                · have d1 : decide (f < fp + np) = false := decide_eq_false k1
                  by_cases k2 : f = fp + np
                  · by_cases k3 : hh = hp + np
                    · have HX : Hid (chk n F H N = 3) := chk_bad (fun h => by have := (h.2.next j (by omega)).2; rw [hfp.out, hnp.out, hf.out, hhp.out, hhh.out] at this; exact this ⟨k2, k3⟩)
                      have d2 : (f == fp + np) = true := beq_iff_eq.2 k2
                      have d3 : (hh == hp + np) = true := beq_iff_eq.2 k3
                      clear k1 k2 k3
                      go_wp2
                      go_ret
                      exact ⟨by rw [HX.out]; rfl, HE.out⟩
                    · have HNX : Hid (∀ i, i + 1 = j + 1 → F i + N i ≤ f ∧ ¬ (f = F i + N i ∧ hh = H i + N i)) := fun i hi => by
                        rw [HRT.out i hi, hfp.out, hnp.out, hhp.out]; exact ⟨by omega, fun h => k3 h.2⟩
                      have d2 : (f == fp + np) = true := beq_iff_eq.2 k2
                      have d3 : (hh == hp + np) = false := beq_eq_false_iff_ne.2 k3
                      clear k1 k2 k3
                      go_wp2
                      go_meet
                      exact ⟨HC2.out.below hal2.out, HX2.out.below hXl hal2.out, HL2.out.below hal2.out, HNX.out⟩
                  · have HNX : Hid (∀ i, i + 1 = j + 1 → F i + N i ≤ f ∧ ¬ (f = F i + N i ∧ hh = H i + N i)) := fun i hi => by
                      rw [HRT.out i hi, hfp.out, hnp.out, hhp.out]; exact ⟨by omega, fun h => k2 h.1⟩
                    have d2 : (f == fp + np) = false := beq_eq_false_iff_ne.2 k2
                    clear k1 k2
                    go_wp2
                    go_meet
                    exact ⟨HC2.out.below hal2.out, HX2.out.below hXl hal2.out, HL2.out.below hal2.out, HNX.out⟩
            case rest =>
              have HK := Lib.hid hcut.out
              clear hcut HX2 HC2 HL2 HB3 HCells HBr hc
              obtain ⟨q, rfl⟩ := Int.eq_ofNat_of_zero_le (show 0 ≤ nn by have := HO.out.1; omega)
              obtain ⟨p, rfl⟩ := Int.eq_ofNat_of_zero_le HO.out.2.2.2.2.1
              have hq40 : q ≤ 40 := by have := HO.out.2.1; omega
              have hpq : p + q ≤ 256 := by have := HO.out.2.2.2.2.2; omega
              obtain ⟨x0, x1, x2⟩ := HK.out.2.1
              go_upto_block 2 with fail
              clear x0 x1 x2
              · go_wp2_with fail
                go_loopw [58] (fun i wr => ∃ k : Nat, k ≤ q ∧ i = .int .i64 k ∧ ∃ sc : Nat → Bool, Hid (Below w.heap.size w wr ∧ Arr wr b 256 93 (fun s => .bool (sc s)) ∧ (∀ s : Nat, s < 256 → (sc s = true ↔ (seenP j H N s ∨ (p ≤ s ∧ s < p + k)))) ∧ (∀ s : Nat, p ≤ s → s < p + k → ¬ seenP j H N s) ∧ X3 wr X f p q)) (fun i _ => q - (intOf i).toNat)
                case atStart => exact ⟨0, Nat.zero_le _, rfl, sb, HK.out.1.bel, HK.out.1.arr, fun s hs => (HK.out.1.seen s hs).trans ⟨fun h => Or.inl h, fun h => h.elim id (fun h => by omega)⟩, fun s h1 h2 => by omega, HK.out.2.1⟩
                case round =>
                  obtain ⟨k, hk, rfl, sc, hr⟩ := hrel
                  obtain ⟨x0, x1, x2⟩ := hr.out.2.2.2.2
                  by_cases hkq : k < q
                  · have hcs := hr.out.2.1.cell (i := p + k) (by omega)
                    have hfz := hr.out.2.1.frozen (p + k)
                    have i0 : (0 : Int) ≤ (p : Int) + (k : Int) := by omega
                    have i1 : (p : Int) + (k : Int) < 256 := by omega
                    cases hsc : sc (p + k)
                    · have hcs' : wr.cell? ⟨b, p + k, none⟩ = some (.bool false) := by rw [hcs, hsc]
                      have HS := Lib.hid hsc
                      clear hcs hsc
                      go_wp2
                      go_roundw
                      case rel =>
                        refine ⟨k + 1, by omega, by go_num, fun s => if s = p + k then true else sc s, hr.out.1.setCell (by rw [hb.out]; exact Nat.le_refl _) _, ?_, fun s hs => ?_, fun s h1 h2 => ?_, ?_⟩
                        · have := hr.out.2.1.set (p + k) (by omega) (.bool true)
                          have e : (fun s => Value.bool (if s = p + k then true else sc s)) = (fun s => if s = p + k then Value.bool true else Value.bool (sc s)) := by funext s; split <;> rfl
                          rw [e]; exact this
                        · by_cases e : s = p + k
                          · simp [e]
                          · show (if s = p + k then true else sc s) = true ↔ _
                            rw [if_neg e, hr.out.2.2.1 s hs]
                            constructor
                            · rintro (h | h)
                              · exact Or.inl h
                              · exact Or.inr ⟨h.1, by omega⟩
                            · rintro (h | h)
                              · exact Or.inl h
                              · exact Or.inr ⟨h.1, by omega⟩
                        · by_cases e : s = p + k
                          · intro hse
                            have := (hr.out.2.2.1 (p + k) (by omega)).2 (Or.inl (by rw [← e]; exact hse))
                            rw [HS.out] at this; cases this
                          · exact hr.out.2.2.2.1 s h1 (by omega)
                        · obtain ⟨x0, x1, x2⟩ := hr.out.2.2.2.2
                          refine ⟨?_, ?_, ?_⟩
                          · rw [World.cell?_setCell_far _ _ _ _ (by simpa using HXb.out.symm)]; exact x0
                          · rw [World.cell?_setCell_far _ _ _ _ (by simpa using HXb.out.symm)]; exact x1
                          · rw [World.cell?_setCell_far _ _ _ _ (by simpa using HXb.out.symm)]; exact x2
                      case measure => simp [intOf]; omega
                    · have hcs' : wr.cell? ⟨b, p + k, none⟩ = some (.bool true) := by rw [hcs, hsc]
                      have hse : seenP j H N ((p + k : Nat) : Int) := by
                        rcases (hr.out.2.2.1 (p + k) (by omega)).1 hsc with h | h
                        · exact h
                        · omega
                      have HX : Hid (chk n F H N = 3) := chk_bad (fun h => not_apart (h.2.down (show j + 1 ≤ n by omega)) (by rw [hhh.out]; omega) (by rw [hhh.out, hnn.out]; omega) hse)
                      clear hcs hsc hse
                      go_wp2
                      go_ret
                      exact ⟨by rw [HX.out]; rfl, hr.out.1⟩
                  · have hkq' : k = q := by omega
                    have HE : Hid (Chk w wr b (j + 1) F H N sc) := by
                      subst hkq'
                      refine ⟨hr.out.1, HK.out.1.new, hr.out.2.1, ?_, fun s hs => ?_⟩
                      · refine HK.out.1.right.more (by rw [hf.out, hhh.out, hnn.out]; exact HO.out) (fun i hi => by rw [hf.out, hhh.out]; exact HK.out.2.2.2 i hi) (apart_of (by rw [hnn.out]; exact HO.out.1) (fun k hk => (HK.out.1.right.one k hk).1) (fun s h1 h2 => ?_))
                        rw [hhh.out] at h1
                        rw [hhh.out, hnn.out] at h2
                        obtain ⟨t, rfl⟩ := Int.eq_ofNat_of_zero_le (show 0 ≤ s by omega)
                        exact hr.out.2.2.2.1 t (by omega) (by omega)
                      · rw [hr.out.2.2.1 s hs, seen_more, hhh.out, hnn.out]
                        constructor
                        · rintro (h | h)
                          · exact Or.inl h
                          · exact Or.inr ⟨by omega, by omega⟩
                        · rintro (h | h)
                          · exact Or.inl h
                          · exact Or.inr ⟨by omega, by omega⟩
                    clear hkq'
                    go_wp2
                    go_meet
                    exact ⟨sc, HE.out⟩
          · have H1 : Hid (decide (oneP f hh nn) = false) := decide_eq_false h1
            have HX : Hid (chk n F H N = 3) := chk_bad (fun h => h1 (by have := h.2.one j hlt; rw [hf.out, hhh.out, hnn.out] at this; exact this))
            clear h1
            go_wp2_with (go_at_call 57; refine (one_any _ _ _ _).mono ?_; rintro e w2 ⟨rfl, hb2⟩; rw [H1.out]; have HB2 := Lib.hid hb2; clear hb2)
            go_ret
            refine ⟨by rw [HX.out]; rfl, hc.out.bel.trans ?_⟩
            have hs := hc.out.bel.size
            exact ((Below.refl _ _).alloc hs _).trans (HB2.out.mono (by simp; omega))
        case rest =>
          obtain ⟨sc, hc2⟩ := hcut
          have HCN := Lib.hid hc2.out
          clear hc2
          go_wp2
          go_roundw
          case rel => exact ⟨j + 1, by omega, by go_num, sc, HCN.out⟩
          case measure => simp [intOf]; omega
      · have hjn : j = n := by omega
        have HX : Hid (chk n F H N = 0) := chk_good ⟨HN40.out, by rw [← hjn]; exact hc.out.right⟩
        clear hjn
        go_wp2
        go_ret
        exact ⟨by rw [HX.out]; rfl, hc.out.bel⟩
end Go.Proofs.Ytebnekpccdcnmaa
