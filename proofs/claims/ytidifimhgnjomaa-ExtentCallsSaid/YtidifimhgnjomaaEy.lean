/- Walks of the reference of the layer extent: Put. -/
import Derived.Test.YtidifimhgnjomaaEx
namespace Go.Proofs.Ytidifimhgnjomaa
set_option linter.unusedVariables false
set_option linter.unusedSimpArgs false
open Go.RowKit

theorem IRow.kept {w w' : World} {base : Nat} {v : Value} {xs : List Int} {q : Option Nat} (h : IRow w base v xs) (hg : w.grownBy w' q) (hne : v.ownBlock = none ∨ v.ownBlock ≠ q) : IRow w' base v xs := World.ownsRow.kept h hg hne
theorem below_grown {w w' : World} (h : Below w.heap.size w w') : w.grownBy w' none := ⟨h.os, h.tape, h.output, h.size, fun k hk _ => h.block k hk⟩
theorem IRow.below {w w' : World} {base : Nat} {v : Value} {xs : List Int} (h : IRow w base v xs) (hb : Below w.heap.size w w') : IRow w' base v xs :=
  h.kept (below_grown hb) (by cases hv : v.ownBlock <;> simp)
/-- An append to a row of the call's own. -/
theorem IRow.more {w wr W w' : World} {v v' : Value} {xs : List Int} {x : Int} (h : IRow wr w.heap.size v xs) (hbel : Below w.heap.size w wr) (hw : Below wr.heap.size wr W)
    (ho : w'.ownsRow w.heap.size 3 1 v' (xs.length + 1) (xs.map (Value.int .i64) ++ [.int .i64 x])) (hg : W.grownBy w' v.ownBlock) : IRow w' w.heap.size v' (xs ++ [x]) ∧ Below w.heap.size w w' :=
  ⟨IRow.app ho, (hbel.trans (hw.mono hbel.size)).grown hg (Nat.le_trans hbel.size hw.size) (fun k hk => (h.lt k hk).1)⟩
/-- The homes of the first b blocks, as the reference lays them. -/
def hs (g : Nat → Int) (b : Nat) : List Int := (List.range b).map fun i => g i - 1
theorem hs_len (g : Nat → Int) (b : Nat) : (hs g b).length = b := by simp [hs]
theorem hs_succ (g : Nat → Int) (b : Nat) : hs g (b + 1) = hs g b ++ [g b - 1] := by simp [hs, List.range_succ]
theorem hs_in {w : World} {v : Value} {g : Nat → Int} (h : InL w v (hs g 40)) : ∃ a c L, v = .slice a 40 c ∧ InAt w L 0 a 40 c (fun i => g i - 1) := by
  obtain ⟨a, c, L, h1, h2, _⟩ := h
  rw [hs_len] at h1 h2
  refine ⟨a, c, L, h1, h2.1, h2.2.1, fun hn => ⟨(h2.2.2 hn).1, fun i hi => ?_⟩⟩
  rw [(h2.2.2 hn).2 i hi]
  show some (Value.int .i64 ((hs g 40).getD i 0)) = _
  have : (hs g 40)[i]? = some (g i - 1) := by simp [hs, hi]
  rw [List.getD_eq_getElem?_getD, this]
  rfl

set_option maxRecDepth 100000 in
set_option maxHeartbeats 1600000 in
theorem refPut_any (a : Option Addr) (n c L off : Nat) (F H N : Nat → Int) (b h : Int) (w : World) (hx : ExAt w L off a n c F H N) (hb9 : -9223372036854775808 ≤ b ∧ b ≤ 9223372036854775807) (hh9 : -9223372036854775808 ≤ h ∧ h ≤ 9223372036854775807) :
    Calls Try.prog 17 #[.slice a n c, .int .i64 b, .int .i64 h] w (PutPost w (putV n F H N b h)) := by
  obtain ⟨i0, hi, hz0, hz1, hz2⟩ := info_parts infoInt
  have HB := Lib.hid hx
  clear hx
  by_cases hr : Right n F H N
  · have HC : Hid (rgt n F H N = true) := rgt_good hr
    have HR := Lib.hid hr
    by_cases hb : (0 ≤ b ∧ b < 40) ∧ (0 ≤ h ∧ h < 256)
    · have HV : Hid (putV n F H N b h = if hm F H N n b ≠ 0 ∨ ∃ s : Nat, s < 40 ∧ hm F H N n s = h + 1 then ([], 17) else (bld (fun s => if (s : Int) = b then h + 1 else hm F H N n s) 40, 0)) := by
        show _ = _; unfold putV; rw [if_pos hr, if_pos hb]
      obtain ⟨⟨hb0, hb1⟩, hh0, hh1⟩ := hb
      have d0 : decide (b < 0) = false := decide_eq_false (by omega)
      have d1 : decide (40 ≤ b) = false := decide_eq_false (by omega)
      have d2 : decide (h < 0) = false := decide_eq_false (by omega)
      have d3 : decide (256 ≤ h) = false := decide_eq_false (by omega)
      clear hr
      go_enter Try.func17, Try.ntmps17
      go_wp2_with (go_at_call 14; refine (right_any _ _ _ _ _ _ _ _ _ HB.out).mono ?_; rintro e w1 ⟨rfl, hb⟩; rw [HC.out]; have HW1 := Lib.hid hb; clear hb)
      go_loopw [8, 9] (fun v i wr => ∃ k : Nat, k ≤ 40 ∧ i = .int .i64 k ∧ Hid (IRow wr w.heap.size v (hs (fun s => if (s : Int) = b then h + 1 else hm F H N n s) k) ∧ Below w.heap.size w wr) ∧ Hid (∀ s : Nat, s < k → hm F H N n s ≠ h + 1 ∧ ((s : Int) = b → hm F H N n s = 0))) (fun _ i _ => 40 - (intOf i).toNat)
      case atStart => exact ⟨0, by omega, rfl, ⟨IRow.nil _ _, HW1.out⟩, fun s hs => by omega⟩
      case round =>
        obtain ⟨k, hk, rfl, hd, hn⟩ := hrel
        by_cases hlt : k < 40
        · have hkb := hm_bd (k : Int) HR.out.2
          have HBr := Lib.hid (HB.out.below hd.out.2)
          obtain ⟨y, hy⟩ : ∃ y, Hid (hm F H N n k - 1 = y) := ⟨_, rfl⟩
          have hy0 : -1 ≤ y ∧ y < 256 := by have := hy.out; omega
          have hk0 : (0 : Int) ≤ (k : Int) := by omega
          have hk1 : (k : Int) < 40 := by omega
          clear hkb
          by_cases hA : y = h
          · have HX : Hid (putV n F H N b h = ([], 17)) := by
              show _ = _
              rw [HV.out, if_pos (Or.inr ⟨k, hlt, by have := hy.out; omega⟩)]
            have e1 : (y == h) = true := beq_iff_eq.2 hA
            clear hA
            go_wp2_with (go_at_call 16; refine (home_any _ _ _ _ _ _ _ _ _ _ HBr.out HR.out hk0 hk1).mono ?_; rintro e w2 ⟨rfl, hb⟩; rw [hy.out]; have HW2 := Lib.hid hb; clear hb)
            go_ret2
            exact ⟨_, by rw [HX.out]; rfl, by rw [HX.out]; exact ExL.nil _, hd.out.2.trans (HW2.out.mono hd.out.2.size)⟩
          · have e1 : (y == h) = false := beq_eq_false_iff_ne.2 hA
            by_cases hB : (k : Int) = b
            · by_cases hC : 0 ≤ y
              · have HX : Hid (putV n F H N b h = ([], 17)) := by
                  show _ = _
                  rw [HV.out, if_pos (Or.inl (by rw [← hB]; have := hy.out; omega))]
                have e2 : ((k : Int) == b) = true := beq_iff_eq.2 hB
                have e3 : decide (0 ≤ y) = true := decide_eq_true hC
                clear hA hB hC
                go_wp2_with (go_at_call 16; refine (home_any _ _ _ _ _ _ _ _ _ _ HBr.out HR.out hk0 hk1).mono ?_; rintro e w2 ⟨rfl, hb⟩; rw [hy.out]; have HW2 := Lib.hid hb; clear hb)
                go_ret2
                exact ⟨_, by rw [HX.out]; rfl, by rw [HX.out]; exact ExL.nil _, hd.out.2.trans (HW2.out.mono hd.out.2.size)⟩
              · have HN : Hid (∀ s : Nat, s < k + 1 → hm F H N n s ≠ h + 1 ∧ ((s : Int) = b → hm F H N n s = 0)) := fun s hs => by
                  by_cases e : s = k
                  · subst e; have := hy.out; exact ⟨by omega, fun _ => by omega⟩
                  · exact hn.out s (by omega)
                have HE : Hid (hs (fun s => if (s : Int) = b then h + 1 else hm F H N n s) (k + 1) = hs (fun s => if (s : Int) = b then h + 1 else hm F H N n s) k ++ [h]) := by
                  show _ = _
                  rw [hs_succ, if_pos hB]
                  congr 2
                  omega
                have e2 : ((k : Int) == b) = true := beq_iff_eq.2 hB
                have e3 : decide (0 ≤ y) = false := decide_eq_false hC
                clear hA hB hC
                go_wp2_with (first
                  | (go_at_call 16; refine (home_any _ _ _ _ _ _ _ _ _ _ HBr.out HR.out hk0 hk1).mono ?_; rintro e w2 ⟨rfl, hb⟩; rw [hy.out]; have HW2 := Lib.hid hb; clear hb)
                  | (at_builtin; refine wpList_append_own _ rfl (.tmp 51) (.tmp 53) 22 rfl w.heap.size 3 i0 (.int .i64 0) 1 8 Try.underlying22 hi hz0 hz1 hz2 rfl (by decide) _ _ _ rfl ((hd.out.1.below HW2.out).alloc _) ⟨w2.heap.size, 0, none⟩ 1 1 [.int .i64 h] rfl rfl (cell_one_new _ _ _) (ints_oneCell .i64 [h]) ?c3 ?c4 ?c5 ?_))
                case c3 => rw [hs_len]; unfold maxLen; omega
                case c4 => rw [hs_len]; omega
                case c5 => have := hd.out.2.size; have := HW2.out.size; simp; omega
                intro v3 w4 hown3 hgrow3 _
                have HT := Lib.hid (hd.out.1.more hd.out.2 (HW2.out.alloc HW2.out.size _) hown3 hgrow3)
                clear hown3 hgrow3
                go_wp2
                go_roundw
                case rel => exact ⟨k + 1, by omega, by go_num, by rw [HE.out]; exact HT, HN⟩
                case measure => simp [intOf]; omega
            · have HN : Hid (∀ s : Nat, s < k + 1 → hm F H N n s ≠ h + 1 ∧ ((s : Int) = b → hm F H N n s = 0)) := fun s hs => by
                by_cases e : s = k
                · subst e; have := hy.out; exact ⟨by omega, fun h => absurd h hB⟩
                · exact hn.out s (by omega)
              have HE : Hid (hs (fun s => if (s : Int) = b then h + 1 else hm F H N n s) (k + 1) = hs (fun s => if (s : Int) = b then h + 1 else hm F H N n s) k ++ [y]) := by
                show _ = _
                rw [hs_succ, if_neg hB, hy.out]
              have e2 : ((k : Int) == b) = false := beq_eq_false_iff_ne.2 hB
              clear hA hB
              go_wp2_with (first
                | (go_at_call 16; refine (home_any _ _ _ _ _ _ _ _ _ _ HBr.out HR.out hk0 hk1).mono ?_; rintro e w2 ⟨rfl, hb⟩; rw [hy.out]; have HW2 := Lib.hid hb; clear hb)
                | (at_builtin; refine wpList_append_own _ rfl (.tmp 51) (.tmp 53) 22 rfl w.heap.size 3 i0 (.int .i64 0) 1 8 Try.underlying22 hi hz0 hz1 hz2 rfl (by decide) _ _ _ rfl ((hd.out.1.below HW2.out).alloc _) ⟨w2.heap.size, 0, none⟩ 1 1 [.int .i64 y] rfl rfl (cell_one_new _ _ _) (ints_oneCell .i64 [y]) ?c3 ?c4 ?c5 ?_))
              case c3 => rw [hs_len]; unfold maxLen; omega
              case c4 => rw [hs_len]; omega
              case c5 => have := hd.out.2.size; have := HW2.out.size; simp; omega
              intro v3 w4 hown3 hgrow3 _
              have HT := Lib.hid (hd.out.1.more hd.out.2 (HW2.out.alloc HW2.out.size _) hown3 hgrow3)
              clear hown3 hgrow3
              go_wp2
              go_roundw
              case rel => exact ⟨k + 1, by omega, by go_num, by rw [HE.out]; exact HT, HN⟩
              case measure => simp [intOf]; omega
        · obtain rfl : k = 40 := by omega
          have HX : Hid (putV n F H N b h = (bld (fun s => if (s : Int) = b then h + 1 else hm F H N n s) 40, 0)) := by
            show _ = _
            rw [HV.out, if_neg]
            rintro (h1 | ⟨s, h1, h2⟩)
            · obtain ⟨p, hp⟩ := Int.eq_ofNat_of_zero_le hb0
              rw [hp] at h1
              exact h1 ((hn.out p (by omega)).2 hp.symm)
            · exact (hn.out s h1).1 h2
          obtain ⟨a5, c5, L5, rfl, hin⟩ := hs_in hd.out.1.inl
          have HIN := Lib.hid hin
          have HL : Hid (∀ s : Nat, 0 ≤ (if (s : Int) = b then h + 1 else hm F H N n s)) := fun s => by
            have := hm_bd (s : Int) HR.out.2
            split <;> omega
          have HU : Hid (∀ s : Nat, (if (s : Int) = b then h + 1 else hm F H N n s) ≤ 256) := fun s => by
            have := hm_bd (s : Int) HR.out.2
            split <;> omega
          clear hin
          go_wp2_with (go_at_call 24; refine (build_any _ _ _ _ (fun s => if (s : Int) = b then h + 1 else hm F H N n s) _ HIN.out HL.out HU.out).mono ?_; rintro e w6 ⟨v, rfl, hv, hb⟩; have HV6 := Lib.hid hv; have HB6 := Lib.hid hb; clear hv hb)
          go_ret2
          exact ⟨v, by rw [HX.out]; rfl, by rw [HX.out]; exact HV6.out, hd.out.2.trans (HB6.out.mono hd.out.2.size)⟩
    · have HV : Hid (putV n F H N b h = ([], 2)) := by show _ = _; unfold putV; rw [if_pos hr, if_neg hb]
      have HBn := Lib.hid hb
      clear hr hb
      go_enter Try.func17, Try.ntmps17
      go_wp2_with (go_at_call 14; refine (right_any _ _ _ _ _ _ _ _ _ HB.out).mono ?_; rintro e w1 ⟨rfl, hb⟩; rw [HC.out]; have HW1 := Lib.hid hb; clear hb)
      all_goals first
        | (go_ret2; exact ⟨_, by rw [HV.out]; rfl, by rw [HV.out]; exact ExL.nil _, HW1.out⟩)
        | (exfalso; apply HBn.out; omega)
  · have HC : Hid (rgt n F H N = false) := rgt_bad hr
    have HV : Hid (putV n F H N b h = ([], 3)) := by show _ = _; unfold putV; rw [if_neg hr]
    clear hr
    go_enter Try.func17, Try.ntmps17
    go_wp2_with (go_at_call 14; refine (right_any _ _ _ _ _ _ _ _ _ HB.out).mono ?_; rintro e w1 ⟨rfl, hb⟩; rw [HC.out]; have HW1 := Lib.hid hb; clear hb)
    go_ret2
    exact ⟨_, by rw [HV.out]; rfl, by rw [HV.out]; exact ExL.nil _, HW1.out⟩
end Go.Proofs.Ytidifimhgnjomaa
