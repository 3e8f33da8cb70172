/- Walks of the reference of the layer extent: Drop. -/
import Derived.Test.YtidifimhgnjomaaEy
namespace Go.Proofs.Ytidifimhgnjomaa
set_option linter.unusedVariables false
set_option linter.unusedSimpArgs false
open Go.RowKit

/-- Two slices that share no block. -/
def apart (u v : Value) : Prop := ∀ q, u.ownBlock = some q → v.ownBlock ≠ some q
theorem apart.symm {u v : Value} (h : apart u v) : apart v u := fun q h1 h2 => h q h2 h1
theorem IRow.two {w wr W w' : World} {u v v' : Value} {xs ys : List Int} {x : Int} (h9 : IRow wr w.heap.size u xs) (h10 : IRow wr w.heap.size v ys) (ap : apart u v) (hbel : Below w.heap.size w wr) (hw : Below wr.heap.size wr W)
    (ho : w'.ownsRow w.heap.size 3 1 v' (ys.length + 1) (ys.map (Value.int .i64) ++ [.int .i64 x])) (hg : W.grownBy w' v.ownBlock) (hat : v'.ownBlock = v.ownBlock ∨ v'.ownBlock = some W.heap.size) :
    IRow w' w.heap.size u xs ∧ IRow w' w.heap.size v' (ys ++ [x]) ∧ apart u v' ∧ Below w.heap.size w w' := by
  refine ⟨(h9.below hw).kept hg ?_, (h10.more hbel hw ho hg).1, fun q hq => ?_, (h10.more hbel hw ho hg).2⟩
  · cases hu : u.ownBlock with
    | none => exact Or.inl rfl
    | some q => exact Or.inr (fun e => ap q hu e.symm)
  · have h1 := (h9.lt q hq).2
    have h2 := hw.size
    rcases hat with h | h <;> rw [h]
    · exact ap q hq
    · intro e; injection e with e; omega

/-- Where the reference's loop stands. -/
structure RDrop (w : World) (g g' : Nat → Int) (f t : Int) (k : Nat) (u v : Value) (wr : World) : Prop where
  homes : IRow wr w.heap.size u (hs g' k)
  gone : IRow wr w.heap.size v (gone g f t k)
  ap : apart u v
  bel : Below w.heap.size w wr
theorem RDrop.below {w : World} {g g' : Nat → Int} {f t : Int} {k : Nat} {u v : Value} {wr w2 : World} (h : RDrop w g g' f t k u v wr) (hb : Below wr.heap.size wr w2) : RDrop w g g' f t k u v w2 :=
  ⟨h.homes.below hb, h.gone.below hb, h.ap, h.bel.trans (hb.mono h.bel.size)⟩
theorem gone_out {g : Nat → Int} {f t : Int} {b : Nat} (h : ¬ (f ≤ (b : Int) ∧ (b : Int) < t)) : gone g f t (b + 1) = gone g f t b := by rw [Go.Proofs.Ytidifimhgnjomaa.gone, if_neg (fun hc => h hc.1)]

set_option maxRecDepth 100000 in
set_option maxHeartbeats 1600000 in
theorem refDrop_any (a : Option Addr) (n c L off : Nat) (F H N : Nat → Int) (f t : Int) (w : World) (hx : ExAt w L off a n c F H N) (hf9 : -9223372036854775808 ≤ f ∧ f ≤ 9223372036854775807) (ht9 : -9223372036854775808 ≤ t ∧ t ≤ 9223372036854775807) :
    Calls Try.prog 18 #[.slice a n c, .int .i64 f, .int .i64 t] w (DropPost w (dropV n F H N f t)) := by
  obtain ⟨i0, hi, hz0, hz1, hz2⟩ := info_parts infoInt
  have HB := Lib.hid hx
  clear hx
  by_cases hr : Right n F H N
  · have HC : Hid (rgt n F H N = true) := rgt_good hr
    have HR := Lib.hid hr
    by_cases hb : 0 ≤ f ∧ f ≤ t
    · have HV : Hid (dropV n F H N f t = (bld (fun s => if f ≤ (s : Int) ∧ (s : Int) < t then 0 else hm F H N n s) 40, gone (fun s => hm F H N n s) f t 40, 0)) := by
        show _ = _; unfold dropV; rw [if_pos hr, if_pos hb]
      obtain ⟨hb0, hb1⟩ := hb
      have d0 : decide (f < 0) = false := decide_eq_false (by omega)
      have d1 : decide (t < f) = false := decide_eq_false (by omega)
      clear hr
      obtain ⟨g, hg⟩ : ∃ g : Nat → Int, Hid (g = fun (s : Nat) => hm F H N n s) := ⟨_, rfl⟩
      obtain ⟨g', hg'⟩ : ∃ g' : Nat → Int, Hid (g' = fun (s : Nat) => if f ≤ (s : Int) ∧ (s : Int) < t then 0 else hm F H N n s) := ⟨_, rfl⟩
      go_enter Try.func18, Try.ntmps18
      go_wp2_with (go_at_call 14; refine (right_any _ _ _ _ _ _ _ _ _ HB.out).mono ?_; rintro e w1 ⟨rfl, hb⟩; rw [HC.out]; have HW1 := Lib.hid hb; clear hb)
      go_loopw [9, 10, 11] (fun u v i wr => ∃ k : Nat, k ≤ 40 ∧ i = .int .i64 k ∧ Hid (RDrop w g g' f t k u v wr)) (fun _ _ i _ => 40 - (intOf i).toNat)
      case atStart => exact ⟨0, by omega, rfl, IRow.nil _ _, IRow.nil _ _, fun q hq => by simp [Value.ownBlock] at hq, HW1.out⟩
      case round =>
        obtain ⟨k, hk, rfl, hd⟩ := hrel
        by_cases hlt : k < 40
        · have hkb := hm_bd (k : Int) HR.out.2
          have HBr := Lib.hid (HB.out.below hd.out.bel)
          obtain ⟨y, hy⟩ : ∃ y, Hid (hm F H N n k - 1 = y) := ⟨_, rfl⟩
          have hy0 : -1 ≤ y ∧ y < 256 := by have := hy.out; omega
          have hk0 : (0 : Int) ≤ (k : Int) := by omega
          have hk1 : (k : Int) < 40 := by omega
          have HGk : Hid (g k = hm F H N n k) := by show _ = _; rw [hg.out]
          have HGl : Hid ((gone g f t k).length ≤ k) := gone_len g f t k
          clear hkb
          by_cases hin : f ≤ (k : Int) ∧ (k : Int) < t
          · have e1 : decide (f ≤ (k : Int)) = true := decide_eq_true hin.1
            have e2 : decide ((k : Int) < t) = true := decide_eq_true hin.2
            have HE : Hid (hs g' (k + 1) = hs g' k ++ [-1]) := by
              show _ = _
              have e : g' k = 0 := by rw [hg'.out]; exact if_pos hin
              rw [hs_succ, e]; rfl
            by_cases hC : 0 ≤ y
            · have e3 : decide (0 ≤ y) = true := decide_eq_true hC
              have HGO : Hid (gone g f t (k + 1) = gone g f t k ++ [y]) := by
                show _ = _
                have := hy.out
                have hgk := HGk.out
                rw [gone_take hin.1 hin.2 (by omega)]
                congr 2
                omega
              clear hin hC
              go_wp2_with (first
                | (go_at_call 16; refine (home_any _ _ _ _ _ _ _ _ _ _ HBr.out HR.out hk0 hk1).mono ?_; rintro e w2 ⟨rfl, hb⟩; rw [hy.out]; have HD2 := Lib.hid (hd.out.below hb); clear hb)
                | (at_builtin; refine wpList_append_own_at _ rfl (.tmp 40) (.tmp 42) 22 rfl w.heap.size 3 i0 (.int .i64 0) 1 8 Try.underlying22 hi hz0 hz1 hz2 rfl (by decide) _ _ _ rfl (HD2.out.gone.alloc _) ⟨w2.heap.size, 0, none⟩ 1 1 [.int .i64 y] rfl rfl (cell_one_new _ _ _) (ints_oneCell .i64 [y]) ?c3 ?c4 ?c5 ?_))
              case c3 => have := HGl.out; unfold maxLen; omega
              case c4 => have := HGl.out; omega
              case c5 => have := HD2.out.bel.size; simp; omega
              intro v3 w4 hown3 hgrow3 _ hat3
              have HT := Lib.hid (IRow.two HD2.out.homes HD2.out.gone HD2.out.ap HD2.out.bel ((Below.refl _ _).alloc (Nat.le_refl _) _) hown3 hgrow3 (by simpa using hat3))
              clear hown3 hgrow3 hat3
              go_wp2_with (at_builtin; refine wpList_append_own_at _ rfl (.tmp 44) (.tmp 46) 22 rfl w.heap.size 3 i0 (.int .i64 0) 1 8 Try.underlying22 hi hz0 hz1 hz2 rfl (by decide) _ _ _ rfl (HT.out.1.alloc _) ⟨w4.heap.size, 0, none⟩ 1 1 [.int .i64 (-1)] rfl rfl (cell_one_new _ _ _) (ints_oneCell .i64 [-1]) ?c6 ?c7 ?c8 ?_)
              case c6 => rw [hs_len]; unfold maxLen; omega
              case c7 => rw [hs_len]; omega
              case c8 => have := HT.out.2.2.2.size; simp; omega
              intro v5 w5 hown5 hgrow5 _ hat5
              have HT5 := Lib.hid (IRow.two HT.out.2.1 HT.out.1 HT.out.2.2.1.symm HT.out.2.2.2 ((Below.refl _ _).alloc (Nat.le_refl _) _) hown5 hgrow5 (by simpa using hat5))
              clear hown5 hgrow5 hat5
              go_wp2
              go_roundw
              case rel => exact ⟨k + 1, by omega, by go_num, by rw [HE.out]; exact HT5.out.2.1, by rw [HGO.out]; exact HT5.out.1, HT5.out.2.2.1.symm, HT5.out.2.2.2⟩
              case measure => simp [intOf]; omega
            · have e3 : decide (0 ≤ y) = false := decide_eq_false hC
              have HGO : Hid (gone g f t (k + 1) = gone g f t k) := by
                show _ = _
                have := hy.out
                have hgk := HGk.out
                exact gone_skip (by omega)
              clear hin hC
              go_wp2_with (first
                | (go_at_call 16; refine (home_any _ _ _ _ _ _ _ _ _ _ HBr.out HR.out hk0 hk1).mono ?_; rintro e w2 ⟨rfl, hb⟩; rw [hy.out]; have HD2 := Lib.hid (hd.out.below hb); clear hb)
                | (at_builtin; refine wpList_append_own_at _ rfl (.tmp 44) (.tmp 46) 22 rfl w.heap.size 3 i0 (.int .i64 0) 1 8 Try.underlying22 hi hz0 hz1 hz2 rfl (by decide) _ _ _ rfl (HD2.out.homes.alloc _) ⟨w2.heap.size, 0, none⟩ 1 1 [.int .i64 (-1)] rfl rfl (cell_one_new _ _ _) (ints_oneCell .i64 [-1]) ?c6 ?c7 ?c8 ?_))
              case c6 => rw [hs_len]; unfold maxLen; omega
              case c7 => rw [hs_len]; omega
              case c8 => have := HD2.out.bel.size; simp; omega
              intro v5 w5 hown5 hgrow5 _ hat5
              have HT5 := Lib.hid (IRow.two HD2.out.gone HD2.out.homes HD2.out.ap.symm HD2.out.bel ((Below.refl _ _).alloc (Nat.le_refl _) _) hown5 hgrow5 (by simpa using hat5))
              clear hown5 hgrow5 hat5
              go_wp2
              go_roundw
              case rel => exact ⟨k + 1, by omega, by go_num, by rw [HE.out]; exact HT5.out.2.1, by rw [HGO.out]; exact HT5.out.1, HT5.out.2.2.1.symm, HT5.out.2.2.2⟩
              case measure => simp [intOf]; omega
          · have HE : Hid (hs g' (k + 1) = hs g' k ++ [y]) := by
              show _ = _
              have e : g' k = hm F H N n k := by rw [hg'.out]; exact if_neg hin
              rw [hs_succ, e, hy.out]
            have HGO : Hid (gone g f t (k + 1) = gone g f t k) := gone_out hin
            rcases (show decide (f ≤ (k : Int)) = false ∨ (decide (f ≤ (k : Int)) = true ∧ decide ((k : Int) < t) = false) by
              by_cases q : f ≤ (k : Int)
              · exact Or.inr ⟨decide_eq_true q, decide_eq_false (fun q2 => hin ⟨q, q2⟩)⟩
              · exact Or.inl (decide_eq_false q)) with e1 | ⟨e1, e2⟩
            · clear hin
              go_wp2_with (first
                | (go_at_call 16; refine (home_any _ _ _ _ _ _ _ _ _ _ HBr.out HR.out hk0 hk1).mono ?_; rintro e w2 ⟨rfl, hb⟩; rw [hy.out]; have HD2 := Lib.hid (hd.out.below hb); clear hb)
                | (at_builtin; refine wpList_append_own_at _ rfl (.tmp 44) (.tmp 46) 22 rfl w.heap.size 3 i0 (.int .i64 0) 1 8 Try.underlying22 hi hz0 hz1 hz2 rfl (by decide) _ _ _ rfl (HD2.out.homes.alloc _) ⟨w2.heap.size, 0, none⟩ 1 1 [.int .i64 y] rfl rfl (cell_one_new _ _ _) (ints_oneCell .i64 [y]) ?c6 ?c7 ?c8 ?_))
              case c6 => rw [hs_len]; unfold maxLen; omega
              case c7 => rw [hs_len]; omega
              case c8 => have := HD2.out.bel.size; simp; omega
              intro v5 w5 hown5 hgrow5 _ hat5
              have HT5 := Lib.hid (IRow.two HD2.out.gone HD2.out.homes HD2.out.ap.symm HD2.out.bel ((Below.refl _ _).alloc (Nat.le_refl _) _) hown5 hgrow5 (by simpa using hat5))
              clear hown5 hgrow5 hat5
              go_wp2
              go_roundw
              case rel => exact ⟨k + 1, by omega, by go_num, by rw [HE.out]; exact HT5.out.2.1, by rw [HGO.out]; exact HT5.out.1, HT5.out.2.2.1.symm, HT5.out.2.2.2⟩
              case measure => simp [intOf]; omega
            · clear hin
              go_wp2_with (first
                | (go_at_call 16; refine (home_any _ _ _ _ _ _ _ _ _ _ HBr.out HR.out hk0 hk1).mono ?_; rintro e w2 ⟨rfl, hb⟩; rw [hy.out]; have HD2 := Lib.hid (hd.out.below hb); clear hb)
                | (at_builtin; refine wpList_append_own_at _ rfl (.tmp 44) (.tmp 46) 22 rfl w.heap.size 3 i0 (.int .i64 0) 1 8 Try.underlying22 hi hz0 hz1 hz2 rfl (by decide) _ _ _ rfl (HD2.out.homes.alloc _) ⟨w2.heap.size, 0, none⟩ 1 1 [.int .i64 y] rfl rfl (cell_one_new _ _ _) (ints_oneCell .i64 [y]) ?c6 ?c7 ?c8 ?_))
              case c6 => rw [hs_len]; unfold maxLen; omega
              case c7 => rw [hs_len]; omega
              case c8 => have := HD2.out.bel.size; simp; omega
              intro v5 w5 hown5 hgrow5 _ hat5
              have HT5 := Lib.hid (IRow.two HD2.out.gone HD2.out.homes HD2.out.ap.symm HD2.out.bel ((Below.refl _ _).alloc (Nat.le_refl _) _) hown5 hgrow5 (by simpa using hat5))
              clear hown5 hgrow5 hat5
              go_wp2
              go_roundw
              case rel => exact ⟨k + 1, by omega, by go_num, by rw [HE.out]; exact HT5.out.2.1, by rw [HGO.out]; exact HT5.out.1, HT5.out.2.2.1.symm, HT5.out.2.2.2⟩
              case measure => simp [intOf]; omega
        · obtain rfl : k = 40 := by omega
          obtain ⟨a5, c5, L5, rfl, hin⟩ := hs_in hd.out.homes.inl
          have HIN := Lib.hid hin
          have HL : Hid (∀ s : Nat, 0 ≤ g' s) := fun s => by
            have := hm_bd (s : Int) HR.out.2
            rw [hg'.out]
            show 0 ≤ if f ≤ (s : Int) ∧ (s : Int) < t then 0 else hm F H N n s
            split <;> omega
          have HU : Hid (∀ s : Nat, g' s ≤ 256) := fun s => by
            have := hm_bd (s : Int) HR.out.2
            rw [hg'.out]
            show (if f ≤ (s : Int) ∧ (s : Int) < t then 0 else hm F H N n s) ≤ 256
            split <;> omega
          clear hin
          go_wp2_with (go_at_call 24; refine (build_any _ _ _ _ g' _ HIN.out HL.out HU.out).mono ?_; rintro e w6 ⟨v, rfl, hv, hb⟩; have HV6 := Lib.hid hv; have HB6 := Lib.hid hb; clear hv hb)
          go_ret3
          refine ⟨v, _, by rw [HV.out]; rfl, ?_, ?_, hd.out.bel.trans (HB6.out.mono hd.out.bel.size)⟩
          · have h := HV6.out
            rw [hg'.out] at h
            rw [HV.out]; exact h
          · have h := hd.out.gone.inl.below HB6.out
            rw [hg.out] at h
            rw [HV.out]; exact h
    · have HV : Hid (dropV n F H N f t = ([], [], 2)) := by show _ = _; unfold dropV; rw [if_pos hr, if_neg hb]
      have HBn := Lib.hid hb
      clear hr hb
      go_enter Try.func18, Try.ntmps18
      go_wp2_with (go_at_call 14; refine (right_any _ _ _ _ _ _ _ _ _ HB.out).mono ?_; rintro e w1 ⟨rfl, hb⟩; rw [HC.out]; have HW1 := Lib.hid hb; clear hb)
      all_goals first
        | (go_ret3; exact ⟨_, _, by rw [HV.out]; rfl, by rw [HV.out]; exact ExL.nil _, by rw [HV.out]; exact InL.nil _, HW1.out⟩)
        | (exfalso; apply HBn.out; omega)
  · have HC : Hid (rgt n F H N = false) := rgt_bad hr
    have HV : Hid (dropV n F H N f t = ([], [], 3)) := by show _ = _; unfold dropV; rw [if_neg hr]
    clear hr
    go_enter Try.func18, Try.ntmps18
    go_wp2_with (go_at_call 14; refine (right_any _ _ _ _ _ _ _ _ _ HB.out).mono ?_; rintro e w1 ⟨rfl, hb⟩; rw [HC.out]; have HW1 := Lib.hid hb; clear hb)
    go_ret3
    exact ⟨_, _, by rw [HV.out]; rfl, by rw [HV.out]; exact ExL.nil _, by rw [HV.out]; exact InL.nil _, HW1.out⟩
end Go.Proofs.Ytidifimhgnjomaa
