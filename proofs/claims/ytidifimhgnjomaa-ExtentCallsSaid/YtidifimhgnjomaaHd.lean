/- The layer extent: ExtentCalls. -/
import Derived.Test.YtidifimhgnjomaaHc
namespace Go.Proofs.Ytidifimhgnjomaa
set_option linter.unusedVariables false
set_option linter.unusedSimpArgs false
open Go.ChangeShapes Go.WideShapes Go.ChangeAt Go.RowKit

/-- Where the walk stands: the copy and the list lie as they lay. -/
structure Two (w wr : World) (M cm L off : Nat) (a : Option Addr) (n c : Nat) (F H N : Nat → Int) : Prop where
  mine : ExAt wr M 0 (some ⟨M, 0, none⟩) n cm F H N
  list : ExAt wr L off a n c F H N
  bel : Below w.heap.size w wr
theorem Two.below {w wr w' : World} {M cm L off : Nat} {a : Option Addr} {n c : Nat} {F H N : Nat → Int} (h : Two w wr M cm L off a n c F H N) (hb : Below wr.heap.size wr w') : Two w w' M cm L off a n c F H N :=
  ⟨h.mine.below hb, h.list.below hb, h.bel.trans (hb.mono h.bel.size)⟩

set_option maxRecDepth 100000 in
set_option maxHeartbeats 1600000 in
/-- ExtentCalls -/
theorem calls_walk (a : Option Addr) (n c L off : Nat) (F H N : Nat → Int) (x y : Int) (w : World) (h : ExAt w L off a n c F H N) (hc : a = none → c = 0) (hlen : n * 24 ≤ 140737488351232) (hx9 : -9223372036854775808 ≤ x ∧ x ≤ 9223372036854775807) (hy9 : -9223372036854775808 ≤ y ∧ y ≤ 9223372036854775807) :
    Calls Try.prog 4 #[.slice a n c, .int .i64 x, .int .i64 y] w fun e w' => e = .returned (.bool true) ∧ Below w.heap.size w w' := by
  obtain ⟨M, cm, w1, hr1, hm1, hw1⟩ := copy_exts w a n c L off F H N h hc hlen
  have HR1 := Lib.hid hr1
  have HT1 : Hid (Two w w1 M cm L off a n c F H N) := ⟨hm1, h.below hw1, hw1⟩
  clear h hc hr1 hm1 hw1 hlen
  obtain ⟨K, hK⟩ : ∃ K, Hid (cntE n F H N = K) := ⟨_, rfl⟩
  obtain ⟨r, hr⟩ : ∃ r, Hid (rgt n F H N = r) := ⟨_, rfl⟩
  obtain ⟨k, hk⟩ : ∃ k, Hid (chk n F H N = k) := ⟨_, rfl⟩
  have hrk : (r = true ∧ k = 0 ∧ Hid (Right n F H N)) ∨ (r = false ∧ k = 3 ∧ Hid (¬ Right n F H N)) := by
    by_cases e : Right n F H N
    · left; exact ⟨by rw [← hr.out, rgt_good e], by rw [← hk.out, chk_good e], e⟩
    · right; exact ⟨by rw [← hr.out, rgt_bad e], by rw [← hk.out, chk_bad e], e⟩
  obtain ⟨fv, fe, hf⟩ : ∃ fv fe, Hid (findV n F H N x = (fv, fe)) := ⟨_, _, rfl⟩
  obtain ⟨pv, pe, hp⟩ : ∃ pv pe, Hid (putV n F H N x y = (pv, pe)) := ⟨_, _, rfl⟩
  obtain ⟨dv, dg, de, hd⟩ : ∃ dv dg de, Hid (dropV n F H N x y = (dv, dg, de)) := ⟨_, _, _, rfl⟩
  go_enter Try.func4, Try.ntmps4
  go_upto_region 2 with (at_builtin; refine wpList_append_run _ rfl _ _ _ _ rfl _ _ rfl rfl HR1.out ?_)
  clear HR1
  go_upto_region 3 with (go_at_call 14; refine (right_any _ _ _ _ _ _ _ _ _ HT1.out.list).mono ?_; rintro e w2 ⟨rfl, hb⟩; rw [hr.out]; have HT2 := Lib.hid (HT1.out.below hb); clear hb)
  go_cut [52] (fun v wx => v = .bool false ∧ Hid (Two w wx M cm L off a n c F H N))
  case first =>
    rcases hrk with ⟨rfl, rfl, HR⟩ | ⟨rfl, rfl, HR⟩
    · go_wp2_with (first
        | (go_at_call 6; refine (fixed_any _).mono ?_; rintro e w3 ⟨rfl, hb⟩; have HT3 := Lib.hid (HT2.out.below hb); clear hb)
        | (go_at_call 11; refine (check_any _ _ _ _ _ _ _ _ _ HT3.out.mine).mono ?_; rintro e w4 ⟨rfl, hb⟩; rw [hk.out]; have HT4 := Lib.hid (HT3.out.below hb); clear hb)
        | (go_at_call 10; refine (countE_any _ _ _ _ _ _ _ _ _ HT4.out.mine).mono ?_; rintro e w5 ⟨rfl, hb⟩; rw [hK.out]; have HT5 := Lib.hid (HT4.out.below hb); clear hb)
        | (go_at_call 15; refine (refCount_any _ _ _ _ _ _ _ _ _ HT5.out.list).mono ?_; rintro e w6 ⟨rfl, hb⟩; rw [hK.out]; have HT6 := Lib.hid (HT5.out.below hb); clear hb))
      go_meet
      exact ⟨rfl, HT6.out⟩
    · go_wp2_with (first
        | (go_at_call 6; refine (fixed_any _).mono ?_; rintro e w3 ⟨rfl, hb⟩; have HT3 := Lib.hid (HT2.out.below hb); clear hb)
        | (go_at_call 11; refine (check_any _ _ _ _ _ _ _ _ _ (by first | exact HT4.out.mine | exact HT3.out.mine)).mono ?_; rintro e w4 ⟨rfl, hb⟩; rw [hk.out]; first | (have HT4b := Lib.hid (HT4.out.below hb)) | (have HT4 := Lib.hid (HT3.out.below hb)); clear hb)
        | (go_at_call 10; refine (countE_any _ _ _ _ _ _ _ _ _ HT4b.out.mine).mono ?_; rintro e w5 ⟨rfl, hb⟩; rw [hK.out]; have HT5 := Lib.hid (HT4b.out.below hb); clear hb)
        | (go_at_call 15; refine (refCount_any _ _ _ _ _ _ _ _ _ HT5.out.list).mono ?_; rintro e w6 ⟨rfl, hb⟩; rw [hK.out]; have HT6 := Lib.hid (HT5.out.below hb); clear hb))
      go_meet
      exact ⟨rfl, HT6.out⟩
  case rest =>
    obtain ⟨rfl, hcc⟩ := hcut
    have HT6 := Lib.hid hcc.out
    clear hcc HT1 HT2
    go_upto_region 6 with (go_at_call 9; refine (find_any _ _ _ _ _ _ _ _ _ _ HT6.out.mine hx9).mono ?_; rintro e w7 ⟨rfl, hb⟩; rw [hf.out]; have HT7 := Lib.hid (HT6.out.below hb); clear hb)
    go_upto_block 0 with fail
    go_cut [11, 12] (fun u v wx => u = .int .i64 fv ∧ v = .int .i64 fe ∧ Hid (Two w wx M cm L off a n c F H N))
    case first =>
      have hfe := hf.out
      unfold findV at hfe
      rcases hrk with ⟨rfl, rfl, HR⟩ | ⟨rfl, rfl, HR⟩
      · rw [if_pos HR.out] at hfe
        by_cases hin : 0 ≤ x ∧ x < 40
        · rw [if_pos hin] at hfe
          have d1 : decide (x < 0) = false := decide_eq_false (by omega)
          have d2 : decide (40 ≤ x) = false := decide_eq_false (by omega)
          obtain ⟨z, hz⟩ : ∃ z, Hid (hm F H N n x - 1 = z) := ⟨_, rfl⟩
          have hz0 : -1 ≤ z := by have := hz.out; have := hm_bd x HR.out.2; omega
          by_cases h0 : hm F H N n x = 0
          · rw [if_pos h0] at hfe
            injection hfe with hfe1 hfe2
            subst hfe1 hfe2
            have d3 : decide (z < 0) = true := decide_eq_true (by have := hz.out; omega)
            clear h0
            obtain ⟨hin0, hin1⟩ := hin
            go_wp2_with (go_at_call 16; refine (home_any _ _ _ _ _ _ _ _ _ _ HT7.out.list HR.out hin0 hin1).mono ?_; rintro e w8 ⟨rfl, hb⟩; rw [hz.out]; have HT8 := Lib.hid (HT7.out.below hb); clear hb)
            go_meet
            exact ⟨rfl, rfl, HT8.out⟩
          · rw [if_neg h0, hz.out] at hfe
            injection hfe with hfe1 hfe2
            subst hfe1 hfe2
            have d3 : decide (z < 0) = false := decide_eq_false (by have := hz.out; omega)
            clear h0
            obtain ⟨hin0, hin1⟩ := hin
            go_wp2_with (go_at_call 16; refine (home_any _ _ _ _ _ _ _ _ _ _ HT7.out.list HR.out hin0 hin1).mono ?_; rintro e w8 ⟨rfl, hb⟩; rw [hz.out]; have HT8 := Lib.hid (HT7.out.below hb); clear hb)
            go_meet
            exact ⟨rfl, rfl, HT8.out⟩
        · rw [if_neg hin] at hfe
          injection hfe with hfe1 hfe2
          subst hfe1 hfe2
          rcases (show decide (x < 0) = true ∨ (decide (x < 0) = false ∧ decide (40 ≤ x) = true) by
            by_cases q : x < 0
            · exact Or.inl (decide_eq_true q)
            · exact Or.inr ⟨decide_eq_false q, decide_eq_true (by omega)⟩) with d1 | ⟨d1, d2⟩
          all_goals
            clear hin
            go_wp2
            go_meet
            exact ⟨rfl, rfl, HT7.out⟩
      · rw [if_neg HR.out] at hfe
        injection hfe with hfe1 hfe2
        subst hfe1 hfe2
        go_wp2
        go_meet
        exact ⟨rfl, rfl, HT7.out⟩
    case rest =>
      obtain ⟨rfl, rfl, hcc⟩ := hcut
      have HT8 := Lib.hid hcc.out
      clear hcc
      go_upto_region 15 with (go_at_call 8; refine (put_any _ _ _ _ _ _ _ _ _ _ _ HT8.out.mine hx9 hy9).mono ?_; rintro e w9 ⟨v9, rfl, hv, hb⟩; rw [hp.out] at hv ⊢; have HV9 := Lib.hid hv; have HT9 := Lib.hid (HT8.out.below hb); clear hb hv)
      go_upto_region 16 with (go_at_call 17; refine (refPut_any _ _ _ _ _ _ _ _ _ _ _ HT9.out.list hx9 hy9).mono ?_; rintro e w10 ⟨v10, rfl, hv, hb⟩; rw [hp.out] at hv ⊢; have HV10 := Lib.hid hv; have HV9b := Lib.hid (HV9.out.below hb); have HT10 := Lib.hid (HT9.out.below hb); clear hb hv)
      go_upto_region 17 with (go_at_call 12; refine (drop_any _ _ _ _ _ _ _ _ _ _ _ HT10.out.mine hx9 hy9).mono ?_; rintro e w11 ⟨v11, u11, rfl, hv, hu, hb⟩; rw [hd.out] at hv hu ⊢; have HV11 := Lib.hid hv; have HU11 := Lib.hid hu; have HV9c := Lib.hid (HV9b.out.below hb); have HV10c := Lib.hid (HV10.out.below hb); have HT11 := Lib.hid (HT10.out.below hb); clear hb hv hu)
      go_upto_region 18 with (go_at_call 18; refine (refDrop_any _ _ _ _ _ _ _ _ _ _ _ HT11.out.list hx9 hy9).mono ?_; rintro e w12 ⟨v12, u12, rfl, hv, hu, hb⟩; rw [hd.out] at hv hu ⊢; have HV12 := Lib.hid hv; have HU12 := Lib.hid hu; have HV9d := Lib.hid (HV9c.out.below hb); have HV10d := Lib.hid (HV10c.out.below hb); have HV11d := Lib.hid (HV11.out.below hb); have HU11d := Lib.hid (HU11.out.below hb); have HT12 := Lib.hid (HT11.out.below hb); clear hb hv hu)
      clear HV9 HV9b HV9c HV10 HV10c HV11 HU11 HT11 HT10 HT9 HT8
      obtain ⟨a1, c1, L1, rfl, h1, _⟩ := HV9d.out
      obtain ⟨a2, c2, L2, rfl, h2, _⟩ := HV10d.out
      obtain ⟨a3, c3, L3, rfl, h3, _⟩ := HV11d.out
      obtain ⟨a4, c4, L4, rfl, h4, _⟩ := HV12.out
      obtain ⟨a5, c5, L5, rfl, h5, _⟩ := HU11d.out
      obtain ⟨a6, c6, L6, rfl, h6, _⟩ := HU12.out
      have H1 := Lib.hid h1
      have H2 := Lib.hid h2
      have H3 := Lib.hid h3
      have H4 := Lib.hid h4
      have H5 := Lib.hid h5
      have H6 := Lib.hid h6
      clear h1 h2 h3 h4 h5 h6 HV9d HV10d HV11d HV12 HU11d HU12 hrk
      go_wp2_with (first
        | (go_at_call 19; refine (same_any _ _ _ _ _ _ _ _ _ _ _ _ _ H1.out H2.out).mono ?_; rintro e w13 ⟨rfl, hb⟩; have H3b := Lib.hid (H3.out.below hb); have H4b := Lib.hid (H4.out.below hb); have H5b := Lib.hid (H5.out.below hb); have H6b := Lib.hid (H6.out.below hb); have HT13 := Lib.hid (HT12.out.below hb); clear hb H1 H2)
        | (go_at_call 19; refine (same_any _ _ _ _ _ _ _ _ _ _ _ _ _ H3b.out H4b.out).mono ?_; rintro e w14 ⟨rfl, hb⟩; have H5c := Lib.hid (H5b.out.below hb); have H6c := Lib.hid (H6b.out.below hb); have HT14 := Lib.hid (HT13.out.below hb); clear hb H3b H4b)
        | (go_at_call 13; refine (ints_any _ _ _ _ _ _ _ _ _ _ _ H5c.out H6c.out).mono ?_; rintro e w15 ⟨rfl, hb⟩; have HT15 := Lib.hid (HT14.out.below hb); clear hb)
        | (go_at_call 19; refine (same_any _ _ _ _ _ _ _ _ _ _ _ _ _ HT15.out.mine HT15.out.list).mono ?_; rintro e w16 ⟨rfl, hb⟩; have HT16 := Lib.hid (HT15.out.below hb); clear hb))
      go_ret
      exact ⟨rfl, HT16.out.bel⟩

theorem calls_frame (a : Option Addr) (n c L off : Nat) (z : Nat → Int × Int × Int) (x y : Int) (w : World) (h : ExAt w L off a n c (fun i => (z i).1) (fun i => (z i).2.1) (fun i => (z i).2.2)) (hc : a = none → c = 0) (hlen : n * 24 ≤ 140737488351232) (hx : (Lit.int .i64 x).wf = true) (hy : (Lit.int .i64 y).wf = true) :
    Calls Try.prog 4 #[.slice a n c, .int .i64 x, .int .i64 y] w fun e w' => e = .returned (.bool true) ∧ Below w.heap.size w w' :=
  calls_walk a n c L off _ _ _ x y w h hc hlen (bounds_i64 hx) (bounds_i64 hy)
end Go.Proofs.Ytidifimhgnjomaa
