/- Walks of the layer path: Split, Target, and the reference's; fixed; PathSplits. -/
import Derived.Test.YtgmkpdoejehgdaaDoorPd
namespace Go.Proofs.YtgmkpdoejehgdaaDoor
set_option linter.unusedVariables false
set_option linter.unusedSimpArgs false
open Go.RowKit

theorem mx_below {w w' : World} {m : Int} (h : w.cell? ⟨0, 0, none⟩ = some (.int .i64 m)) (hb : Below w.heap.size w w') : w'.cell? ⟨0, 0, none⟩ = some (.int .i64 m) := by
  rw [hb.cell (p := ⟨0, 0, none⟩) (World.block_lt_of_cell? w _ h)]; exact h

theorem split_any (s : ByteArray) (mx : Int) (w : World) (hmx : w.cell? ⟨0, 0, none⟩ = some (.int .i64 mx)) (hs : s.size ≤ 9223372036854775807) :
    Calls Tryd.prog 6 #[.string s] w (PcPost w (pcs s.data.toList 256 true)) := by
  have HMX := Lib.hid hmx
  clear hmx
  go_enter Tryd.func6, Tryd.ntmps6
  go_wp2_with (go_at_call 11; refine (pieces_any s 256 true mx _ HMX.out (by omega) (by omega) hs).mono ?_; rintro e w1 ⟨v, rfl, hv, hb⟩; have HV := Lib.hid hv; have HB := Lib.hid hb; clear hv hb)
  go_ret2
  exact ⟨v, rfl, HV.out, HB.out⟩
theorem refSplit_any (s : ByteArray) (w : World) (hs : s.size ≤ 9223372036854775807) :
    Calls Tryd.prog 8 #[.string s] w (PcPost w (pcs s.data.toList 256 true)) := by
  go_enter Tryd.func8, Tryd.ntmps8
  go_wp2_with (go_at_call 12; refine (refPieces_any s 256 true _ (by omega) (by omega) hs).mono ?_; rintro e w1 ⟨v, rfl, hv, hb⟩; have HV := Lib.hid hv; have HB := Lib.hid hb; clear hv hb)
  go_ret2
  exact ⟨v, rfl, HV.out, HB.out⟩

theorem pcs_bad {l : List UInt8} {most : Int} {whole : Bool} {xs : List (List UInt8)} {c : Int} (h : pcs l most whole = (xs, c)) (hc : c ≠ 0) : xs = [] := by
  unfold pcs at h
  split at h
  · injection h with h1 _; exact h1.symm
  · split at h
    · injection h with h1 _; exact h1.symm
    · split at h
      · injection h with h1 _; exact h1.symm
      · split at h
        · injection h with h1 _; exact h1.symm
        · injection h with _ h2; exact absurd h2.symm hc
theorem pcs_some {l : List UInt8} {most : Int} {whole : Bool} {xs : List (List UInt8)} {c : Int} (h : pcs l most whole = (xs, c)) (hc : c = 0) : l ≠ [] := by
  rintro rfl
  unfold pcs at h
  rw [if_pos rfl] at h
  injection h with _ h2
  omega
/-- Whether it begins at the root, a list of pieces and an error. -/
def TgPost (w : World) (l : List UInt8) (r : List (List UInt8) × Int) (e : Ending) (w' : World) : Prop := ∃ v, e = .returned (.tuple #[.bool (r.2 == 0 && l.headD 0 == 47), v, .int .i64 r.2]) ∧ StL w' v r.1 ∧ Below w.heap.size w w'
theorem head47 (s : ByteArray) (h : 0 < s.size) : (s.data.toList.headD 0 == 47) = ((s[0].toNat : Int) == 47) := by
  rw [head_at s h, Bool.eq_iff_iff]
  constructor
  · intro e
    have := beq_iff_eq.1 e
    rw [this]; rfl
  · intro e
    have : s[0] = 47 := UInt8.toNat_inj.1 (by have := beq_iff_eq.1 e; show s[0].toNat = 47; omega)
    rw [this]; rfl

theorem target_any (s : ByteArray) (mx : Int) (w : World) (hmx : w.cell? ⟨0, 0, none⟩ = some (.int .i64 mx)) (hs : s.size ≤ 9223372036854775807) :
    Calls Tryd.prog 9 #[.string s] w (TgPost w s.data.toList (pcs s.data.toList 64 false)) := by
  have HMX := Lib.hid hmx
  clear hmx
  obtain ⟨xs, c, hr⟩ : ∃ xs c, Hid (pcs s.data.toList 64 false = (xs, c)) := ⟨_, _, rfl⟩
  by_cases hc : c = 0
  · have hpos : 0 < s.size := by rw [size_len]; exact List.length_pos_iff.2 (pcs_some hr.out hc)
    have HH := Lib.hid (head47 s hpos)
    subst hc
    rw [hr.out]
    go_enter Tryd.func9, Tryd.ntmps9
    go_wp2_with (go_at_call 11; refine (pieces_any s 64 false mx _ HMX.out (by omega) (by omega) hs).mono ?_; rintro e w1 ⟨v, rfl, hv, hb⟩; rw [hr.out] at hv ⊢; have HV := Lib.hid hv; have HB := Lib.hid hb; clear hv hb)
    go_ret3
    exact ⟨v, by rw [HH.out]; rfl, HV.out, HB.out⟩
  · have HN := Lib.hid (pcs_bad hr.out hc)
    have d1 : (c != 0) = true := by simpa using hc
    have HC : Hid ((c == 0) = false) := beq_eq_false_iff_ne.2 hc
    rw [hr.out]
    clear hc
    go_enter Tryd.func9, Tryd.ntmps9
    go_wp2_with (go_at_call 11; refine (pieces_any s 64 false mx _ HMX.out (by omega) (by omega) hs).mono ?_; rintro e w1 ⟨v, rfl, hv, hb⟩; rw [hr.out] at hv ⊢; have HV := Lib.hid hv; have HB := Lib.hid hb; clear hv hb)
    go_ret3
    refine ⟨.slice none 0 0, ?_, ?_, HB.out⟩
    · show _ = Ending.returned (.tuple #[.bool (c == 0 && _), .slice none 0 0, .int .i64 c])
      rw [HC.out]; rfl
    · show StL _ _ xs
      rw [HN.out]; exact StL.nil _

theorem refTarget_any (s : ByteArray) (w : World) (hs : s.size ≤ 9223372036854775807) :
    Calls Tryd.prog 10 #[.string s] w (TgPost w s.data.toList (pcs s.data.toList 64 false)) := by
  obtain ⟨xs, c, hr⟩ : ∃ xs c, Hid (pcs s.data.toList 64 false = (xs, c)) := ⟨_, _, rfl⟩
  by_cases hc : c = 0
  · have hpos : 0 < s.size := by rw [size_len]; exact List.length_pos_iff.2 (pcs_some hr.out hc)
    have HH := Lib.hid (head47 s hpos)
    subst hc
    rw [hr.out]
    go_enter Tryd.func10, Tryd.ntmps10
    go_wp2_with (go_at_call 12; refine (refPieces_any s 64 false _ (by omega) (by omega) hs).mono ?_; rintro e w1 ⟨v, rfl, hv, hb⟩; rw [hr.out] at hv ⊢; have HV := Lib.hid hv; have HB := Lib.hid hb; clear hv hb)
    go_ret3
    exact ⟨v, by rw [HH.out]; rfl, HV.out, HB.out⟩
  · have d1 : (c == 0) = false := beq_eq_false_iff_ne.2 hc
    have HC : Hid ((c == 0) = false) := d1
    rw [hr.out]
    clear hc
    go_enter Tryd.func10, Tryd.ntmps10
    go_wp2_with (go_at_call 12; refine (refPieces_any s 64 false _ (by omega) (by omega) hs).mono ?_; rintro e w1 ⟨v, rfl, hv, hb⟩; rw [hr.out] at hv ⊢; have HV := Lib.hid hv; have HB := Lib.hid hb; clear hv hb)
    go_ret3
    refine ⟨v, ?_, HV.out, HB.out⟩
    show _ = Ending.returned (.tuple #[.bool (c == 0 && _), v, .int .i64 c])
    rw [HC.out]; rfl

theorem pcs_one : pcs (⟨#[47, 97, 47, 47, 98, 47]⟩ : ByteArray).data.toList 256 true = ([[97], [98]], 0) := by decide +kernel
theorem pcs_two : pcs (⟨#[97]⟩ : ByteArray).data.toList 256 true = ([], 47) := by decide +kernel
theorem two_lit (w : World) : StAt (w.alloc (.cells #[.string ⟨#[97]⟩, .string ⟨#[98]⟩] 9)) w.heap.size 0 (some ⟨w.heap.size, 0, none⟩) 2 2 (fun i => strB (([[97], [98]] : List (List UInt8)).getD i [])) := by
  refine ⟨Nat.le_refl _, by omega, fun _ => ⟨rfl, fun i hi => ?_⟩⟩
  rw [Nat.zero_add, cell_of_row _ _ i _ _ (0, 0) (heap_alloc_new w _)]
  match i, hi with
  | 0, _ => rfl
  | 1, _ => rfl

theorem fixed_any (mx : Int) (w : World) (hmx : w.cell? ⟨0, 0, none⟩ = some (.int .i64 mx)) : Calls Tryd.prog 5 #[] w fun e w' => e = .returned (.bool true) ∧ Below w.heap.size w w' := by
  have HMX := Lib.hid hmx
  have H1 := Lib.hid pcs_one
  have H2 := Lib.hid pcs_two
  clear hmx
  go_enter Tryd.func5, Tryd.ntmps5
  go_upto_region 2 with (go_at_call 6; refine (split_any ⟨#[47, 97, 47, 47, 98, 47]⟩ mx _ HMX.out (by decide)).mono ?_; rintro e w1 ⟨v1, rfl, hv, hb⟩; rw [H1.out] at hv ⊢; have HV1 := Lib.hid hv; have HB1 := Lib.hid hb; have HMX1 := Lib.hid (mx_below HMX.out hb); clear hv hb)
  go_upto_region 3 with (go_at_call 6; refine (split_any ⟨#[97]⟩ mx _ HMX1.out (by decide)).mono ?_; rintro e w2 ⟨v2, rfl, hv, hb⟩; rw [H2.out] at hv ⊢; have HV2 := Lib.hid (HV1.out.below hb); have HB2 := Lib.hid (HB1.out.trans (hb.mono HB1.out.size)); clear hv hb)
  obtain ⟨a1, c1, L1, rfl, h1⟩ := HV2.out
  have HS1 := Lib.hid h1
  have e2 : ([[97], [98]] : List (List UInt8)).length = 2 := rfl
  rw [e2] at HS1
  clear h1 HV1 HV2 e2
  go_wp2_with (go_at_call 7; refine (same_any _ _ _ _ _ _ _ _ _ _ _ (HS1.out.below ((Below.refl _ _).alloc (Nat.le_refl _) _)) (two_lit w2)).mono ?_; rintro e w3 ⟨rfl, hb⟩; have HB3 := Lib.hid hb; clear hb)
  go_ret
  refine ⟨rfl, ?_⟩
  have h := HB2.out.alloc HB2.out.size (.cells #[.string ⟨#[97]⟩, .string ⟨#[98]⟩] 9)
  exact h.trans (HB3.out.mono h.size)

theorem TgPost.at_ {w w' : World} {l : List UInt8} {r : List (List UInt8) × Int} {ys : List (List UInt8)} {d : Int} {b : Bool} {e : Ending} (h : TgPost w l r e w') (hr : r = (ys, d)) (hb : (d == 0 && l.headD 0 == 47) = b) :
    ∃ v, e = .returned (.tuple #[.bool b, v, .int .i64 d]) ∧ StL w' v ys ∧ Below w.heap.size w w' := by
  subst hr
  obtain ⟨v, he, hv, hw⟩ := h
  have he' : e = .returned (.tuple #[.bool (d == 0 && l.headD 0 == 47), v, .int .i64 d]) := he
  rw [hb] at he'
  exact ⟨v, he', hv, hw⟩
set_option maxRecDepth 100000 in
/-- PathSplits -/
theorem splits_walk (s : ByteArray) (mx : Int) (w : World) (hmx : w.cell? ⟨0, 0, none⟩ = some (.int .i64 mx)) (hs : s.size ≤ 9223372036854775807) :
    Calls Tryd.prog 4 #[.string s] w fun e w' => e = .returned (.bool true) ∧ Below w.heap.size w w' := by
  have HMX := Lib.hid hmx
  clear hmx
  obtain ⟨xs, c, hr⟩ : ∃ xs c, Hid (pcs s.data.toList 256 true = (xs, c)) := ⟨_, _, rfl⟩
  obtain ⟨ys, d, hq⟩ : ∃ xs c, Hid (pcs s.data.toList 64 false = (xs, c)) := ⟨_, _, rfl⟩
  obtain ⟨hd, hhd⟩ : ∃ b, Hid ((d == 0 && s.data.toList.headD 0 == 47) = b) := ⟨_, rfl⟩
  go_enter Tryd.func4, Tryd.ntmps4
  go_upto_region 2 with (go_at_call 6; refine (split_any s mx _ HMX.out hs).mono ?_; rintro e w1 ⟨v1, rfl, hv, hb⟩; rw [hr.out] at hv ⊢; have HV1 := Lib.hid hv; have HB1 := Lib.hid hb; have HMX1 := Lib.hid (mx_below HMX.out hb); clear hv hb)
  go_upto_region 3 with (go_at_call 8; refine (refSplit_any s _ hs).mono ?_; rintro e w2 ⟨v2, rfl, hv, hb⟩; rw [hr.out] at hv ⊢; have HV2 := Lib.hid hv; have HV1b := Lib.hid (HV1.out.below hb); have HB2 := Lib.hid (HB1.out.trans (hb.mono HB1.out.size)); have HMX2 := Lib.hid (mx_below HMX1.out hb); clear hv hb)
  go_upto_region 4 with (go_at_call 9; refine (target_any s mx _ HMX2.out hs).mono ?_; intro e w3 ht; obtain ⟨v3, rfl, hv, hb⟩ := ht.at_ hq.out hhd.out; have HV3 := Lib.hid hv; have HV1c := Lib.hid (HV1b.out.below hb); have HV2c := Lib.hid (HV2.out.below hb); have HB3 := Lib.hid (HB2.out.trans (hb.mono HB2.out.size)); have HMX3 := Lib.hid (mx_below HMX2.out hb); clear hv hb ht)
  go_upto_region 5 with (go_at_call 10; refine (refTarget_any s _ hs).mono ?_; intro e w4 ht; obtain ⟨v4, rfl, hv, hb⟩ := ht.at_ hq.out hhd.out; have HV4 := Lib.hid hv; have HV1d := Lib.hid (HV1c.out.below hb); have HV2d := Lib.hid (HV2c.out.below hb); have HV3d := Lib.hid (HV3.out.below hb); have HB4 := Lib.hid (HB3.out.trans (hb.mono HB3.out.size)); have HMX4 := Lib.hid (mx_below HMX3.out hb); clear hv hb ht)
  clear HV1 HV1b HV1c HV2 HV2c HV3
  obtain ⟨a1, c1, L1, rfl, h1⟩ := HV1d.out
  obtain ⟨a2, c2, L2, rfl, h2⟩ := HV2d.out
  obtain ⟨a3, c3, L3, rfl, h3⟩ := HV3d.out
  obtain ⟨a4, c4, L4, rfl, h4⟩ := HV4.out
  have H1 := Lib.hid h1
  have H2 := Lib.hid h2
  have H3 := Lib.hid h3
  have H4 := Lib.hid h4
  clear h1 h2 h3 h4 HV1d HV2d HV3d HV4
  go_wp2_with (first
    | (go_at_call 5; refine (fixed_any mx _ HMX4.out).mono ?_; rintro e w5 ⟨rfl, hb⟩; have H1b := Lib.hid (H1.out.below hb); have H2b := Lib.hid (H2.out.below hb); have H3b := Lib.hid (H3.out.below hb); have H4b := Lib.hid (H4.out.below hb); have HB5 := Lib.hid (HB4.out.trans (hb.mono HB4.out.size)); clear hb)
    | (go_at_call 7; refine (same_any _ _ _ _ _ _ _ _ _ _ _ H1b.out H2b.out).mono ?_; rintro e w6 ⟨rfl, hb⟩; have H3c := Lib.hid (H3b.out.below hb); have H4c := Lib.hid (H4b.out.below hb); have HB6 := Lib.hid (HB5.out.trans (hb.mono HB5.out.size)); clear hb H1b H2b)
    | (go_at_call 7; refine (same_any _ _ _ _ _ _ _ _ _ _ _ H3c.out H4c.out).mono ?_; rintro e w7 ⟨rfl, hb⟩; have HB7 := Lib.hid (HB6.out.trans (hb.mono HB6.out.size)); clear hb))
  go_ret
  exact ⟨rfl, HB7.out⟩
end Go.Proofs.YtgmkpdoejehgdaaDoor
