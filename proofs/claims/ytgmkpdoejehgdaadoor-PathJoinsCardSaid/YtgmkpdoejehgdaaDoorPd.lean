/- Walks of the reference of the layer path: Pieces. -/
import Derived.Test.YtgmkpdoejehgdaaDoorPc
import Derived.IntWalk
namespace Go.Proofs.YtgmkpdoejehgdaaDoor
set_option linter.unusedVariables false
set_option linter.unusedSimpArgs false
open Go.RowKit

/-- The pieces that are done, and the piece that is not, of the first k bytes. -/
def DD (l : List UInt8) (k : Nat) : List (List UInt8) := (dc (l.take k)).1
def CC (l : List UInt8) (k : Nat) : List UInt8 := (dc (l.take k)).2
theorem dcT {l : List UInt8} {k : Nat} {b : UInt8} (h : l[k]? = some b) : dc (l.take (k + 1)) = step (dc (l.take k)) b := by
  rw [List.take_add_one, h]
  exact dc_snoc _ _
theorem DD_slash {l : List UInt8} {k : Nat} (h : l[k]? = some 47) : DD l (k + 1) = DD l k ++ [CC l k] ∧ CC l (k + 1) = [] := by
  unfold DD CC
  rw [dcT h]
  exact ⟨rfl, rfl⟩
theorem DD_other {l : List UInt8} {k : Nat} {b : UInt8} (h : l[k]? = some b) (hb : b ≠ 47) : DD l (k + 1) = DD l k ∧ CC l (k + 1) = CC l k ++ [b] := by
  unfold DD CC
  rw [dcT h]
  have e : step (dc (l.take k)) b = ((dc (l.take k)).1, (dc (l.take k)).2 ++ [b]) := if_neg hb
  rw [e]
  exact ⟨rfl, rfl⟩
theorem cut_DD (l : List UInt8) : cutL l = DD l l.length ++ [CC l l.length] := by
  unfold DD CC
  rw [List.take_length]
  rfl
theorem CC_in {l : List UInt8} {k : Nat} (h : l[k]? = some 47 ∨ k = l.length) : CC l k ∈ cutL l := by
  rcases h with h | h
  · have hk := (List.getElem?_eq_some_iff.1 h)
    obtain ⟨h1, h2⟩ := hk
    have e : l = l.take k ++ 47 :: l.drop (k + 1) := by
      rw [← h2, ← List.drop_eq_getElem_cons h1]; exact (List.take_append_drop k l).symm
    have : cutL l = cutL (l.take k) ++ cutL (l.drop (k + 1)) := by
      conv => lhs; rw [e]
      exact cut_at _ _
    rw [this]
    have h3 : CC l k ∈ cutL (l.take k) := by unfold CC cutL; simp
    exact List.mem_append_left _ h3
  · rw [h, cut_DD]; simp
theorem long_mem {l : List UInt8} {p : List UInt8} (h : p ∈ cutL l) (hp : 24 < p.length) : longP l = true := by
  unfold longP
  rw [List.any_eq_true]
  exact ⟨p, h, by simpa using hp⟩
/-- Where the reference's second loop stands. -/
structure RefAt (w : World) (l : List UInt8) (k f : Nat) (v : Value) (wr : World) : Prop where
  bel : Below w.heap.size w wr
  mid : k ≤ l.length → f ≤ k ∧ CC l k = (l.drop f).take (k - f) ∧ SRow wr w.heap.size v ((DD l k).filter (fun p => !p.isEmpty)) ∧ (∀ p ∈ DD l k, p.length ≤ 24) ∧ (DD l k).length ≤ k
  fin : k = l.length + 1 → SRow wr w.heap.size v ((cutL l).filter (fun p => !p.isEmpty)) ∧ longP l = false
theorem RefAt.start (w wr : World) (l : List UInt8) (h : Below w.heap.size w wr) : RefAt w l 0 0 (.slice none 0 0) wr :=
  ⟨h, fun _ => ⟨Nat.le_refl _, by unfold CC dc; simp, by unfold DD dc; simpa using SRow.nil _ _, by unfold DD dc; simp, by unfold DD dc; simp⟩, fun e => by omega⟩
theorem RefAt.len {w : World} {l : List UInt8} {k f : Nat} {v : Value} {wr : World} (h : RefAt w l k f v wr) (hk : k ≤ l.length) : (CC l k).length = k - f := by
  obtain ⟨h1, h2, _⟩ := h.mid hk
  rw [h2, List.length_take, List.length_drop]; omega
/-- A byte that is no slash. -/
theorem RefAt.other {w : World} {l : List UInt8} {k f : Nat} {v : Value} {wr : World} (h : RefAt w l k f v wr) {b : UInt8} (hb : l[k]? = some b) (h47 : b ≠ 47) : RefAt w l (k + 1) f v wr := by
  obtain ⟨hk, hbe⟩ := List.getElem?_eq_some_iff.1 hb
  obtain ⟨h1, h2, h3, h4, h5⟩ := h.mid (by omega)
  obtain ⟨e1, e2⟩ := DD_other hb h47
  refine ⟨h.bel, fun _ => ⟨by omega, ?_, by rw [e1]; exact h3, by rw [e1]; exact h4, by rw [e1]; omega⟩, fun e => by omega⟩
  rw [e2, h2, show k + 1 - f = (k - f) + 1 by omega, List.take_add_one, List.getElem?_drop, show f + (k - f) = k by omega, hb]
  rfl
/-- A piece ends: a slash, or the end of all. -/
theorem RefAt.ends {w : World} {l : List UInt8} {k f : Nat} {v v' : Value} {wr w' : World} (h : RefAt w l k f v wr) (hk : l[k]? = some 47 ∨ k = l.length) (h24 : (CC l k).length ≤ 24) (hb : Below w.heap.size w w')
    (hs : SRow w' w.heap.size v' ((DD l k).filter (fun p => !p.isEmpty) ++ [CC l k].filter (fun p => !p.isEmpty))) : RefAt w l (k + 1) (k + 1) v' w' := by
  have hkl : k ≤ l.length := by
    rcases hk with h | h
    · have := (List.getElem?_eq_some_iff.1 h).1; omega
    · omega
  obtain ⟨h1, h2, h3, h4, h5⟩ := h.mid hkl
  refine ⟨hb, fun hk1 => ?_, fun e => ?_⟩
  · rcases hk with hk | hk
    · obtain ⟨e1, e2⟩ := DD_slash hk
      refine ⟨Nat.le_refl _, by rw [e2, Nat.sub_self]; rfl, by rw [e1, List.filter_append]; exact hs, fun p hp => ?_, by rw [e1, List.length_append]; simp; omega⟩
      rw [e1] at hp
      rcases List.mem_append.1 hp with hp | hp
      · exact h4 p hp
      · simp at hp; rw [hp]; exact h24
    · omega
  · have hkl2 : k = l.length := by omega
    rw [cut_DD, ← hkl2, List.filter_append]
    refine ⟨hs, ?_⟩
    unfold longP
    rw [cut_DD, ← hkl2, List.any_eq_false]
    intro p hp
    rcases List.mem_append.1 hp with hp | hp
    · have := h4 p hp; simpa using this
    · simp at hp; rw [hp]; simpa using h24
theorem ext_CC {w : World} {l : List UInt8} {s : ByteArray} (hl : s.data.toList = l) {k f : Nat} {v : Value} {wr : World} (h : RefAt w l k f v wr) (hk : k ≤ l.length) : s.extract f k = strB (CC l k) := by
  obtain ⟨h1, h2, _⟩ := h.mid hk
  have : (s.extract f k).data.toList = CC l k := by rw [Lib.extract_data, h2, hl]
  rw [← strB_data (s.extract f k), this]
theorem few_filter (l : List (List UInt8)) (k : Nat) (h : l.length ≤ k) : (l.filter fun p => !p.isEmpty).length ≤ k := Nat.le_trans (List.length_filter_le _ _) h
theorem data_at (s : ByteArray) (k : Nat) (h : k < s.size) : s.data.toList[k]? = some s[k] := by
  obtain ⟨⟨l⟩⟩ := s
  exact List.getElem?_eq_getElem h

set_option maxRecDepth 100000 in
set_option maxHeartbeats 1600000 in
theorem refPieces_any (s : ByteArray) (most : Int) (whole : Bool) (w : World) (hm0 : 0 ≤ most) (hm1 : most ≤ 256) (hs : s.size ≤ 9223372036854775807) :
    Calls Tryd.prog 12 #[.string s, .int .i64 most, .bool whole] w (PcPost w (pcs s.data.toList most whole)) := by
  obtain ⟨i0, hi, hz0, hz1, hz2⟩ := info_parts infoStr
  obtain ⟨l, hl⟩ : ∃ l, Hid (s.data.toList = l) := ⟨_, rfl⟩
  have hsz : Hid (s.size = l.length) := by show _ = _; rw [size_len, hl.out]
  rw [hl.out]
  by_cases he : l = []
  · have HX : Hid (pcs l most whole = ([], 40)) := by show _ = _; unfold pcs; rw [if_pos he]
    have e0 : s.toList.isEmpty = true := by rw [Lib.toList_data, hl.out, he]; rfl
    clear he
    go_enter Tryd.func12, Tryd.ntmps12
    go_wp2
    go_ret2
    exact ⟨_, by rw [HX.out]; rfl, by rw [HX.out]; exact StL.nil _, Below.refl _ _⟩
  · have e0 : s.toList.isEmpty = false := by
      rw [Lib.toList_data, hl.out]
      cases l with
      | nil => exact absurd rfl he
      | cons b l => rfl
    have hpos : 0 < s.size := by rw [hsz.out]; exact List.length_pos_iff.2 he
    by_cases hlm : most < (s.size : Int)
    · have HX : Hid (pcs l most whole = ([], 48)) := by show _ = _; unfold pcs; rw [if_neg he, if_pos (by rw [← hsz.out]; exact hlm)]
      have d1 : decide (most < (s.size : Int)) = true := decide_eq_true hlm
      clear he hlm
      go_enter Tryd.func12, Tryd.ntmps12
      go_wp2
      go_ret2
      exact ⟨_, by rw [HX.out]; rfl, by rw [HX.out]; exact StL.nil _, Below.refl _ _⟩
    · have d1 : decide (most < (s.size : Int)) = false := decide_eq_false hlm
      have hs256 : s.size ≤ 256 := by omega
      obtain ⟨R, hR⟩ : ∃ R, Hid (pcs l most whole = R) := ⟨_, rfl⟩
      have HP0 : Hid (R = if badS l whole = true then ([], 47) else if longP l = true then ([], 48) else ((cutL l).filter (fun p => !p.isEmpty), 0)) := by
        show _ = _; rw [← hR.out]; unfold pcs; rw [if_neg he, if_neg (by rw [← hsz.out]; exact hlm)]
      rw [hR.out]
      have hhd : l.headD 0 = s[0] := by rw [← hl.out]; exact head_at s hpos
      obtain ⟨W0, hW0⟩ : ∃ W0 : Bool, Hid ((whole && l.headD 0 != 47) = W0) := ⟨_, rfl⟩
      have HBD : Hid (badS l whole = (W0 || l.contains 0)) := by show _ = _; unfold badS; rw [hW0.out, Bool.or_comm]
      clear hlm he
      go_enter Tryd.func12, Tryd.ntmps12
      go_upto_region 5 with fail
      go_cut [8] (fun v wx => v = .bool W0 ∧ wx = w)
      case first =>
        cases whole with
        | false =>
          have e : W0 = false := by rw [← hW0.out]; rfl
          subst e
          go_wp2
          go_meet
          exact ⟨rfl, rfl⟩
        | true =>
          have e : ((s[0].toNat : Int) != 47) = W0 := by
            rw [← hW0.out, hhd, Bool.true_and]
            by_cases q : s[0] = 47
            · rw [q]; rfl
            · have h1 : (s[0] != 47) = true := by simpa using q
              have h4 : (s[0].toNat : Int) ≠ 47 := fun e => q (UInt8.toNat_inj.1 (by show s[0].toNat = 47; omega))
              rw [h1]; simpa using h4
          clear hhd
          go_wp2
          go_meet
          exact ⟨rfl, rfl⟩
      case rest =>
        obtain ⟨rfl, rfl⟩ := hcut
        clear hhd
        go_upto_block 0 with fail
        go_cut [8] (fun v wx => v = .bool (badS l whole) ∧ wx = wc)
        case first =>
          go_wp2_with fail
          go_loop [8, 9] (fun v i => ∃ k : Nat, k ≤ s.size ∧ i = .int .i64 k ∧ ∃ b : Bool, v = .bool b ∧ Hid (b = (W0 || (l.take k).contains 0))) (fun _ i => s.size - (intOf i).toNat)
          case atStart => exact ⟨0, Nat.zero_le _, rfl, W0, rfl, by show _ = _; simp⟩
          case round =>
            obtain ⟨k, hk, rfl, b, rfl, hb⟩ := hrel
            by_cases hlt : k < s.size
            · have hat := data_at s k hlt
              rw [hl.out] at hat
              have HS : Hid ((W0 || (l.take (k + 1)).contains 0) = (b || s[k] == 0)) := by
                show _ = _
                have e : decide (0 = s[k]) = (s[k] == 0) := by
                  rw [Bool.eq_iff_iff]
                  constructor
                  · intro h; have := of_decide_eq_true h; rw [← this]; rfl
                  · intro h; exact decide_eq_true (beq_iff_eq.1 h).symm
                rw [List.take_add_one, hat, hb.out]
                simp [Bool.or_assoc, e]
              cases b with
              | true =>
                have HS2 : Hid (true = (W0 || (l.take (k + 1)).contains 0)) := by show _ = _; rw [HS.out]; rfl
                clear hat
                go_wp2
                go_round
                case rel => exact ⟨k + 1, by omega, by go_num, true, rfl, HS2⟩
                case measure => simp [intOf]; omega
              | false =>
                cases hz : ((s[k].toNat : Int) == 0) with
                | true =>
                  have HS2 : Hid (true = (W0 || (l.take (k + 1)).contains 0)) := by
                    show _ = _
                    have : s[k] = 0 := UInt8.toNat_inj.1 (by have := beq_iff_eq.1 hz; show s[k].toNat = 0; omega)
                    rw [HS.out, this]; rfl
                  clear hat
                  go_wp2
                  go_round
                  case rel => exact ⟨k + 1, by omega, by go_num, true, rfl, HS2⟩
                  case measure => simp [intOf]; omega
                | false =>
                  have HS2 : Hid (false = (W0 || (l.take (k + 1)).contains 0)) := by
                    show _ = _
                    have : s[k] ≠ 0 := fun e => by rw [e] at hz; exact absurd hz (by decide)
                    rw [HS.out]
                    simpa using this
                  clear hat
                  go_wp2
                  go_round
                  case rel => exact ⟨k + 1, by omega, by go_num, false, rfl, HS2⟩
                  case measure => simp [intOf]; omega
            · have hke : k = l.length := by have := hsz.out; omega
              have HB : Hid (badS l whole = b) := by show _ = _; rw [HBD.out, hb.out, hke, List.take_length]
              clear hke
              go_wp2
              go_meet
              exact ⟨by rw [HB.out], rfl⟩
        case rest =>
          obtain ⟨rfl, rfl⟩ := hcut
          cases hbs : badS l whole with
          | true =>
            have HX : Hid (R = ([], 47)) := by show _ = _; rw [HP0.out, if_pos hbs]
            clear hbs
            go_wp2
            go_ret2
            exact ⟨_, by rw [HX.out]; rfl, by rw [HX.out]; exact StL.nil _, Below.refl _ _⟩
          | false =>
            have HP1 : Hid (R = if longP l = true then ([], 48) else ((cutL l).filter (fun p => !p.isEmpty), 0)) := by show _ = _; rw [HP0.out, hbs, if_neg (by simp)]
            clear hbs
            go_wp2_with fail
            go_loopw [10, 11, 12] (fun v f i wr => ∃ k q : Nat, k ≤ s.size + 1 ∧ q ≤ k ∧ i = .int .i64 k ∧ f = .int .i64 q ∧ Hid (RefAt wc l k q v wr)) (fun _ _ i _ => s.size + 1 - (intOf i).toNat)
            case atStart => exact ⟨0, 0, Nat.zero_le _, Nat.le_refl _, rfl, rfl, RefAt.start _ _ _ (Below.refl _ _)⟩
            case round =>
              obtain ⟨k, q, hk, hqk, rfl, rfl, hd⟩ := hrel
              by_cases hlt : k ≤ s.size
              · have hle : k ≤ l.length := by have := hsz.out; omega
                have dle : decide ((k : Int) ≤ (s.size : Int)) = true := decide_eq_true (by omega)
                have HLN := Lib.hid (hd.out.len hle)
                have HEX := Lib.hid (ext_CC hl.out hd.out hle)
                have HDF : Hid (((DD l k).filter (fun p => !p.isEmpty)).length ≤ 300) := few_filter _ _ (by have := (hd.out.mid hle).2.2.2.2; omega)
                have HRW := Lib.hid (hd.out.mid hle).2.2.1
                clear dle
                have hkq : k - q ≤ 256 := by omega
                obtain ⟨S, hS⟩ : ∃ S, Hid (s.extract q k = S) := ⟨_, rfl⟩
                by_cases hend : k < s.size
                · have hat := data_at s k hend
                  rw [hl.out] at hat
                  cases h47 : ((s[k].toNat : Int) == 47) with
                  | false =>
                    have hne : s[k] ≠ 47 := fun e => by rw [e] at h47; exact absurd h47 (by decide)
                    have HO := Lib.hid (hd.out.other hat hne)
                    clear hat hne
                    go_wp2
                    go_roundw
                    case rel => exact ⟨k + 1, q, by omega, by omega, by go_num, rfl, HO⟩
                    case measure => simp [intOf]; omega
                  | true =>
                    have heq : s[k] = 47 := UInt8.toNat_inj.1 (by have := beq_iff_eq.1 h47; show s[k].toNat = 47; omega)
                    rw [heq] at hat
                    have HAT := Lib.hid hat
                    clear hat heq
                    by_cases h24 : 24 < k - q
                    · have HX : Hid (R = ([], 48)) := by show _ = _; rw [HP1.out, if_pos (long_mem (CC_in (Or.inl HAT.out)) (by rw [HLN.out]; exact h24))]
                      have d4 : decide ((24 : Int) < (k : Int) - (q : Int)) = true := decide_eq_true (by omega)
                      clear h24
                      go_wp2
                      go_ret2
                      exact ⟨_, by rw [HX.out]; rfl, by rw [HX.out]; exact StL.nil _, hd.out.bel⟩
                    · have d4 : decide ((24 : Int) < (k : Int) - (q : Int)) = false := decide_eq_false (by omega)
                      by_cases hkq0 : q < k
                      · have hCC : (CC l k).isEmpty = false := by
                          cases hc : CC l k with
                          | nil => have := HLN.out; rw [hc] at this; simp at this; omega
                          | cons b r => rfl
                        have HCC := Lib.hid hCC
                        have H24 := Lib.hid h24
                        clear h24 hCC
                        go_wp2_with (at_builtin; refine wpList_append_own _ rfl (.tmp 62) (.tmp 67) 22 rfl wc.heap.size 9 i0 _ 1 16 Tryd.underlying22 hi hz0 hz1 hz2 rfl (by decide) _ _ _ rfl (HRW.out.alloc _) ⟨wr.heap.size, 0, none⟩ 1 1 [.string (s.extract q k)] rfl rfl (cell_one_new _ _ _) (strs_one _) ?c3 ?c4 ?c5 ?_)
                        case c3 => have := HDF.out; unfold maxLen; omega
                        case c4 => have := HDF.out; omega
                        case c5 => have := hd.out.bel.size; simp; omega
                        intro v3 w4 hown3 hgrow3 _
                        have HT := Lib.hid (HRW.out.more (x := CC l k) hd.out.bel ((Below.refl _ _).alloc (Nat.le_refl _) _) (by unfold strV; rw [← HEX.out]; exact hown3) hgrow3)
                        have HS : Hid (RefAt wc l (k + 1) (k + 1) v3 w4) := by
                          refine hd.out.ends (Or.inl HAT.out) (by rw [HLN.out]; have := H24.out; omega) HT.out.2 ?_
                          have e : [CC l k].filter (fun p => !p.isEmpty) = [CC l k] := by simp [HCC.out]
                          rw [e]
                          exact HT.out.1
                        clear hown3 hgrow3
                        go_wp2
                        go_roundw
                        case rel => exact ⟨k + 1, k + 1, by omega, by omega, by go_num, by go_num, HS⟩
                        case measure => simp [intOf]; omega
                      · have HS : Hid (RefAt wc l (k + 1) (k + 1) u10 wr) := by
                          refine hd.out.ends (Or.inl HAT.out) (by rw [HLN.out]; omega) hd.out.bel ?_
                          have : CC l k = [] := List.eq_nil_of_length_eq_zero (by rw [HLN.out]; omega)
                          rw [this]
                          simpa using HRW.out
                        clear h24
                        go_wp2
                        go_roundw
                        case rel => exact ⟨k + 1, k + 1, by omega, by omega, by go_num, by go_num, HS⟩
                        case measure => simp [intOf]; omega
                · obtain rfl : k = s.size := by omega
                  have HKL : Hid (s.size = l.length) := hsz.out
                  by_cases h24 : 24 < s.size - q
                  · have HX : Hid (R = ([], 48)) := by show _ = _; rw [HP1.out, if_pos (long_mem (CC_in (Or.inr HKL.out)) (by rw [HLN.out]; exact h24))]
                    have d4 : decide ((24 : Int) < (s.size : Int) - (q : Int)) = true := decide_eq_true (by omega)
                    clear h24
                    go_wp2
                    go_ret2
                    exact ⟨_, by rw [HX.out]; rfl, by rw [HX.out]; exact StL.nil _, hd.out.bel⟩
                  · have d4 : decide ((24 : Int) < (s.size : Int) - (q : Int)) = false := decide_eq_false (by omega)
                    by_cases hkq0 : q < s.size
                    · have hCC : (CC l s.size).isEmpty = false := by
                        cases hc : CC l s.size with
                        | nil => have := HLN.out; rw [hc] at this; simp at this; omega
                        | cons b r => rfl
                      have HCC := Lib.hid hCC
                      have H24 := Lib.hid h24
                      clear h24 hCC
                      go_wp2_with (at_builtin; refine wpList_append_own _ rfl (.tmp 62) (.tmp 67) 22 rfl wc.heap.size 9 i0 _ 1 16 Tryd.underlying22 hi hz0 hz1 hz2 rfl (by decide) _ _ _ rfl (HRW.out.alloc _) ⟨wr.heap.size, 0, none⟩ 1 1 [.string (s.extract q s.size)] rfl rfl (cell_one_new _ _ _) (strs_one _) ?c3 ?c4 ?c5 ?_)
                      case c3 => have := HDF.out; unfold maxLen; omega
                      case c4 => have := HDF.out; omega
                      case c5 => have := hd.out.bel.size; simp; omega
                      intro v3 w4 hown3 hgrow3 _
                      have HT := Lib.hid (HRW.out.more (x := CC l s.size) hd.out.bel ((Below.refl _ _).alloc (Nat.le_refl _) _) (by unfold strV; rw [← HEX.out]; exact hown3) hgrow3)
                      have HS : Hid (RefAt wc l (s.size + 1) (s.size + 1) v3 w4) := by
                        refine hd.out.ends (Or.inr HKL.out) (by rw [HLN.out]; have := H24.out; omega) HT.out.2 ?_
                        have e : [CC l s.size].filter (fun p => !p.isEmpty) = [CC l s.size] := by simp [HCC.out]
                        rw [e]
                        exact HT.out.1
                      clear hown3 hgrow3
                      go_wp2
                      go_roundw
                      case rel => exact ⟨s.size + 1, s.size + 1, by omega, by omega, by go_num, by go_num, HS⟩
                      case measure => simp [intOf]
                    · have HS : Hid (RefAt wc l (s.size + 1) (s.size + 1) u10 wr) := by
                        refine hd.out.ends (Or.inr HKL.out) (by rw [HLN.out]; omega) hd.out.bel ?_
                        have : CC l s.size = [] := List.eq_nil_of_length_eq_zero (by rw [HLN.out]; omega)
                        rw [this]
                        simpa using HRW.out
                      clear h24
                      go_wp2
                      go_roundw
                      case rel => exact ⟨s.size + 1, s.size + 1, by omega, by omega, by go_num, by go_num, HS⟩
                      case measure => simp [intOf]
              · have hke : k = l.length + 1 := by have := hsz.out; omega
                have HF := Lib.hid (hd.out.fin hke)
                have dle : s.size < k := by omega
                have HX : Hid (R = ((cutL l).filter (fun p => !p.isEmpty), 0)) := by show _ = _; rw [HP1.out, HF.out.2, if_neg (by simp)]
                clear hke
                go_wp2
                go_ret2
                exact ⟨_, by rw [HX.out]; rfl, by rw [HX.out]; exact HF.out.1.stl, hd.out.bel⟩
end Go.Proofs.YtgmkpdoejehgdaaDoor
