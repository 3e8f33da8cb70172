/- Walks of the layer path: pieces. -/
import Derived.Test.YtgmkpdoejehgdaaDoorPb
import Derived.Test.YtgmkpdoejehgdaaDoorSh
import Derived.Outline
import Derived.Deep.DeepCutAuto
import Derived.Deep.CutBlock
namespace Go.Proofs.YtgmkpdoejehgdaaDoor
set_option linter.unusedVariables false
set_option linter.unusedSimpArgs false
open Go.RowKit

/-- A list of pieces and an error. -/
def PcPost (w : World) (r : List (List UInt8) × Int) (e : Ending) (w' : World) : Prop := ∃ v, e = .returned (.tuple #[v, .int .i64 r.2]) ∧ StL w' v r.1 ∧ Below w.heap.size w w'

theorem idx_mem (c : UInt8) : ∀ l : List UInt8, (0 ≤ Lib.indexByte l c) ↔ c ∈ l
  | [] => by simp [Lib.indexByte]
  | b :: l => by
    unfold Lib.indexByte
    have ih := idx_mem c l
    have hge := Lib.indexByte_ge l c
    by_cases e : b = c
    · subst e; simp
    · have hb : (b == c) = false := by simpa using e
      rw [hb]
      simp only [Bool.false_eq_true, if_false, List.mem_cons]
      by_cases h1 : Lib.indexByte l c = -1
      · have : (Lib.indexByte l c == -1) = true := beq_iff_eq.2 h1
        rw [if_pos this]
        constructor
        · intro h; omega
        · rintro (h | h)
          · exact absurd h.symm e
          · have := ih.2 h; omega
      · have : ¬ (Lib.indexByte l c == -1) = true := fun h => h1 (beq_iff_eq.1 h)
        rw [if_neg this]
        constructor
        · intro h; exact Or.inr (ih.1 (by omega))
        · rintro (h | h)
          · exact absurd h.symm e
          · have := ih.2 h; omega
theorem head_at (s : ByteArray) (h : 0 < s.size) : s.data.toList.headD 0 = s[0] := by
  obtain ⟨⟨l⟩⟩ := s
  match l, h with
  | b :: l, _ => rfl
theorem size_len (s : ByteArray) : s.size = s.data.toList.length := by
  obtain ⟨⟨l⟩⟩ := s
  rfl
theorem cut_few (s : List UInt8) : (cutL s).length ≤ s.length + 2 := by
  have h := Lib.count_le s [47]
  have h2 := countB_cut (strB s)
  have h3 : Lib.countB (strB s) ⟨#[47]⟩ = Lib.count s [47] := rfl
  rw [strB_list] at h2
  omega
/-- What Split's block holds. -/
theorem split_block (w : World) (s : List UInt8) (hs : s.length ≤ 1000) : StAt (w.alloc (.cells (List.map (Value.string ∘ strB) (cutL s)).toArray 9)) w.heap.size 0 (some ⟨w.heap.size, 0, none⟩) (cutL s).length (cutL s).length (fun i => strB ((cutL s).getD i [])) := by
  have := cut_few s
  refine ⟨Nat.le_refl _, by omega, fun hn => ⟨rfl, fun i hi => ?_⟩⟩
  rw [Nat.zero_add, cell_of_row _ _ i _ _ (0, 0) (heap_alloc_new w _)]
  show _ = some (Value.string (strB ((cutL s).getD i [])))
  rw [List.getD_eq_getElem?_getD, List.getElem?_eq_getElem hi]
  simp [hi]
/-- The pieces of the first k that are not empty. -/
def goodP (s : List UInt8) (k : Nat) : List (List UInt8) := ((cutL s).take k).filter fun p => !p.isEmpty
theorem goodP_few (s : List UInt8) (k : Nat) : (goodP s k).length ≤ k := by
  unfold goodP
  exact Nat.le_trans (List.length_filter_le _ _) (List.length_take_le _ _)
theorem goodP_skip {s : List UInt8} {k : Nat} (h : (cutL s)[k]? = some []) : goodP s (k + 1) = goodP s k := by
  unfold goodP
  rw [List.take_add_one, h]
  simp
theorem goodP_take {s : List UInt8} {k : Nat} {p : List UInt8} (h : (cutL s)[k]? = some p) (hp : p ≠ []) : goodP s (k + 1) = goodP s k ++ [p] := by
  unfold goodP
  rw [List.take_add_one, h]
  have : p.isEmpty = false := by cases p; exact absurd rfl hp; rfl
  simp [this]
theorem goodP_all (s : List UInt8) : goodP s (cutL s).length = (cutL s).filter (fun p => !p.isEmpty) := by
  unfold goodP
  rw [List.take_length]
theorem long_yes {s : List UInt8} {k : Nat} {p : List UInt8} (h : (cutL s)[k]? = some p) (hp : 24 < p.length) : longP s = true := by
  unfold longP
  rw [List.any_eq_true]
  exact ⟨p, List.mem_of_getElem? h, by simpa using hp⟩
theorem long_no {s : List UInt8} (h : ∀ k p, k < (cutL s).length → (cutL s)[k]? = some p → p.length ≤ 24) : longP s = false := by
  unfold longP
  rw [List.any_eq_false]
  intro p hp
  obtain ⟨k, hk⟩ := List.mem_iff_getElem?.1 hp
  have := h k p (List.getElem?_eq_some_iff.1 hk).1 hk
  simpa using this

set_option maxRecDepth 100000 in
set_option maxHeartbeats 1600000 in
theorem pieces_any (s : ByteArray) (most : Int) (whole : Bool) (mx : Int) (w : World) (hmx : w.cell? ⟨0, 0, none⟩ = some (.int .i64 mx)) (hm0 : 0 ≤ most) (hm1 : most ≤ 256) (hs : s.size ≤ 9223372036854775807) :
    Calls Tryd.prog 11 #[.string s, .int .i64 most, .bool whole] w (PcPost w (pcs s.data.toList most whole)) := by
  obtain ⟨i0, hi, hz0, hz1, hz2⟩ := info_parts infoStr
  have HMX := Lib.hid hmx
  obtain ⟨l, hl⟩ : ∃ l, Hid (s.data.toList = l) := ⟨_, rfl⟩
  have hsz : Hid (s.size = l.length) := by show _ = _; rw [size_len, hl.out]
  rw [hl.out]
  clear hmx
  by_cases he : l = []
  · have HX : Hid (pcs l most whole = ([], 40)) := by show _ = _; unfold pcs; rw [if_pos he]
    have e0 : s.toList.isEmpty = true := by rw [Lib.toList_data, hl.out, he]; rfl
    clear he
    go_enter Tryd.func11, Tryd.ntmps11
    go_wp2
    go_ret2
    exact ⟨_, by rw [HX.out]; rfl, by rw [HX.out]; exact StL.nil _, Below.refl _ _⟩
  · have e0 : s.toList.isEmpty = false := by
      rw [Lib.toList_data, hl.out]
      cases l with
      | nil => exact absurd rfl he
      | cons b l => rfl
    have hpos : 0 < s.size := by rw [hsz.out]; exact List.length_pos_iff.2 he
    by_cases hlm : most < (s.size : Int)
    · have HX : Hid (pcs l most whole = ([], 48)) := by show _ = _; unfold pcs; rw [if_neg he, if_pos (by rw [← hsz.out]; exact hlm)]
      have d1 : decide (most < (s.size : Int)) = true := decide_eq_true hlm
      clear he hlm
      go_enter Tryd.func11, Tryd.ntmps11
      go_wp2
      go_ret2
      exact ⟨_, by rw [HX.out]; rfl, by rw [HX.out]; exact StL.nil _, Below.refl _ _⟩
    · have d1 : decide (most < (s.size : Int)) = false := decide_eq_false hlm
      have hs256 : s.size ≤ 256 := by omega
      have HP0 : Hid (pcs l most whole = if badS l whole = true then ([], 47) else if longP l = true then ([], 48) else ((cutL l).filter (fun p => !p.isEmpty), 0)) := by
        show _ = _; unfold pcs; rw [if_neg he, if_neg (by rw [← hsz.out]; exact hlm)]
      obtain ⟨z, hz⟩ : ∃ z, Hid (Lib.indexByte s.data.toList 0 = z) := ⟨_, rfl⟩
      have hzm : 0 ≤ z ↔ (0 : UInt8) ∈ l := by rw [← hz.out, idx_mem, hl.out]
      have hhd : l.headD 0 = s[0] := by rw [← hl.out]; exact head_at s hpos
      clear hlm he
      by_cases hb : badS l whole = true
      · have HX : Hid (pcs l most whole = ([], 47)) := by show _ = _; rw [HP0.out, if_pos hb]
        rcases (show decide (0 ≤ z) = true ∨ (decide (0 ≤ z) = false ∧ whole = true ∧ ((s[0].toNat : Int) != 47) = true) by
          by_cases q : 0 ≤ z
          · exact Or.inl (decide_eq_true q)
          · right
            have hn : l.contains 0 = false := by
              cases hcc : l.contains 0 with
              | false => rfl
              | true => exact absurd (hzm.2 (by simpa using hcc)) q
            unfold badS at hb
            rw [hn, hhd] at hb
            simp only [Bool.false_or, Bool.and_eq_true] at hb
            refine ⟨decide_eq_false q, hb.1, ?_⟩
            have h2 := hb.2
            have h3 : s[0] ≠ 47 := by simpa using h2
            have h4 : (s[0].toNat : Int) ≠ 47 := fun e => h3 (UInt8.toNat_inj.1 (by show s[0].toNat = 47; omega))
            simpa using h4) with d2 | ⟨d2, rfl, d3⟩
        · clear hb hzm hhd
          go_enter Tryd.func11, Tryd.ntmps11
          go_wp2_with (go_at_call 13; refine (Tryd.strings_Contains_one s 0 _).mono ?_; rintro e w1 ⟨rfl, hw⟩; rw [hw, hz.out]; clear hw)
          go_ret2
          exact ⟨_, by rw [HX.out]; rfl, by rw [HX.out]; exact StL.nil _, Below.refl _ _⟩
        · clear hb hzm hhd
          go_enter Tryd.func11, Tryd.ntmps11
          go_wp2_with (go_at_call 13; refine (Tryd.strings_Contains_one s 0 _).mono ?_; rintro e w1 ⟨rfl, hw⟩; rw [hw, hz.out]; clear hw)
          go_ret2
          exact ⟨_, by rw [HX.out]; rfl, by rw [HX.out]; exact StL.nil _, Below.refl _ _⟩
      · obtain ⟨R, hR⟩ : ∃ R, Hid (pcs l most whole = R) := ⟨_, rfl⟩
        have HP1 : Hid (R = if longP l = true then ([], 48) else ((cutL l).filter (fun p => !p.isEmpty), 0)) := by show _ = _; rw [← hR.out, HP0.out, if_neg hb]
        rw [hR.out]
        have d2 : decide (0 ≤ z) = false := by
          refine decide_eq_false fun q => hb ?_
          unfold badS
          have : l.contains 0 = true := by simpa using hzm.1 q
          rw [this]; rfl
        rcases (show whole = false ∨ (whole = true ∧ ((s[0].toNat : Int) != 47) = false) by
          cases whole with
          | false => exact Or.inl rfl
          | true =>
            right
            refine ⟨rfl, ?_⟩
            cases hq : ((s[0].toNat : Int) != 47) with
            | false => rfl
            | true =>
              exfalso
              apply hb
              unfold badS
              rw [hhd]
              have h3 : s[0] ≠ 47 := fun e => by rw [e] at hq; exact absurd hq (by decide)
              have : (s[0] != 47) = true := by simpa using h3
              rw [this]; simp) with rfl | ⟨rfl, d3⟩
        all_goals
          clear hb hzm hhd
          have HSB := Lib.hid (splitB_cut s)
          have HCB := Lib.hid (countB_cut s)
          have HBK : Hid (StAt (w.alloc (.cells (List.map (Value.string ∘ strB) (cutL l)).toArray 9)) w.heap.size 0 (some ⟨w.heap.size, 0, none⟩) (cutL l).length (cutL l).length (fun i => strB ((cutL l).getD i []))) := split_block w l (by rw [← hsz.out]; omega)
          have HB1 : Hid (Below w.heap.size w (w.alloc (.cells (List.map (Value.string ∘ strB) (cutL l)).toArray 9))) := (Below.refl _ _).alloc (Nat.le_refl _) _
          rw [hl.out] at HSB HCB
          go_enter Tryd.func11, Tryd.ntmps11
          go_upto_block 1 with (first
            | (go_at_call 13; refine (Tryd.strings_Contains_one s 0 _).mono ?_; rintro e w1 ⟨rfl, hw⟩; rw [hw, hz.out]; clear hw)
            | (go_at_call 14; refine (Tryd.strings_Split s ⟨#[47]⟩ mx _ (by omega) HMX.out (by decide)).mono ?_; rintro e w2 ⟨rfl, hw⟩; rw [hw, HSB.out, HCB.out]; clear hw))
          generalize (w.alloc (.cells (List.map (Value.string ∘ strB) (cutL l)).toArray 9)) = w2 at HBK HB1 ⊢
          obtain ⟨B, hB⟩ : ∃ B, Hid (w.heap.size = B) := ⟨_, rfl⟩
          rw [hB.out] at HBK ⊢
          obtain ⟨n, hn⟩ : ∃ n, Hid ((cutL l).length = n) := ⟨_, rfl⟩
          rw [hn.out] at HBK ⊢
          have hn300 : n ≤ 300 := by have := cut_few l; have h1 := hn.out; have h2 := hsz.out; omega
          go_cut [8] (fun v wx => ∃ k : Nat, True ∧ Hid (longP l = false) ∧ Hid (SRow wx w2.heap.size v ((cutL l).filter (fun p => !p.isEmpty)) ∧ Below w.heap.size w wx))
          case first =>
            go_wp2_with fail
            go_loopw [8, 33] (fun v i wr => ∃ k : Nat, k ≤ n ∧ i = .int .i64 k ∧ Hid (SRow wr w2.heap.size v (goodP l k) ∧ Below w2.heap.size w2 wr) ∧ Hid (∀ j p, j < k → (cutL l)[j]? = some p → p.length ≤ 24)) (fun _ i _ => n - (intOf i).toNat)
            case atStart => exact ⟨0, Nat.zero_le _, rfl, ⟨SRow.nil _ _, Below.refl _ _⟩, fun j p hj => by omega⟩
            case round =>
              obtain ⟨k, hk, rfl, hd, hs24⟩ := hrel
              by_cases hlt : k < n
              · have c0 := ((HBK.out.below hd.out.2).2.2 (by omega)).2 k hlt
                obtain ⟨p, hp⟩ : ∃ p, (cutL l)[k]? = some p := ⟨(cutL l)[k]'(by rw [hn.out]; exact hlt), List.getElem?_eq_getElem _⟩
                obtain ⟨S, hS⟩ : ∃ S, Hid (strB p = S) := ⟨_, rfl⟩
                have c1 : wr.cell? ⟨B, k, none⟩ = some (.string S) := by
                  rw [Nat.zero_add] at c0
                  rw [c0, ← hS.out]
                  show some (Value.string (strB ((cutL l).getD k []))) = _
                  rw [List.getD_eq_getElem?_getD, hp]
                  rfl
                have hSl : S.size = p.length := by rw [← hS.out]; rfl
                have HP := Lib.hid hp
                clear c0 hp
                by_cases h24 : 24 < p.length
                · have HX : Hid (R = ([], 48)) := by show _ = _; rw [HP1.out, if_pos (long_yes HP.out h24)]
                  have d4 : decide (24 < (S.size : Int)) = true := decide_eq_true (by omega)
                  clear h24 hSl
                  go_wp2
                  go_ret2
                  exact ⟨_, by rw [HX.out]; rfl, by rw [HX.out]; exact StL.nil _, HB1.out.trans (hd.out.2.mono HB1.out.size)⟩
                · have d4 : decide (24 < (S.size : Int)) = false := decide_eq_false (by omega)
                  have HS24 : Hid (∀ j p, j < k + 1 → (cutL l)[j]? = some p → p.length ≤ 24) := fun j q hj hq => by
                    by_cases e : j = k
                    · rw [e, HP.out] at hq; injection hq with hq; rw [← hq]; omega
                    · exact hs24.out j q (by omega) hq
                  by_cases hp0 : p = []
                  · have d5 : S.toList.isEmpty = true := by rw [Lib.toList_data, ← hS.out, hp0]; rfl
                    have HG : Hid (goodP l (k + 1) = goodP l k) := goodP_skip (by rw [HP.out, hp0])
                    clear hp0 h24 hSl
                    go_wp2
                    go_roundw
                    case rel => exact ⟨k + 1, by omega, by go_num, by rw [HG.out]; exact hd, HS24⟩
                    case measure => simp [intOf]; omega
                  · have d5 : S.toList.isEmpty = false := by
                      rw [Lib.toList_data, ← hS.out]
                      cases p with
                      | nil => exact absurd rfl hp0
                      | cons b p => rfl
                    have HG : Hid (goodP l (k + 1) = goodP l k ++ [p]) := goodP_take HP.out hp0
                    have HF : Hid ((goodP l k).length ≤ 300) := Nat.le_trans (goodP_few l k) (by omega)
                    clear hp0 h24 hSl
                    go_wp2_with (at_builtin; refine wpList_append_own _ rfl (.tmp 42) (.tmp 44) 22 rfl w2.heap.size 9 i0 _ 1 16 Tryd.underlying22 hi hz0 hz1 hz2 rfl (by decide) _ _ _ rfl (hd.out.1.alloc _) ⟨wr.heap.size, 0, none⟩ 1 1 [.string S] rfl rfl (cell_one_new _ _ _) (strs_one S) ?c3 ?c4 ?c5 ?_)
                    case c3 => have := HF.out; unfold maxLen; omega
                    case c4 => have := HF.out; omega
                    case c5 => have := hd.out.2.size; simp; omega
                    intro v3 w4 hown3 hgrow3 _
                    have HT := Lib.hid (hd.out.1.more (x := p) hd.out.2 ((Below.refl _ _).alloc (Nat.le_refl _) _) (by unfold strV; rw [hS.out]; exact hown3) hgrow3)
                    clear hown3 hgrow3
                    go_wp2
                    go_roundw
                    case rel => exact ⟨k + 1, by omega, by go_num, by rw [HG.out]; exact HT, HS24⟩
                    case measure => simp [intOf]; omega
              · obtain rfl : k = n := by omega
                have HL := Lib.hid (long_no (s := l) (fun j q hj hq => hs24.out j q (by rw [← hn.out]; exact hj) hq))
                have HSR : Hid (SRow wr w2.heap.size u8 ((cutL l).filter (fun p => !p.isEmpty)) ∧ Below w.heap.size w wr) := by
                  refine ⟨?_, HB1.out.trans (hd.out.2.mono HB1.out.size)⟩
                  rw [← goodP_all, hn.out]; exact hd.out.1
                go_wp2
                go_meet
                exact ⟨0, trivial, HL, HSR⟩
          case rest =>
            obtain ⟨_, _, hlg, hr⟩ := hcut
            have HX : Hid (R = ((cutL l).filter (fun p => !p.isEmpty), 0)) := by show _ = _; rw [HP1.out, hlg.out, if_neg (by simp)]
            have HR := Lib.hid hr.out
            clear hlg hr
            go_wp2
            go_ret2
            exact ⟨_, by rw [HX.out]; rfl, by rw [HX.out]; exact HR.out.1.stl, HR.out.2⟩
end Go.Proofs.YtgmkpdoejehgdaaDoor
