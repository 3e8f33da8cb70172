/- Walks of the reference's reader: Zeros, Text. -/
import Derived.Test.YtebnekpccdcnmaaRb
namespace Go.Proofs.Ytebnekpccdcnmaa
set_option linter.unusedVariables false
set_option linter.unusedSimpArgs false
open Go.RowKit
set_option maxRecDepth 100000

/-- Is one of the first j bytes not 0? -/
def anyZ (g : List Int) (j : Nat) : Bool := !(g.take j).all (· == 0)
theorem anyZ_zero (g : List Int) : anyZ g 0 = false := by simp [anyZ]
theorem anyZ_succ (g : List Int) (j : Nat) (hj : j < g.length) : anyZ g (j + 1) = (anyZ g j || !(g.getD j 0 == 0)) := by
  unfold anyZ
  rw [List.take_succ_eq_append_getElem hj, List.all_append]
  simp [List.getD, hj]
theorem anyZ_all (g : List Int) (j : Nat) (hj : g.length ≤ j) : anyZ g j = !g.all (· == 0) := by
  unfold anyZ; rw [List.take_of_length_le hj]

def RZeroed (w : World) (T L off : Nat) (bs : List Int) (k : Nat) (bad : Bool) (n : Int) (e : Ending) (w' : World) : Prop :=
  OnRR w T L off bs (atR bs k bad n) (zerosBad (bs.drop k) bad n) (.tuple #[]) e w'

theorem tailz_true {g : List Int} {z : Nat} (h : ∀ t, 1 + z ≤ t → t < g.length → g.getD t 0 = 0) : (g.drop (1 + z)).all (· == 0) = true := by
  rw [List.all_eq_true]
  intro x hx
  obtain ⟨j, hj, rfl⟩ := List.getElem_of_mem hx
  rw [List.length_drop] at hj
  have := h (1 + z + j) (by omega) (by omega)
  rw [List.getElem_drop]
  simpa [List.getD, show 1 + z + j < g.length by omega] using this
theorem tailz_false {g : List Int} {z t : Nat} (h1 : 1 + z ≤ t) (h2 : t < g.length) (hx : g.getD t 0 ≠ 0) : (g.drop (1 + z)).all (· == 0) = false := by
  rw [List.all_eq_false]
  refine ⟨g[t], ?_, ?_⟩
  · have : g[t] = (g.drop (1 + z))[t - (1 + z)]'(by rw [List.length_drop]; omega) := by rw [List.getElem_drop]; congr 1; omega
    rw [this]; exact List.getElem_mem _
  · simpa [List.getD, h2] using hx

def RTexted (w : World) (T L off : Nat) (bs : List Int) (k : Nat) (bad : Bool) (n : Int) (e : Ending) (w' : World) : Prop :=
  OnRR w T L off bs (atR bs k (badX bad n) n) (textBad (bs.drop k) bad n) (.string (textV (bs.drop k) bad n)) e w'

theorem rtexted_none {w w' : World} {T L off : Nat} {bs : List Int} {k : Nat} {bad : Bool} {n : Int} (hX : badX bad n = bad) (hg : gotT (bs.drop k) bad n = [])
    (h : RRdr w' T L off bs (atR bs k bad n) (badT (bs.drop k) bad n) ∧ w.grownBy w' (some T)) : RTexted w T L off bs k bad n (.returned (.string ByteArray.empty)) w' := by
  unfold RTexted textBad textV
  rw [hX, hg]
  refine ⟨rfl, ?_⟩
  simpa using h
theorem rtexted_bad {w w' : World} {T L off : Nat} {bs : List Int} {k : Nat} {bad : Bool} {n : Int} (hX : badX bad n = bad) (hg : gotT (bs.drop k) bad n ≠ []) (hN : noText (gotT (bs.drop k) bad n) n = true)
    (h : RRdr w' T L off bs (atR bs k bad n) true ∧ w.grownBy w' (some T)) : RTexted w T L off bs k bad n (.returned (.string ByteArray.empty)) w' := by
  unfold RTexted textBad textV
  rw [hX, hN]
  have : (gotT (bs.drop k) bad n).isEmpty = false := by cases hq : gotT (bs.drop k) bad n; exact absurd hq hg; rfl
  rw [this]
  refine ⟨rfl, ?_⟩
  simpa using h
theorem rtexted_good {w w' : World} {T L off : Nat} {bs : List Int} {k : Nat} {bad : Bool} {n : Int} (hX : badX bad n = bad) (hg : gotT (bs.drop k) bad n ≠ []) (hN : noText (gotT (bs.drop k) bad n) n = false) (z : Nat) (hz : (gotT (bs.drop k) bad n).getD 0 0 = (z : Int))
    (h : RRdr w' T L off bs (atR bs k bad n) (badT (bs.drop k) bad n) ∧ w.grownBy w' (some T)) : RTexted w T L off bs k bad n (.returned (.string (strOfNums (((gotT (bs.drop k) bad n).take (1 + z)).drop 1)))) w' := by
  unfold RTexted textBad textV
  rw [hX, hN]
  have : (gotT (bs.drop k) bad n).isEmpty = false := by cases hq : gotT (bs.drop k) bad n; exact absurd hq hg; rfl
  rw [this, hz]
  refine ⟨rfl, ?_⟩
  simpa using h

theorem partc_run {w : World} {L off l c z : Nat} {a : Option Addr} {g : List Int} (h : BtsAt w L off (.slice a l c) g) (hz : 1 + z ≤ l) :
    (convert 32 9 (.slice (if c = 1 then a else a.map fun x => x.add 1) z (c - 1))).run Try.prog w = .ok (.string (strOfNums ((g.take (1 + z)).drop 1))) w := by
  obtain ⟨_, _, hc⟩ := h.len
  have h1 := h.take (1 + z) hz l hz (by unfold maxLen; omega)
  have h2 := h1.drop 1 (by omega) (if c = 1 then a else a.map fun x => x.add 1) (fun hlt => by rw [if_neg (by omega)]) (c - 1) (by omega) (by unfold maxLen; omega)
  rw [show 1 + z - 1 = z by omega] at h2
  exact Bts.run_str ⟨L, _, Nat.le_refl _, h2⟩ 32 9 5 Try.underlying32 Try.underlying5 Try.underlying9
theorem partc_run1 {w : World} {L off l c z : Nat} {g : List Int} (h : BtsAt w L off (.slice (some ⟨L, off, none⟩) l c) g) (hz : 1 + z ≤ l) (hc : ¬ c = 1) :
    (convert 32 9 (.slice (some ⟨L, off + 1, none⟩) z (c - 1))).run Try.prog w = .ok (.string (strOfNums ((g.take (1 + z)).drop 1))) w := by
  have := partc_run h hz
  rwa [if_neg hc, Option.map_some, addr_add] at this

/-- (*cloisterref04.Reader).Text, n below 1 -/
theorem refTextR_few (T L off : Nat) (bs : List Int) (k : Nat) (bad : Bool) (n : Int) (w : World) (h : RRdr w T L off bs k bad) (hlen : bs.length ≤ 140737488355328) (hn : n < 1) :
    Calls Try.prog 43 #[.pointer (some ⟨T, 0, none⟩), .int .i64 n] w (RTexted w T L off bs k bad n) := by
  have HLEN := Lib.hid hlen
  have HX : Hid (badX bad n = true) := by show badX bad n = true; unfold badX; rw [decide_eq_true hn]; simp
  have HG : Hid (gotT (bs.drop k) true n = []) := gotT_bad _ n
  have HS := Lib.hid (h.setBad true)
  obtain ⟨ad, l, c, h0, h1, h2, f1, f2, hl, hkl, hlc, hc, hb⟩ := rr_parts h
  clear h h0 h1 f1 hl hkl hlc hc hb hlen
  go_enter Try.func43, Try.ntmps43
  go_wp2_with (go_at_call 55; refine (refBytes_any T L off bs k true n _ HS.out HLEN.out).mono ?_; rintro e w2 ⟨a, l, c, L', ⟨rfl, h2⟩, h3, _⟩; have H2 := Lib.hid h2; have hl := h3.len.1; rw [HG.out] at hl; obtain rfl : l = 0 := hl; clear h2 h3)
  go_ret
  unfold RTexted textBad textV
  rw [HX.out, HG.out]
  refine ⟨rfl, ?_⟩
  simpa using (⟨H2.out.1, grown_then (grownBy_set _ T 2 _) H2.out.2⟩ : RRdr w2 T L off bs (atR bs k true n) (badT (bs.drop k) true n) ∧ w.grownBy w2 (some T))

set_option maxHeartbeats 1000000 in
/-- (*cloisterref04.Reader).Text, n at least 1 -/
theorem refTextR_pos (T L off : Nat) (bs : List Int) (k : Nat) (bad : Bool) (n : Int) (w : World) (h : RRdr w T L off bs k bad) (hlen : bs.length ≤ 140737488355328) (hn : 1 ≤ n) (hn2 : n ≤ 9223372036854775807) :
    Calls Try.prog 43 #[.pointer (some ⟨T, 0, none⟩), .int .i64 n] w (RTexted w T L off bs k bad n) := by
  have H := Lib.hid h
  have HLEN := Lib.hid hlen
  have HRG : Hid (∀ x ∈ gotT (bs.drop k) bad n, 0 ≤ x ∧ x < 256) := by
    obtain ⟨_, _, _, _, hb, _⟩ := h
    intro x hx
    unfold gotT at hx
    split at hx
    · simp at hx
    · exact hb.range x (List.mem_of_mem_drop (List.mem_of_mem_take hx))
  clear h hlen
  have HX : Hid (badX bad n = bad) := by show badX bad n = bad; unfold badX; rw [decide_eq_false (show ¬ n < 1 by omega)]; simp
  have g1 : decide (n < 1) = false := decide_eq_false (by omega)
  by_cases hg : gotT (bs.drop k) bad n = []
  · have HG := Lib.hid hg
    clear hg
    go_enter Try.func43, Try.ntmps43
    go_wp2_with (go_at_call 55; refine (refBytes_any T L off bs k bad n _ H.out HLEN.out).mono ?_; rintro e w2 ⟨a, l, c, L', ⟨rfl, h2⟩, h3, _⟩; have H2 := Lib.hid h2; have hl := h3.len.1; rw [HG.out] at hl; obtain rfl : l = 0 := hl; clear h2 h3)
    go_ret
    exact rtexted_none HX.out HG.out H2.out
  · obtain ⟨hbT, hgl0⟩ := got_len (bs.drop k) bad n hg
    obtain ⟨m, rfl⟩ := Int.eq_ofNat_of_zero_le (show 0 ≤ n by omega)
    have hgl : (gotT (bs.drop k) bad m).length = m := by omega
    obtain ⟨z, hz⟩ : ∃ z : Nat, (gotT (bs.drop k) bad m).getD 0 0 = (z : Int) := Int.eq_ofNat_of_zero_le (range_at HRG.out 0).1
    have hzb : z < 256 := by have := (range_at HRG.out 0).2; rw [hz] at this; omega
    have HZ := Lib.hid hz
    have HT := Lib.hid hbT
    have HL := Lib.hid hgl
    have HG := Lib.hid hg
    have hm0 : 0 < m := by omega
    have g2 : ((m : Int) == 0) = false := by rw [beq_eq_false_iff_ne]; omega
    clear hbT hg hgl hgl0 hz hn
    by_cases hA : (m : Int) - 1 < (z : Int)
    · have HN : Hid (noText (gotT (bs.drop k) bad m) m = true) := by
        show noText (gotT (bs.drop k) bad m) m = true
        unfold noText; rw [HZ.out, decide_eq_true hA]; rfl
      go_enter Try.func43, Try.ntmps43
      go_wp2_with (go_at_call 55; refine (refBytes_any T L off bs k bad m _ H.out HLEN.out).mono ?_; rintro e w2 ⟨a, l, c, L', ⟨rfl, h2⟩, h3, _⟩; have H2 := Lib.hid h2; obtain rfl : l = m := h3.len.1.trans HL.out; have hc0 := (h3.cells hm0).2 0 hm0; obtain rfl := (h3.cells hm0).1; rw [Nat.add_zero, HZ.out] at hc0; obtain ⟨_, _, _, _, _, q2, _, qf, _⟩ := rr_parts h2.1; clear h2 h3)
      go_ret
      exact rtexted_bad HX.out HG.out HN.out ⟨H2.out.1.setBad true, grown_then H2.out.2 (grownBy_set _ T 2 _)⟩
    · have hz1 : 1 + z ≤ m := by omega
      have hA' : decide ((m : Int) - 1 < (z : Int)) = false := decide_eq_false hA
      clear hA
      have HNG : Hid (((gotT (bs.drop k) bad m).drop (1 + z)).all (· == 0) = false → noText (gotT (bs.drop k) bad m) m = true) := fun hall => by
        unfold noText; rw [HZ.out, Int.toNat_natCast, hall]; simp
      have HNT : Hid (((gotT (bs.drop k) bad m).drop (1 + z)).all (· == 0) = true → noText (gotT (bs.drop k) bad m) m = false) := fun hall => by
        unfold noText; rw [HZ.out, Int.toNat_natCast, hall, hA']; rfl
      obtain ⟨S, HS⟩ : ∃ S, Hid (strOfNums (((gotT (bs.drop k) bad m).take (1 + z)).drop 1) = S) := ⟨_, rfl⟩
      go_enter Try.func43, Try.ntmps43
      go_wp2_with (go_at_call 55; refine (refBytes_any T L off bs k bad m _ H.out HLEN.out).mono ?_; rintro e w2 ⟨a, l, c, L', ⟨rfl, h2⟩, h3, _⟩; have H2 := Lib.hid h2; obtain rfl : l = m := h3.len.1.trans HL.out; have hc0 := (h3.cells hm0).2 0 hm0; obtain rfl := (h3.cells hm0).1; rw [Nat.add_zero, HZ.out] at hc0; have H3 := Lib.hid h3; obtain ⟨_, _, _, _, _, q2, _, qf, _⟩ := rr_parts h2.1; have hlc := h3.len.2; clear h2 h3)
      obtain ⟨hlc1, hlc2⟩ := hlc
      clear hA'
      go_loop [7] (fun i => ∃ j : Nat, 1 + z ≤ j ∧ j ≤ l ∧ i = .int .i64 j ∧ Hid (∀ t, 1 + z ≤ t → t < j → (gotT (bs.drop k) bad l).getD t 0 = 0)) (fun i => l - (intOf i).toNat)
      case atStart => exact ⟨1 + z, Nat.le_refl _, hz1, by simp, fun t h1 h2 => absurd h1 (by omega)⟩
      case round =>
        obtain ⟨j, hj1, hj2, rfl, hzs⟩ := hrel
        by_cases hlt : j < l
        · have hcj := (H3.out.cells hm0).2 j hlt
          rw [Nat.zero_add] at hcj
          by_cases hx : (gotT (bs.drop k) bad l).getD j 0 = 0
          · rw [hx] at hcj
            have HXX := Lib.hid hx
            clear hx
            go_wp2
            go_round
            case rel => exact ⟨j + 1, by omega, by omega, by go_num, fun t h1 h2 => by
              by_cases e : t = j
              · rw [e]; exact HXX.out
              · exact hzs.out t h1 (by omega)⟩
            case measure => simp [intOf]; omega
          · have HN := Lib.hid (HNG.out (tailz_false hj1 (by rw [HL.out]; exact hlt) hx))
            have hb : ((gotT (bs.drop k) bad l).getD j 0 != 0) = true := by simpa using hx
            clear hx
            generalize (gotT (bs.drop k) bad l).getD j 0 = x at hcj hb
            go_wp2
            go_ret
            exact rtexted_bad HX.out HG.out HN.out ⟨H2.out.1.setBad true, grown_then H2.out.2 (grownBy_set _ T 2 _)⟩
        · have hjl : j = l := by omega
          have HN := Lib.hid (HNT.out (tailz_true (fun t h1 h2 => hzs.out t h1 (by rw [hjl]; rw [HL.out] at h2; exact h2))))
          have he := Lib.hid (rtexted_good HX.out HG.out HN.out z HZ.out H2.out)
          rw [HS.out] at he
          by_cases hc1 : c = 1
          · have hl1 : l = 1 := by omega
            have hz0 : z = 0 := by omega
            have hp := partc_run H3.out hz1
            rw [if_pos hc1, HS.out, hc1, hz0] at hp
            clear hjl hzs
            subst hz0
            subst hl1
            subst hc1
            go_wp2
            go_ret
            exact he.out
          · have hp := partc_run1 H3.out hz1 hc1
            rw [HS.out] at hp
            clear hjl hzs
            go_wp2
            go_ret
            exact he.out
theorem refTextR (T L off : Nat) (bs : List Int) (k : Nat) (bad : Bool) (n : Int) (w : World) (h : RRdr w T L off bs k bad) (hlen : bs.length ≤ 140737488355328) (hn2 : n ≤ 9223372036854775807) :
    Calls Try.prog 43 #[.pointer (some ⟨T, 0, none⟩), .int .i64 n] w (RTexted w T L off bs k bad n) := by
  by_cases hn : n < 1
  · exact refTextR_few T L off bs k bad n w h hlen hn
  · exact refTextR_pos T L off bs k bad n w h hlen (by omega) hn2
end Go.Proofs.Ytebnekpccdcnmaa
