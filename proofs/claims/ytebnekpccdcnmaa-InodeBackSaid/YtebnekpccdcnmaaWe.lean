/- Walks of the layer wire: the reader's Text; Read. -/
import Derived.Test.YtebnekpccdcnmaaWd
import Derived.Laws.AppendOwnNone
import Derived.Lib.SliceRun
namespace Go.Proofs.Ytebnekpccdcnmaa
set_option linter.unusedVariables false
set_option linter.unusedSimpArgs false
open Go.RowKit
set_option maxRecDepth 100000

/-- Is a text of n bytes asked that there is none of? -/
def badX (sp : Bool) (n : Int) : Bool := sp || decide (n < 1)
/-- Do the bytes hold no text? -/
def noText (g : List Int) (n : Int) : Bool := decide (n - 1 < g.getD 0 0) || !(g.drop (1 + (g.getD 0 0).toNat)).all (· == 0)
def textBad (xs : List Int) (sp : Bool) (n : Int) : Bool :=
  badT xs (badX sp n) n || (!(gotT xs (badX sp n) n).isEmpty && noText (gotT xs (badX sp n) n) n)
def textV (xs : List Int) (sp : Bool) (n : Int) : ByteArray :=
  if (gotT xs (badX sp n) n).isEmpty || noText (gotT xs (badX sp n) n) n then ByteArray.empty
  else strOfNums (((gotT xs (badX sp n) n).take (1 + ((gotT xs (badX sp n) n).getD 0 0).toNat)).drop 1)

def Texted (w : World) (R L off : Nat) (xs : List Int) (sp : Bool) (n : Int) (e : Ending) (w' : World) : Prop :=
  OnRdr w R L (off + (xs.length - (restT xs (badX sp n) n).length)) (restT xs (badX sp n) n) (textBad xs sp n) (.string (textV xs sp n)) e w'

theorem got_len (xs : List Int) (sp : Bool) (n : Int) (h : gotT xs sp n ≠ []) : badT xs sp n = false ∧ ((gotT xs sp n).length : Int) = n := by
  cases hb : badT xs sp n
  · refine ⟨rfl, ?_⟩
    have hx : ¬ (sp = true ∨ n < 0 ∨ (xs.length : Int) < n) := fun hc => by rw [(badT_iff xs sp n).2 hc] at hb; cases hb
    unfold gotT
    rw [hb, if_neg (by simp), List.length_take]
    omega
  · exact absurd (by unfold gotT; rw [hb, if_pos rfl]) h

theorem texted_none {w : World} {R L off : Nat} {xs : List Int} {sp : Bool} {n : Int} {w' : World} (hX : badX sp n = sp) (hg : gotT xs sp n = [])
    (h : Rdr w' R L (off + (xs.length - (restT xs sp n).length)) (restT xs sp n) (badT xs sp n) ∧ w.grownBy w' (some R) ∧ w'.heap.size = w.heap.size) : Texted w R L off xs sp n (.returned (.string ByteArray.empty)) w' := by
  unfold Texted textBad textV
  rw [hX, hg]
  refine ⟨rfl, ?_⟩
  simpa using h
theorem texted_bad {w : World} {R L off : Nat} {xs : List Int} {sp : Bool} {n : Int} {w' : World} (hX : badX sp n = sp) (hg : gotT xs sp n ≠ []) (hN : noText (gotT xs sp n) n = true)
    (h : Rdr w' R L (off + (xs.length - (restT xs sp n).length)) (restT xs sp n) true ∧ w.grownBy w' (some R) ∧ w'.heap.size = w.heap.size) : Texted w R L off xs sp n (.returned (.string ByteArray.empty)) w' := by
  unfold Texted textBad textV
  rw [hX, hN]
  have : (gotT xs sp n).isEmpty = false := by cases hq : gotT xs sp n; exact absurd hq hg; rfl
  rw [this]
  refine ⟨rfl, ?_⟩
  simpa using h
theorem texted_good {w : World} {R L off : Nat} {xs : List Int} {sp : Bool} {n : Int} {w' : World} (hX : badX sp n = sp) (hg : gotT xs sp n ≠ []) (hN : noText (gotT xs sp n) n = false) (z : Nat) (hz : (gotT xs sp n).getD 0 0 = (z : Int))
    (h : Rdr w' R L (off + (xs.length - (restT xs sp n).length)) (restT xs sp n) (badT xs sp n) ∧ w.grownBy w' (some R) ∧ w'.heap.size = w.heap.size) : Texted w R L off xs sp n (.returned (.string (strOfNums (((gotT xs sp n).take (1 + z)).drop 1)))) w' := by
  unfold Texted textBad textV
  rw [hX, hN]
  have : (gotT xs sp n).isEmpty = false := by cases hq : gotT xs sp n; exact absurd hq hg; rfl
  rw [this, hz]
  refine ⟨rfl, ?_⟩
  simpa using h

/-- Where it lies in b[1:1+z]. -/
theorem part_run {w : World} {L off l z : Nat} {a : Option Addr} {g : List Int} (h : BtsAt w L off (.slice a l l) g) (hz : 1 + z ≤ l) :
    (convert 32 9 (.slice (if l = 1 then a else a.map fun x => x.add 1) z (l - 1))).run Try.prog w = .ok (.string (strOfNums ((g.take (1 + z)).drop 1))) w := by
  obtain ⟨_, _, hc⟩ := h.len
  have h1 := h.take (1 + z) hz l hz (by unfold maxLen; omega)
  have h2 := h1.drop 1 (by omega) (if l = 1 then a else a.map fun x => x.add 1) (fun hlt => by rw [if_neg (by omega)]) (l - 1) (by omega) (by unfold maxLen; omega)
  rw [show 1 + z - 1 = z by omega] at h2
  exact Bts.run_str ⟨L, _, Nat.le_refl _, h2⟩ 32 9 5 Try.underlying32 Try.underlying5 Try.underlying9
/-- Where it lies in b[1+z:]. -/
theorem tail_bts {w : World} {L off l z : Nat} {a : Option Addr} {g : List Int} (h : BtsAt w L off (.slice a l l) g) (hz : 1 + z ≤ l) :
    BtsAt w L (off + (1 + z)) (.slice (if l = 1 + z then a else a.map fun x => x.add (1 + z)) (l - (1 + z)) (l - (1 + z))) (g.drop (1 + z)) := by
  obtain ⟨_, _, hc⟩ := h.len
  exact h.drop (1 + z) hz _ (fun hlt => by rw [if_neg (by omega)]) (l - (1 + z)) (Nat.le_refl _) (by unfold maxLen; omega)

theorem addr_add (L off k : Nat) : (⟨L, off, none⟩ : Addr).add k = ⟨L, off + k, none⟩ := by unfold Addr.add; by_cases h : k = 0 <;> simp [h]
theorem tail_bts1 {w : World} {L off l z : Nat} {g : List Int} (h : BtsAt w L off (.slice (some ⟨L, off, none⟩) l l) g) (hz : 1 + z ≤ l) (hne : ¬ l = 1 + z) :
    BtsAt w L (off + (1 + z)) (.slice (some ⟨L, off + (1 + z), none⟩) (l - (1 + z)) (l - (1 + z))) (g.drop (1 + z)) := by
  have := tail_bts h hz
  rw [if_neg hne, Option.map_some, addr_add] at this
  exact this
theorem tail_bts0 {w : World} {L off l z : Nat} {g : List Int} (h : BtsAt w L off (.slice (some ⟨L, off, none⟩) l l) g) (he : l = 1 + z) :
    BtsAt w L (off + (1 + z)) (.slice (some ⟨L, off, none⟩) 0 0) (g.drop (1 + z)) := by
  have := tail_bts h (Nat.le_of_eq he.symm)
  rw [if_pos he, he, Nat.sub_self] at this
  exact this
theorem part_run1 {w : World} {L off l z : Nat} {g : List Int} (h : BtsAt w L off (.slice (some ⟨L, off, none⟩) l l) g) (hz : 1 + z ≤ l) (hne : ¬ l = 1) :
    (convert 32 9 (.slice (some ⟨L, off + 1, none⟩) z (l - 1))).run Try.prog w = .ok (.string (strOfNums ((g.take (1 + z)).drop 1))) w := by
  have := part_run h hz
  rw [if_neg hne, Option.map_some, addr_add] at this
  exact this
theorem part_run0 {w : World} {L off z : Nat} {g : List Int} (h : BtsAt w L off (.slice (some ⟨L, off, none⟩) 1 1) g) (hz : 1 + z ≤ 1) :
    (convert 32 9 (.slice (some ⟨L, off, none⟩) 0 0)).run Try.prog w = .ok (.string (strOfNums ((g.take (1 + z)).drop 1))) w := by
  have := part_run h hz
  rw [if_pos rfl, show z = 0 by omega] at this
  rw [show z = 0 by omega]
  exact this

set_option maxHeartbeats 1000000 in
/-- (*wire.Reader).Text, n at least 1 -/
theorem textR_pos (R L off : Nat) (xs : List Int) (sp : Bool) (n : Int) (w : World) (h : Rdr w R L off xs sp) (hn : 1 ≤ n) (hn2 : n ≤ 9223372036854775807) :
    Calls Try.prog 35 #[.pointer (some ⟨R, 0, none⟩), .int .i64 n] w (Texted w R L off xs sp n) := by
  have H := Lib.hid h
  clear h
  have HX : Hid (badX sp n = sp) := by show badX sp n = sp; unfold badX; rw [decide_eq_false (show ¬ n < 1 by omega)]; simp
  have g1 : decide (n < 1) = false := decide_eq_false (by omega)
  by_cases hg : gotT xs sp n = []
  · have HG := Lib.hid hg
    clear hg
    go_enter Try.func35, Try.ntmps35
    go_wp2_with (go_at_call 54; refine (take_any R L off xs sp n _ H.out).mono ?_; rintro e w2 ⟨a, l, ⟨rfl, h2⟩, h3⟩; have H2 := Lib.hid h2; have hl := h3.len.1; rw [HG.out] at hl; obtain rfl : l = 0 := hl; clear h2 h3)
    go_ret
    exact texted_none HX.out HG.out H2.out
  · obtain ⟨hbT, hgl0⟩ := got_len xs sp n hg
    obtain ⟨m, rfl⟩ := Int.eq_ofNat_of_zero_le (show 0 ≤ n by omega)
    have hgl : (gotT xs sp m).length = m := by omega
    have hrange : ∀ x ∈ gotT xs sp m, 0 ≤ x ∧ x < 256 := by
      obtain ⟨_, _, _, _, hb⟩ := H.out
      intro x hx
      unfold gotT at hx
      split at hx
      · simp at hx
      · exact hb.range x (List.mem_of_mem_take hx)
    obtain ⟨z, hz⟩ : ∃ z : Nat, (gotT xs sp m).getD 0 0 = (z : Int) := Int.eq_ofNat_of_zero_le (range_at hrange 0).1
    have hzb : z < 256 := by have := (range_at hrange 0).2; rw [hz] at this; omega
    have HZ := Lib.hid hz
    have HT := Lib.hid hbT
    have HL := Lib.hid hgl
    have HG := Lib.hid hg
    have hm0 : 0 < m := by omega
    have g2 : ((m : Int) == 0) = false := by rw [beq_eq_false_iff_ne]; omega
    clear hbT hg hgl hgl0 hz hrange hn
    by_cases hA : (m : Int) - 1 < (z : Int)
    · have HN : Hid (noText (gotT xs sp m) m = true) := by
        show noText (gotT xs sp m) m = true
        unfold noText; rw [HZ.out, decide_eq_true hA]; rfl
      go_enter Try.func35, Try.ntmps35
      go_wp2_with (first
        | (go_at_call 54; refine (take_any R L off xs sp m _ H.out).mono ?_; rintro e w2 ⟨a, l, ⟨rfl, h2⟩, h3⟩; have H2 := Lib.hid h2; obtain rfl : l = m := h3.len.1.trans HL.out; have hc0 := (h3.cells hm0).2 0 hm0; obtain rfl := (h3.cells hm0).1; rw [Nat.add_zero, HZ.out] at hc0; clear h2 h3)
        | (go_at_call 34; refine (spoil_any R L _ _ _ _ H2.out.1).mono ?_; rintro e w3 ⟨rfl, h4⟩; have H4 := Lib.hid h4; clear h4))
      go_ret
      exact texted_bad HX.out HG.out HN.out (stp_then H2.out H4.out)
    · have hz1 : 1 + z ≤ m := by omega
      have hA' : decide ((m : Int) - 1 < (z : Int)) = false := decide_eq_false hA
      clear hA
      cases hall : ((gotT xs sp m).drop (1 + z)).all (· == 0)
      · have HN : Hid (noText (gotT xs sp m) m = true) := by
          show noText (gotT xs sp m) m = true
          unfold noText; rw [HZ.out, Int.toNat_natCast, hall]; simp
        have HA := Lib.hid hall
        clear hall
        by_cases hzm : m = 1 + z
        · -- behind the text nothing is left, so all of it is 0
          have : (gotT xs sp m).drop (1 + z) = [] := List.drop_eq_nil_of_le (by rw [HL.out]; omega)
          rw [this] at HA
          exact absurd HA.out (by simp)
        · have HM := Lib.hid hzm
          go_enter Try.func35, Try.ntmps35
          go_wp2_with (first
            | (go_at_call 54; refine (take_any R L off xs sp m _ H.out).mono ?_; rintro e w2 ⟨a, l, ⟨rfl, h2⟩, h3⟩; have H2 := Lib.hid h2; have hlm : l = m := h3.len.1.trans HL.out; rw [hlm] at h3; have hc0 := (h3.cells hm0).2 0 hm0; obtain rfl := (h3.cells hm0).1; rw [Nat.add_zero, HZ.out] at hc0; have HB := Lib.hid (tail_bts1 h3 hz1 HM.out); rw [hlm]; clear h2 h3 hlm)
            | (go_at_call 39; refine (zero_any _ _ _ L _ _ ⟨L, _, Nat.le_refl _, HB.out⟩).mono ?_; rintro e w' ⟨rfl, rfl⟩; have hq := HA.out; rw [hq])
            | (go_at_call 34; refine (spoil_any R L _ _ _ _ H2.out.1).mono ?_; rintro e w3 ⟨rfl, h4⟩; have H4 := Lib.hid h4; clear h4))
          go_ret
          exact texted_bad HX.out HG.out HN.out (stp_then H2.out H4.out)
      · have HN : Hid (noText (gotT xs sp m) m = false) := by
          show noText (gotT xs sp m) m = false
          unfold noText; rw [HZ.out, Int.toNat_natCast, hall, hA']; rfl
        have HA := Lib.hid hall
        clear hall
        obtain ⟨S, HS⟩ : ∃ S, Hid (strOfNums (((gotT xs sp m).take (1 + z)).drop 1) = S) := ⟨_, rfl⟩
        by_cases hzm : m = 1 + z
        · by_cases hm1 : m = 1
          · subst hm1
            have HM := Lib.hid hzm
            have hz0 : z = 0 := by omega
            subst hz0
            clear hzm
            have HL : Hid ((gotT xs sp 1).length = 1) := HL
            have HZ : Hid ((gotT xs sp 1).getD 0 0 = ((0 : Nat) : Int)) := HZ
            have HA : Hid (((gotT xs sp 1).drop (1 + 0)).all (· == 0) = true) := HA
            obtain ⟨S, HS⟩ : ∃ S, Hid (strOfNums (((gotT xs sp 1).take (1 + 0)).drop 1) = S) := ⟨_, rfl⟩
            go_enter Try.func35, Try.ntmps35
            go_wp2_with (first
              | (go_at_call 54; refine (take_any R L off xs sp _ _ H.out).mono ?_; rintro e w2 ⟨a, l, ⟨rfl, h2⟩, h3⟩; have H2 := Lib.hid h2; have hlm : l = 1 := h3.len.1.trans HL.out; rw [hlm] at h3; have hc0 := (h3.cells hm0).2 0 hm0; obtain rfl := (h3.cells hm0).1; rw [Nat.add_zero, HZ.out] at hc0; have HB := Lib.hid (tail_bts0 h3 HM.out); have hp := part_run0 h3 hz1; rw [HS.out] at hp; rw [hlm]; clear h2 h3 hlm)
              | (go_at_call 39; refine (zero_any _ _ _ L _ _ ⟨L, _, Nat.le_refl _, HB.out⟩).mono ?_; rintro e w' ⟨rfl, rfl⟩; have hq := HA.out; rw [hq]))
            go_ret
            have he : Texted w R L off xs sp 1 (.returned (.string (strOfNums (((gotT xs sp 1).take (1 + 0)).drop 1)))) w2 := texted_good HX.out HG.out HN.out 0 HZ.out H2.out
            rw [HS.out] at he
            exact he
          · have HM := Lib.hid hzm
            have HM1 := Lib.hid hm1
            have hzr : 1 + z = m := hzm.symm
            have HZM : Hid (m - 1 = z) := by show m - 1 = z; omega
            clear hzm
            go_enter Try.func35, Try.ntmps35
            go_wp2_with (first
              | (go_at_call 54; refine (take_any R L off xs sp _ _ H.out).mono ?_; rintro e w2 ⟨a, l, ⟨rfl, h2⟩, h3⟩; have H2 := Lib.hid h2; have hlm : l = m := h3.len.1.trans HL.out; rw [hlm] at h3; have hc0 := (h3.cells hm0).2 0 hm0; obtain rfl := (h3.cells hm0).1; rw [Nat.add_zero, HZ.out] at hc0; have HB := Lib.hid (tail_bts0 h3 HM.out); have hp := part_run1 h3 hz1 HM1.out; rw [HS.out] at hp; have hp2 := hp; rw [← HZM.out] at hp2; rw [hlm]; clear h2 h3 hlm)
              | (go_at_call 39; refine (zero_any _ _ _ L _ _ ⟨L, _, Nat.le_refl _, HB.out⟩).mono ?_; rintro e w' ⟨rfl, rfl⟩; have hq := HA.out; rw [hq]))
            go_ret
            have he := texted_good HX.out HG.out HN.out z HZ.out H2.out
            rw [HS.out] at he
            exact he
        · have hm1 : ¬ m = 1 := by omega
          have HM := Lib.hid hzm
          have HM1 := Lib.hid hm1
          go_enter Try.func35, Try.ntmps35
          go_wp2_with (first
            | (go_at_call 54; refine (take_any R L off xs sp _ _ H.out).mono ?_; rintro e w2 ⟨a, l, ⟨rfl, h2⟩, h3⟩; have H2 := Lib.hid h2; have hlm : l = m := h3.len.1.trans HL.out; rw [hlm] at h3; have hc0 := (h3.cells hm0).2 0 hm0; obtain rfl := (h3.cells hm0).1; rw [Nat.add_zero, HZ.out] at hc0; have HB := Lib.hid (tail_bts1 h3 hz1 HM.out); have hp := part_run1 h3 hz1 HM1.out; rw [HS.out] at hp; rw [hlm]; clear h2 h3 hlm)
            | (go_at_call 39; refine (zero_any _ _ _ L _ _ ⟨L, _, Nat.le_refl _, HB.out⟩).mono ?_; rintro e w' ⟨rfl, rfl⟩; have hq := HA.out; rw [hq]))
          go_ret
          have he := texted_good HX.out HG.out HN.out z HZ.out H2.out
          rw [HS.out] at he
          exact he

/-- (*wire.Reader).Text, n below 1: nothing is taken. -/
theorem textR_few (R L off : Nat) (xs : List Int) (sp : Bool) (n : Int) (w : World) (h : Rdr w R L off xs sp) (hn : n < 1) :
    Calls Try.prog 35 #[.pointer (some ⟨R, 0, none⟩), .int .i64 n] w (Texted w R L off xs sp n) := by
  have H := Lib.hid h
  clear h
  have HX : Hid (badX sp n = true) := by show badX sp n = true; unfold badX; rw [decide_eq_true hn]; simp
  have HG : Hid (gotT xs true n = []) := gotT_bad xs n
  go_enter Try.func35, Try.ntmps35
  go_wp2_with (first
    | (go_at_call 34; refine (spoil_any R L off xs sp _ H.out).mono ?_; rintro e w1 ⟨rfl, h1⟩; have H1 := Lib.hid h1; clear h1)
    | (go_at_call 54; refine (take_any R L off xs true n _ H1.out.1).mono ?_; rintro e w2 ⟨a, l, ⟨rfl, h2⟩, h3⟩; have H2 := Lib.hid h2; have hl := h3.len.1; rw [HG.out] at hl; obtain rfl : l = 0 := hl; clear h2 h3))
  go_ret
  unfold Texted textBad textV
  rw [HX.out, HG.out]
  refine ⟨rfl, ?_⟩
  simpa using stp_then H1.out H2.out
theorem textR_any (R L off : Nat) (xs : List Int) (sp : Bool) (n : Int) (w : World) (h : Rdr w R L off xs sp) (hn2 : n ≤ 9223372036854775807) :
    Calls Try.prog 35 #[.pointer (some ⟨R, 0, none⟩), .int .i64 n] w (Texted w R L off xs sp n) := by
  by_cases hn : n < 1
  · exact textR_few R L off xs sp n w h hn
  · exact textR_pos R L off xs sp n w h (by omega) hn2
theorem textR_nil (w : World) : Calls Try.prog 35 #[.pointer none, .int .i64 1] w fun e w' => e = .returned (.string ByteArray.empty) ∧ w = w' := by
  go_enter Try.func35, Try.ntmps35
  go_wp2_with (go_at_call 54; refine (take_nil _ _).mono ?_; rintro e w' ⟨rfl, rfl⟩)
  go_ret
  exact ⟨rfl, rfl⟩

/-! Read: a reader over new memory. -/
theorem news_bts {w : World} {L off : Nat} {v : Value} {xs : List Int} (h : BtsAt w L off v xs) : ∀ j u, (xs.map (Value.int .u8))[j]? = some u → w.cell? ((⟨L, off, none⟩ : Addr).add j) = some u := by
  intro j u hj
  obtain ⟨a, cap, hv, h1, h2, h3, h4⟩ := h
  have hl : j < xs.length := by
    rcases Nat.lt_or_ge j xs.length with h | h
    · exact h
    · simp [List.getElem?_eq_none (show (xs.map (Value.int .u8)).length ≤ j by simpa using h)] at hj
  rw [addr_add, (h4 (by intro e; subst e; simp at hl)).2 j hl]
  simp [hl] at hj
  simp [List.getD, hl, hj]

/-- append([]byte{}, b...), b not nil: a copy in new memory. -/
theorem run_copied (w : World) (L off : Nat) (ad : Addr) (n c : Nat) (xs : List Int) (h : BtsAt w L off (.slice (some ad) n c) xs) (hlen : n ≤ 140737488355328) :
    ∃ g cap w', (Builtin.append_ #[32, 32] 32 #[.slice (some ⟨w.heap.size, 0, none⟩) 0 0, .slice (some ad) n c]).run Try.prog (w.alloc (.cells #[] 5)) = .ok (.slice (some ⟨g, 0, none⟩) n cap) w' ∧
      w.heap.size ≤ g ∧ w'.ownsRow w.heap.size 5 1 (.slice (some ⟨g, 0, none⟩) n cap) n (xs.map (Value.int .u8)) ∧ Below w.heap.size w w' := by
  obtain ⟨i0, hi, hz0, hz1, hz2⟩ := info_parts Try.infoByte
  have hn : n = xs.length := h.len.1
  have hown := World.ownsRow_lit (base := w.heap.size) (e := 5) (size := 1) w #[] 0 (Nat.le_refl _) (by decide) rfl
  have hb0 : Below w.heap.size w (w.alloc (.cells #[] 5)) := (Below.refl _ _).alloc (Nat.le_refl _) _
  have hsz : (w.alloc (.cells #[] 5)).heap.size = w.heap.size + 1 := by simp
  have hnews : ∀ j u, (xs.map (Value.int .u8))[j]? = some u → (w.alloc (.cells #[] 5)).cell? (ad.add j) = some u := by
    intro j u hj
    have hl : j < xs.length := by
      rcases Nat.lt_or_ge j xs.length with h | h
      · exact h
      · simp [List.getElem?_eq_none (show (xs.map (Value.int .u8)).length ≤ j by simpa using h)] at hj
    have had : ad = ⟨L, off, none⟩ := by
      obtain ⟨a, cap, hv, h1, h2, h3, h4⟩ := h
      simp only [Value.slice.injEq] at hv
      have := (h4 (by intro e; subst e; simp at hl)).1
      rw [← hv.1] at this
      simpa using this
    rw [had]
    exact news_bts (h.below hb0) j u hj
  obtain ⟨v', w', hr, ho, hg, _⟩ := run_append_own (P := Try.prog) (w.alloc (.cells #[] 5)) w.heap.size 32 32 5 i0 (.int .u8 0) 1 1 Try.underlying32 hi hz0 hz1 hz2 rfl (by decide) _ 0 _ hown ad n c (xs.map (Value.int .u8)) (by rw [List.length_map, hn, Nat.mul_one]) hnews (ints_oneCell _ _) (by unfold maxLen; omega) (by omega) (by rw [hsz]; omega)
  rw [Nat.zero_add] at ho
  have hg' : (w.alloc (.cells #[] 5)).grownBy w' (some w.heap.size) := hg
  have hbel : Below w.heap.size w w' := hb0.grown hg' (by rw [hsz]; omega) (by intro k hk; simp at hk; omega)
  have ho' : w'.ownsRow w.heap.size 5 1 v' n (xs.map (Value.int .u8)) := ho
  obtain ⟨hl, h2⟩ := ho
  rcases h2 with ⟨he, h0⟩ | ⟨g, cap, cur, he, hgb, r⟩
  · exfalso
    rename_i hiff
    have := hiff.1 he
    simp at this
  · subst he
    exact ⟨g, cap, w', hr, hgb, ho', hbel⟩

/-- What a call makes a copy comes to. -/
def Copied (w : World) (xs : List Int) (e : Ending) (w' : World) : Prop :=
  ∃ a n c L, e = .returned (.slice a n c) ∧ w.heap.size ≤ L ∧ BtsAt w' L 0 (.slice a n c) xs ∧ (∀ i, i < xs.length → w'.frozen? ⟨L, i, none⟩ = false) ∧ Below w.heap.size w w'

/-- The operation, where its run is known. -/
theorem wpList_append_run {P : Program} (w : World) {ops : Array Oper} {rest : List Oper} {o : Oper} {a : Act} {Q : Exit → Act → World → Prop} (hgd : o.guard = none) (d s : Operand) (t t' : TypeId)
    (ho : o.op = .call { callee := .builtin .append, args := #[d, s], argTypes := #[t, t'] }) (v u : Value) (hd : a.eval d = v) (hs : a.eval s = u) {v' : Value} {w' : World}
    (hr : (Builtin.append_ #[t, t'] o.type #[v, u]).run P w = .ok v' w') (h : wpList P ops Q rest (a.put o.dst v') w') : wpList P ops Q (o :: rest) a w :=
  wpList_plain hgd fun _ hK => by
    unfold Oper.wp execOp
    simp only [ho, resolve, invoke, builtin, Sem.run_bind, Sem.run_pure, Result.andThen_ok, List.map_toArray, List.map_cons, List.map_nil, hd, hs, hr]
    exact hK _ _ h

theorem clone_any (a : Option Addr) (n c L off : Nat) (xs : List Int) (w : World) (h : BtsAt w L off (.slice a n c) xs) (hlen : n ≤ 140737488355328) :
    Calls Try.prog 53 #[.slice a n c] w (Copied w xs) := by
  have hq := fun w => Lib.run_eql_slice_nil (P := Try.prog) w 32 5 a n c 0 0 Try.underlying32
  cases a with
  | none =>
    have hx : Hid (xs = []) := by
      obtain ⟨a, cap, hv, h1, h2, h3, h4⟩ := h
      simp only [Value.slice.injEq] at hv
      refine Classical.byContradiction fun hne => ?_
      have := (h4 hne).1
      rw [← hv.1] at this
      cases this
    clear h
    go_enter Try.func53, Try.ntmps53
    go_wp2
    go_ret
    rw [hx.out]
    exact ⟨none, 0, 0, w.heap.size, rfl, Nat.le_refl _, BtsAt.nil _ _ _, fun i hi => absurd hi (Nat.not_lt_zero _), Below.refl _ _⟩
  | some ad =>
    obtain ⟨g, cap, w', hr, hg, ho, hb⟩ := run_copied w L off ad n c xs h hlen
    have HO := Lib.hid ho
    have HB := Lib.hid hb
    have HR := Lib.hid h.range
    have HG := Lib.hid hg
    have HRUN := Lib.hid hr
    clear h ho hb hg hr
    go_enter Try.func53, Try.ntmps53
    go_wp2_with (at_builtin; refine wpList_append_run _ rfl _ _ _ _ rfl _ _ rfl rfl HRUN.out ?_)
    go_ret
    exact ⟨some ⟨g, 0, none⟩, n, cap, g, rfl, HG.out, (BtsAt.of_own HO.out HR.out).1, fun i _ => HO.out.frozenAt i, HB.out⟩

/-- wire.Read: a new reader, over new memory. -/
def ReadMade (w : World) (xs : List Int) (e : Ending) (w' : World) : Prop :=
  ∃ R L, e = .returned (.pointer (some ⟨R, 0, none⟩)) ∧ w.heap.size ≤ R ∧ w.heap.size ≤ L ∧ Rdr w' R L 0 xs false ∧ (∀ i, i < xs.length → w'.frozen? ⟨L, i, none⟩ = false) ∧ Below w.heap.size w w'

theorem read_any (a : Option Addr) (n c L off : Nat) (xs : List Int) (w : World) (h : BtsAt w L off (.slice a n c) xs) (hlen : n ≤ 140737488355328) :
    Calls Try.prog 30 #[.slice a n c] w (ReadMade w xs) := by
  have H := Lib.hid h
  clear h
  go_enter Try.func30, Try.ntmps30
  go_wp2_with (go_at_call 53; refine (clone_any a n c L off xs _ H.out hlen).mono ?_; rintro e w1 ⟨a1, n1, c1, L1, rfl, h1, h2, h3, h4⟩; have H1 := Lib.hid h1; have H2 := Lib.hid h2; have H3 := Lib.hid h3; have H4 := Lib.hid h4; clear h1 h2 h3 h4)
  go_ret
  have hs1 : w.heap.size ≤ w1.heap.size := H4.out.size
  have hb1 : Below w1.heap.size w1 (w1.alloc (.cells #[.slice a1 n1 c1, .bool false] 90)) := (Below.refl _ _).alloc (Nat.le_refl _) _
  refine ⟨w1.heap.size, L1, rfl, hs1, H1.out, ⟨a1, n1, c1, heap_alloc_new w1 _, H2.out.below hb1⟩, fun i hi => ?_, H4.out.trans (hb1.mono hs1)⟩
  rw [hb1.frozen (p := ⟨L1, i, none⟩) (H2.out.lt (by intro e; subst e; simp at hi))]
  exact H3.out i hi
end Go.Proofs.Ytebnekpccdcnmaa
