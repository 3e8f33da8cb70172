/- AllocFills. -/
import Derived.Test.YteonlidamonbgaaAi
namespace Go.Proofs.Yteonlidamonbgaa
set_option linter.unusedVariables false
set_option linter.unusedSimpArgs false
open Go.ChangeShapes Go.WideShapes Go.ChangeAt Go.RowKit Fl

/-- A slice of ints. -/
def IsInts (w : World) (a : Option Addr) (len : Nat) (z : Nat → Int) : Prop :=
  len ≤ 9223372036854775807 ∧ (len = 0 ∨ ∃ b off, a = some ⟨b, off, none⟩ ∧ b < w.heap.size ∧ ∀ i, i < len → w.cell? ⟨b, off + i, none⟩ = some (.int .i64 (z i)) ∧ (-9223372036854775808 ≤ z i ∧ z i ≤ 9223372036854775807))
theorem open_goals {H : Type} {enc : TypeId × Value → H} {w : World} {v : Value} {d : DataW H} {ps : List MemPlace}
    (hval : Value.okWide Try.prog w .any 0 40 v) (h : DataW.Trod enc Try.prog w 0 (fun _ => true) true 40 v d ps) :
    ∃ (a : Option Addr) (len cap : Nat) (z : Nat → Int), v = .slice a len cap ∧ IsInts w a len z := by
  obtain ⟨a0, len0, cap0, rfl⟩ := WideShapes.okWide_slice Try.underlying40 hval
  obtain ⟨fuel, hf⟩ := h
  rcases ChangeShapes.open_ints Try.underlying40 Try.underlying3 (by kernel_rfl) hf with ⟨hcs, _⟩ | ⟨x, l, c, zs, hcs, _, hl, hm, hz, _, hcell, hwz⟩
  · simp [Value.cells] at hcs
    obtain ⟨rfl, rfl, rfl⟩ := hcs
    exact ⟨none, 0, 0, fun _ => 0, rfl, by omega, Or.inl rfl⟩
  · simp [Value.cells] at hcs
    obtain ⟨rfl, rfl, rfl⟩ := hcs
    have hmc : zs.length = cap0 := by simpa using hz
    refine ⟨some x, len0, cap0, fun i => zs.getD i 0, rfl, by unfold maxLen at hm; omega, ?_⟩
    by_cases h0 : len0 = 0
    · exact Or.inl h0
    · right
      obtain ⟨b, off, spot⟩ := x
      have hc := hcell 0 (by omega)
      have hspot : spot = none := by simpa [Addr.add] using World.cell?_spot hc
      subst hspot
      have hlt := World.block_lt_of_cell? w _ hc
      refine ⟨b, off, rfl, by simpa [Addr.add] using hlt, fun i hi => ?_⟩
      have h1 := hcell i (by omega)
      rw [add_at] at h1
      exact ⟨h1, bounds_i64 (hwz (zs.getD i 0) (by
        have : zs.getD i 0 = zs[i] := by simp [List.getD, show i < zs.length by omega]
        rw [this]; exact List.getElem_mem _))⟩

def off1 (f : Nat → Bool) (t : Nat) (i : Nat) : Bool := if i = t then false else f i
theorem cnt_off {f : Nat → Bool} {lo m t : Nat} (h1 : lo ≤ t) (h2 : t < lo + m) (hf : f t = true) : cntTo (off1 f t) lo m + 1 = cntTo f lo m := by
  induction m with
  | zero => omega
  | succ m ih =>
    unfold cntTo
    by_cases e : t = lo + m
    · rw [cntTo_congr (f := off1 f t) (g := f) (fun s h3 h4 => by unfold off1; rw [if_neg (by omega)])]
      subst e
      unfold off1
      rw [if_pos rfl, hf]
      simp
    · have := ih (by omega)
      have e2 : off1 f t (lo + m) = f (lo + m) := by unfold off1; rw [if_neg (by omega)]
      rw [e2]; omega
theorem cnt_some {f : Nat → Bool} {n : Nat} (h : 0 < cntTo f 0 n) {goal r d : Int} (hp : PickIs f n goal r d) : ∃ t : Nat, r = t ∧ d = 0 ∧ t < n ∧ f t = true := by
  have hd : d = 0 := by
    refine Classical.byContradiction fun hne => ?_
    have := (hp.full hne).2
    omega
  obtain ⟨t, h1, h2, h3⟩ := hp.place hd
  exact ⟨t, h1, hd, h2, h3⟩
theorem pick_free (a : Option Addr) (n c L off : Nat) (f : Nat → Bool) (goal : Int) (w : World) (h : BlF w L off a n c f) (hn : n ≤ 140737488351232) (h0 : 0 < cntTo f 0 n) :
    Calls Try.prog 7 #[.slice a n c, .int .i64 goal] w fun e w' => ∃ t : Nat, e = .returned (.tuple #[.int .i64 t, .int .i64 0]) ∧ (PickIs f n goal t 0 ∧ t < n ∧ f t = true) ∧ Below w.heap.size w w' :=
  (pick_any a n c L off f goal w h hn).mono fun e w' ⟨r, d, he, hp, hb⟩ => by
    obtain ⟨t, h1, h2, h3, h4⟩ := cnt_some h0 hp
    subst h1
    subst h2
    exact ⟨t, he, ⟨hp, h3, h4⟩, hb⟩
theorem pick_full (a : Option Addr) (n c L off : Nat) (f : Nat → Bool) (goal : Int) (w : World) (h : BlF w L off a n c f) (hn : n ≤ 140737488351232) (h0 : cntTo f 0 n = 0) :
    Calls Try.prog 7 #[.slice a n c, .int .i64 goal] w fun e w' => (∃ r : Int, e = .returned (.tuple #[.int .i64 r, .int .i64 5])) ∧ Below w.heap.size w w' :=
  (pick_any a n c L off f goal w h hn).mono fun e w' ⟨r, d, he, hp, hb⟩ => by
    have hd : d ≠ 0 := fun hd => by
      obtain ⟨t, h1, h2, h3⟩ := hp.place hd
      rw [none_all h0 t h2] at h3; cases h3
    rw [(hp.full hd).1] at he
    exact ⟨⟨r, he⟩, hb⟩
/-- A place is taken. -/
theorem BlF.taken {w : World} {M n c : Nat} {f : Nat → Bool} (h : BlF w M 0 (some ⟨M, 0, none⟩) n c f) (t : Nat) (ht : t < n) : BlF (w.setCell ⟨M, t, none⟩ (.bool false)) M 0 (some ⟨M, 0, none⟩) n c (off1 f t) := by
  obtain ⟨h1, h2, h3⟩ := h
  refine ⟨h1, h2, fun hn => ⟨rfl, fun i hi => ?_⟩⟩
  have hc := (h3 hn).2 i hi
  rw [Nat.zero_add] at hc ⊢
  unfold off1
  by_cases e : i = t
  · rw [if_pos e, e]
    rw [e] at hc
    exact World.cell?_setCell_same w _ _ hc
  · rw [if_neg e, ← hc]
    apply World.cell?_setCell_other
    intro e2; cases e2; exact e rfl

set_option maxRecDepth 100000 in
set_option maxHeartbeats 1600000 in
theorem fills_walk (a : Option Addr) (n c L off : Nat) (f : Nat → Bool) (a1 : Option Addr) (n1 c1 : Nat) (z : Nat → Int) (w : World) (h : BlF w L off a n c f) (hc : a = none → c = 0) (hlen : n ≤ 140737488351232) (hz : IsInts w a1 n1 z) :
    Calls Try.prog 5 #[.slice a n c, .slice a1 n1 c1] w fun e w' => e = .returned (.bool true) ∧ Below w.heap.size w w' := by
  have HN := Lib.hid hlen
  have HB := Lib.hid h
  have HC := Lib.hid hc
  have HZ := Lib.hid hz.2
  have hn1 := hz.1
  clear hc h hz
  by_cases h256 : 256 < n
  · have hd : decide ((256 : Int) < (n : Int)) = true := decide_eq_true (by omega)
    clear hlen
    go_enter Try.func5, Try.ntmps5
    go_upto_region 2 with (go_at_call 6; refine (fixed_any _).mono ?_; rintro e w1 ⟨rfl, hb⟩; have HW1 := Lib.hid hb; clear hb)
    go_wp2_with (go_at_call 6; refine (fixed_any _).mono ?_; rintro e w2 ⟨rfl, hb⟩; have HW2 := Lib.hid (HW1.out.trans (hb.mono HW1.out.size)); clear hb)
    go_ret
    exact ⟨rfl, HW2.out⟩
  · have hd : decide ((256 : Int) < (n : Int)) = false := decide_eq_false (by omega)
    have hn8 : n ≤ 256 := by omega
    clear h256 hlen
    go_enter Try.func5, Try.ntmps5
    go_upto_region 3 with (go_at_call 6; refine (fixed_any _).mono ?_; rintro e w1 ⟨rfl, hb⟩; obtain ⟨M, cm, w2, hr2, hm2, hb2, hf2, hw2, hmlt⟩ := copy_bools w1 a n c L off f (HB.out.below hb) HC.out HN.out; have HR2 := Lib.hid hr2; have HM := Lib.hid hb2; have HMB := Lib.hid (Nat.le_trans hb.size hm2); have HFZ := Lib.hid hf2; have HW2 := Lib.hid (hb.trans (hw2.mono hb.size)); clear hb hr2 hm2 hb2 hf2 hw2 hmlt)
    go_upto_region 4 with (at_builtin; refine wpList_append_run _ rfl _ _ _ _ rfl _ _ rfl rfl HR2.out ?_)
    obtain ⟨K, hK⟩ : ∃ K, Hid (cntTo f 0 n = K) := ⟨_, rfl⟩
    have hK8 : K ≤ 256 := by rw [← hK.out]; exact Nat.le_trans (cntTo_le f 0 n) hn8
    clear HR2
    go_wp2_with (go_at_call 8; refine (count_any _ _ _ _ _ _ _ HM.out).mono ?_; rintro e w' ⟨rfl, rfl⟩; rw [hK.out])
    go_loopw [27] (fun i wr => ∃ k : Nat, k ≤ K ∧ i = .int .i64 k ∧ ∃ fk, Hid (BlF wr M 0 (some ⟨M, 0, none⟩) n cm fk ∧ cntTo fk 0 n + k = K ∧ (∀ i, wr.frozen? ⟨M, i, none⟩ = false) ∧ Below w.heap.size w wr)) (fun i _ => K - (intOf i).toNat)
    case atStart => exact ⟨0, Nat.zero_le _, rfl, f, HM.out, by rw [hK.out]; rfl, HFZ.out, HW2.out⟩
    case round =>
      obtain ⟨k, hk, rfl, fk, hr⟩ := hrel
      by_cases hkK : k < K
      · have HPOS : Hid (0 < cntTo fk 0 n) := by have := hr.out.2.1; show 0 < _; omega
        go_upto_if 33 with fail
        go_cut [8] (fun v wx => (∃ gl : Int, v = .int .i64 gl) ∧ wx = wr)
        case first =>
          by_cases hkn : k < n1
          · rcases HZ.out with h0 | ⟨b, o, rfl, hbw, hcell⟩
            · omega
            have hcz : wr.cell? ⟨b, o + k, none⟩ = some (.int .i64 (z k)) := by rw [hr.out.2.2.2.cell (p := ⟨b, o + k, none⟩) hbw]; exact (hcell k hkn).1
            clear hcell hbw
            generalize z k = zk at hcz
            go_wp2
            go_meet
            exact ⟨⟨_, rfl⟩, rfl⟩
          · go_wp2
            go_meet
            exact ⟨⟨_, rfl⟩, rfl⟩
        case rest =>
          obtain ⟨⟨gl, rfl⟩, rfl⟩ := hcut
          go_upto_region 12 with (go_at_call 7; refine (pick_free _ n _ M 0 fk gl _ hr.out.1 HN.out HPOS.out).mono ?_; rintro e w3 ⟨t, rfl, hp, hb⟩; have HP := Lib.hid hp; have HB3 := Lib.hid (hr.out.1.below hb); have HB3b := Lib.hid hb; clear hp hb)
          have htn := HP.out.2.1
          have HTF := Lib.hid HP.out.2.2
          have hnp : 0 < n := by omega
          have hlt3 := hr.out.1.lt hnp
          have hfz : w3.frozen? ⟨M, t, none⟩ = false := by rw [HB3b.out.frozen (p := ⟨M, t, none⟩) hlt3]; exact hr.out.2.2.1 t
          have HFZ3 : Hid (∀ i, w3.frozen? ⟨M, i, none⟩ = false) := fun i => by rw [HB3b.out.frozen (p := ⟨M, i, none⟩) hlt3]; exact hr.out.2.2.1 i
          have HW3 := Lib.hid (hr.out.2.2.2.trans (HB3b.out.mono hr.out.2.2.2.size))
          have hct : w3.cell? ⟨M, t, none⟩ = some (.bool true) := by
            have := (HB3.out.2.2 hnp).2 t htn
            rw [HTF.out, Nat.zero_add] at this; exact this
          have it0 : (0 : Int) ≤ (t : Int) := by omega
          have it1 : (t : Int) < (n : Int) := by omega
          have it2 : ¬ n ≤ t := by omega
          clear hlt3
          go_upto_region 14 with fail
          go_cut [81] (fun v wx => v = .bool false ∧ wx = w3)
          case first =>
            by_cases hg0 : 0 ≤ gl
            · by_cases hgn : gl < n
              · obtain ⟨j, rfl⟩ := Int.eq_ofNat_of_zero_le hg0
                have hjn : j < n := by omega
                have hcj : w3.cell? ⟨M, j, none⟩ = some (.bool (fk j)) := by
                  have := (HB3.out.2.2 hnp).2 j hjn
                  rw [Nat.zero_add] at this; exact this
                cases hfj : fk j
                · rw [hfj] at hcj
                  clear hfj
                  go_wp2
                  go_meet
                  exact ⟨rfl, rfl⟩
                · have htj : t = j := by have := (HP.out.1.goal hjn hfj).1; omega
                  rw [hfj] at hcj
                  subst htj
                  clear hfj
                  go_wp2
                  go_meet
                  exact ⟨rfl, rfl⟩
              · have hd1 : decide (gl < (n : Int)) = false := decide_eq_false hgn
                have hd0 : decide (0 ≤ gl) = true := decide_eq_true hg0
                clear hgn hg0
                go_wp2
                go_meet
                exact ⟨rfl, rfl⟩
            · have hd0 : decide (0 ≤ gl) = false := decide_eq_false hg0
              clear hg0
              go_wp2
              go_meet
              exact ⟨rfl, rfl⟩
          case rest =>
            obtain ⟨rfl, rfl⟩ := hcut
            go_wp2
            go_roundw
            case rel =>
              refine ⟨k + 1, by omega, by go_num, off1 fk t, HB3.out.taken t htn, ?_, fun i => ?_, ?_⟩
              · have := cnt_off (lo := 0) (m := n) (Nat.zero_le t) (by omega) HTF.out
                have := hr.out.2.1
                omega
              · have := HFZ3.out i
                simpa using this
              · exact HW3.out.setCell HMB.out _
            case measure => simp [intOf]; omega
      · have hke : k = K := by omega
        have HC0 : Hid (cntTo fk 0 n = 0) := by have := hr.out.2.1; show _ = _; omega
        clear hke
        go_wp2_with (first
          | (go_at_call 7; refine (pick_full _ n _ M 0 fk 0 _ hr.out.1 HN.out HC0.out).mono ?_; rintro e w4 ⟨⟨r, rfl⟩, hb⟩; have HB4 := Lib.hid (hr.out.1.below hb); have HW4 := Lib.hid (hr.out.2.2.2.trans (hb.mono hr.out.2.2.2.size)); clear hb)
          | (go_at_call 8; refine (count_any _ _ _ _ _ _ _ HB4.out).mono ?_; rintro e w' ⟨rfl, rfl⟩; rw [HC0.out]))
        go_ret
        exact ⟨rfl, HW4.out⟩
end Go.Proofs.Yteonlidamonbgaa
