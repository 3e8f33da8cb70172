/- The layer extent: ExtentMaps. -/
import Derived.Test.YtidifimhgnjomaaHe
namespace Go.Proofs.Ytidifimhgnjomaa
set_option linter.unusedVariables false
set_option linter.unusedSimpArgs false
open Go.ChangeShapes Go.WideShapes Go.ChangeAt Go.RowKit

/-- A script that came in. -/
theorem open_script {H : Type} {enc : TypeId × Value → H} {w : World} {v : Value} {d : DataW H} {ps : List MemPlace}
    (hval : Value.okWide Try.prog w .any 0 48 v) (h : DataW.Trod enc Try.prog w 0 (fun _ => true) true 48 v d ps) :
    ∃ (a : Option Addr) (len cap : Nat) (z : Nat × Nat × (Nat → Int × Int × Int)), v = .slice a len cap ∧ (ExAt w z.1 z.2.1 a len cap (fun i => (z.2.2 i).1) (fun i => (z.2.2 i).2.1) (fun i => (z.2.2 i).2.2) ∧
      (∀ i, i < len → (-9223372036854775808 ≤ (z.2.2 i).1 ∧ (z.2.2 i).1 ≤ 9223372036854775807) ∧ (-9223372036854775808 ≤ (z.2.2 i).2.1 ∧ (z.2.2 i).2.1 ≤ 9223372036854775807) ∧ (-9223372036854775808 ≤ (z.2.2 i).2.2 ∧ (z.2.2 i).2.2 ≤ 9223372036854775807))) := by
  obtain ⟨a, len, cap, L, off, z, h1, h2, h3, h4, h5⟩ := open_threes Try.underlying48 Try.underlying51 rfl rfl rfl Try.underlying3 rfl rfl rfl (by kernel_rfl) (by kernel_rfl) hval h
  exact ⟨a, len, cap, (L, off, z), h1, h2, h5⟩

/-- Where the script stands: the list is that of the homes g. -/
structure MapsAt (w : World) (B4 : Nat) (g : Nat → Int) (v : Value) (wr : World) : Prop where
  bel : Below w.heap.size w wr
  list : ExL wr v (bld g 40)
  arr : Arr wr B4 40 49 (fun s => .int .i64 (g s))
  homes : Homes g
  old : w.heap.size ≤ B4
theorem MapsAt.below {w : World} {B4 : Nat} {g : Nat → Int} {v : Value} {wr w' : World} (h : MapsAt w B4 g v wr) (hb : Below wr.heap.size wr w') : MapsAt w B4 g v w' :=
  ⟨h.bel.trans (hb.mono h.bel.size), h.list.below hb, h.arr.below hb, h.homes, h.old⟩

/-- Where the loop over the homes that are to be freed stands. -/
structure WantAt (w w0 : World) (g : Nat → Int) (B4 : Nat) (f t : Int) (b : Nat) (v : Value) (wr : World) : Prop where
  at_ : DropAt w w0 g B4 f t b v wr
  grw : w0.grownBy wr (some B4)
theorem grown_then {w w1 w2 : World} {q : Option Nat} (g1 : w.grownBy w1 q) (g2 : w1.grownBy w2 q) : w.grownBy w2 q :=
  ⟨g2.os.trans g1.os, g2.tape.trans g1.tape, g2.output.trans g1.output, Nat.le_trans g1.size g2.size, fun k hk hne => (g2.block k (Nat.lt_of_lt_of_le hk g1.size) hne).trans (g1.block k hk hne)⟩
theorem grownBy_set (w : World) (b i : Nat) (v : Value) : w.grownBy (w.setCell ⟨b, i, none⟩ v) (some b) :=
  ⟨rfl, rfl, rfl, by simp, fun k hk hne => heap_setCell_other w ⟨b, i, none⟩ k v (fun e => hne (by rw [e]))⟩
theorem WantAt.skip {w w0 : World} {g : Nat → Int} {B4 : Nat} {f t : Int} {b : Nat} {v : Value} {wr : World} (h : WantAt w w0 g B4 f t b v wr) (h0 : g b = 0) : WantAt w w0 g B4 f t (b + 1) v wr := ⟨h.at_.skip h0, h.grw⟩
theorem WantAt.take {w w0 : World} {g : Nat → Int} {B4 : Nat} {f t : Int} {b : Nat} {v v' : Value} {wr W w' : World} (h : WantAt w w0 g B4 f t b v wr) (hf : f ≤ (b : Int)) (ht : (b : Int) < t) (h0 : g b ≠ 0) (hb : b < 40)
    (hw : Below wr.heap.size wr W)
    (ho : w'.ownsRow w0.heap.size 3 1 v' ((gone g f t b).length + 1) ((gone g f t b).map (Value.int .i64) ++ [.int .i64 (g b - 1)])) (hg : W.grownBy w' v.ownBlock) :
    WantAt w w0 g B4 f t (b + 1) v' (w'.setCell ⟨B4, b, none⟩ (.int .i64 0)) := by
  refine ⟨h.at_.take hf ht h0 hb hw ho hg, grown_then ?_ (grownBy_set w' B4 b _)⟩
  have h1 : wr.grownBy W (some B4) := ⟨hw.os, hw.tape, hw.output, hw.size, fun k hk _ => hw.block k hk⟩
  have h2 : w0.grownBy W (some B4) := grown_then h.grw h1
  refine ⟨hg.os.trans h2.os, hg.tape.trans h2.tape, hg.output.trans h2.output, Nat.le_trans h2.size hg.size, fun k hk hne => ?_⟩
  rw [hg.block k (Nat.lt_of_lt_of_le hk h2.size) (fun e => by have := (h.at_.row.lt k e.symm).1; omega)]
  exact h2.block k hk hne

theorem X3.grown {w w' : World} {X B : Nat} {f h n : Int} (hx : X3 w X f h n) (hg : w.grownBy w' (some B)) (hne : X ≠ B) : X3 w' X f h n :=
  ⟨hg.cell hx.1 (by simpa using hne), hg.cell hx.2.1 (by simpa using hne), hg.cell hx.2.2 (by simpa using hne)⟩
/-- Where it ends. -/
structure WantEnd (w w0 : World) (g : Nat → Int) (B4 : Nat) (f t : Int) (v : Value) (wr : World) : Prop where
  row : InL wr v (gone g f t 40)
  arr : Arr wr B4 40 49 (fun s => .int .i64 (dropG g f t s))
  bel : Below w.heap.size w wr
  grw : w0.grownBy wr (some B4)
theorem WantAt.end_ {w w0 : World} {g : Nat → Int} {B4 : Nat} {f : Nat} {t : Int} {b : Nat} {v : Value} {wr : World} (h : WantAt w w0 g B4 f t b v wr) (hb : b = f ∨ b ≤ 40 ∧ f ≤ b ∧ (b : Int) ≤ t) (hlt : 40 ≤ (b : Int) ∨ t ≤ (b : Int)) : WantEnd w w0 g B4 f t v wr := by
  have hgo : gone g f t b = gone g f t 40 := by
    by_cases e40 : b = 40
    · rw [e40]
    by_cases e : b ≤ 40
    · obtain ⟨k, hk⟩ : ∃ k, 40 = b + k := ⟨40 - b, by omega⟩
      rw [hk]
      exact (gone_same (by omega)).symm
    · have hp1 : (b : Int) ≤ f := by omega
      have hp2 : ((40 : Nat) : Int) ≤ f := by omega
      rw [gone_none hp1, gone_none hp2]
  refine ⟨by rw [← hgo]; exact h.at_.row.inl, ?_, h.at_.bel, h.grw⟩
  obtain ⟨cs, hg, hs, hv⟩ := h.at_.arr
  refine ⟨cs, hg, hs, fun i hi => ?_⟩
  rw [hv i hi]
  show some (Value.int .i64 (if (f : Int) ≤ (i : Int) ∧ (i : Int) < b then 0 else g i)) = some (Value.int .i64 (if (f : Int) ≤ (i : Int) ∧ (i : Int) < t then 0 else g i))
  by_cases e : (f : Int) ≤ (i : Int) ∧ (i : Int) < t
  · rw [if_pos e, if_pos (by omega)]
  · rw [if_neg e, if_neg (by omega)]

theorem MapsAt.put {w : World} {B4 : Nat} {g : Nat → Int} {u v : Value} {wr : World} (h : MapsAt w B4 g u wr) {b : Nat} {x : Int} (hb : b < 40) (hh : Homes (putG g b x)) (hv : ExL wr v (bld (putG g b x) 40)) :
    MapsAt w B4 (putG g b x) v (wr.setCell ⟨B4, b, none⟩ (.int .i64 (x + 1))) := by
  obtain ⟨cs, hcs, _, _⟩ := h.arr
  refine ⟨h.bel.setCell (by exact h.old) _, hv.grown (grownBy_set wr B4 b _) hcs (by decide), ?_, hh, h.old⟩
  have e : (fun s : Nat => Value.int .i64 (putG g b x s)) = (fun s : Nat => if s = b then Value.int .i64 (x + 1) else Value.int .i64 (g s)) := by
    funext s; unfold putG; split <;> rfl
  rw [e]
  exact h.arr.set b hb _

set_option maxRecDepth 100000 in
set_option maxHeartbeats 1600000 in
/-- ExtentMaps -/
theorem maps_walk (a : Option Addr) (n c L off : Nat) (K P Q : Nat → Int) (w : World) (h : ExAt w L off a n c K P Q)
    (h9 : ∀ i, i < n → (-9223372036854775808 ≤ K i ∧ K i ≤ 9223372036854775807) ∧ (-9223372036854775808 ≤ P i ∧ P i ≤ 9223372036854775807) ∧ (-9223372036854775808 ≤ Q i ∧ Q i ≤ 9223372036854775807)) :
    Calls Try.prog 5 #[.slice a n c] w fun e w' => e = .returned (.bool true) ∧ Below w.heap.size w w' := by
  obtain ⟨i0, hi, hz0, hz1, hz2⟩ := info_parts infoInt
  have hn9 : n ≤ 9223372036854775807 := by have := h.1; have := h.2.1; omega
  have HB := Lib.hid h
  have H9 := Lib.hid h9
  clear h h9
  obtain ⟨Z, hZ⟩ : ∃ Z : Array Value, Hid (Z = Array.replicate 40 (.int .i64 0)) := ⟨_, rfl⟩
  have hz : ∀ w, (zeroValue 49).run Try.prog w = .ok (.agg Z) w := fun w => by rw [hZ.out]; exact zeroHomes w
  go_enter Try.func5, Try.ntmps5
  go_wp2_with (go_at_call 6; refine (fixed_any _).mono ?_; rintro e w1 ⟨rfl, hb⟩; have HW1 := Lib.hid hb; clear hb)
  have HM : Hid (MapsAt w w1.heap.size (fun _ => 0) (.slice none 0 0) (w1.alloc (.cells Z 49))) :=
    ⟨HW1.out.alloc HW1.out.size _, by rw [bld_none]; exact ExL.nil _, Arr.new w1 40 _ Z _ (by rw [hZ.out]; simp) (fun i hi => by rw [hZ.out]; simp [hi]), Homes.none, HW1.out.size⟩
  generalize (w1.alloc (.cells Z 49)) = w2 at HM ⊢
  obtain ⟨B4, hB4⟩ : ∃ x, Hid (w1.heap.size = x) := ⟨_, rfl⟩
  rw [hB4.out] at HM ⊢
  clear hz hZ
  go_loopw [3, 23] (fun v i wr => ∃ k : Nat, k ≤ n ∧ i = .int .i64 k ∧ ∃ g, Hid (MapsAt w B4 g v wr)) (fun _ i _ => n - (intOf i).toNat)
  case atStart => exact ⟨0, Nat.zero_le _, rfl, _, HM.out⟩
  case round =>
    obtain ⟨k, hk, rfl, g, hg⟩ := hrel
    by_cases hlt : k < n
    · by_cases h100 : k < 100
      · have d100 : decide ((100 : Int) ≤ (k : Int)) = false := decide_eq_false (by omega)
        obtain ⟨hkx, hp9, hq9⟩ := H9.out k hlt
        have HBr := Lib.hid (HB.out.below hg.out.bel)
        obtain ⟨ha, hcell⟩ := HBr.out.2.2 (by omega)
        subst ha
        obtain ⟨c0, c1, c2⟩ := hcell k hlt
        clear hcell
        obtain ⟨x, hx⟩ : ∃ x, Hid (K k = x) := ⟨_, rfl⟩
        obtain ⟨p, hp⟩ : ∃ x, Hid (P k = x) := ⟨_, rfl⟩
        obtain ⟨q, hq⟩ : ∃ x, Hid (Q k = x) := ⟨_, rfl⟩
        rw [hx.out] at c0 hkx
        rw [hp.out] at c1 hp9
        rw [hq.out] at c2 hq9
        go_upto_block 1 with fail
        go_cut [3] (fun v wx => ∃ g, Hid (MapsAt w B4 g v wx))
        case first =>
          have hal : Below wr.heap.size wr (wr.alloc (.cells #[.int .i64 x, .int .i64 p, .int .i64 q] 51)) := (Below.refl _ _).alloc (Nat.le_refl _) _
          have HG3 := Lib.hid (hg.out.below hal)
          have HX3 := Lib.hid (X3.new wr x p q 51)
          have HXl : Hid (wr.heap.size < (wr.alloc (.cells #[.int .i64 x, .int .i64 p, .int .i64 q] 51)).heap.size) := by show _ < _; simp
          have HXb : Hid (wr.heap.size ≠ B4) := by have := hg.out.arr.lt; show _ ≠ _; omega
          go_upto_region 9 with fail
          clear c0 c1 c2 hal HBr hg
          generalize (wr.alloc (.cells #[.int .i64 x, .int .i64 p, .int .i64 q] 51)) = w3 at HG3 HX3 HXl ⊢
          obtain ⟨X, hX⟩ : ∃ b, Hid (wr.heap.size = b) := ⟨_, rfl⟩
          rw [hX.out] at HX3 HXl HXb ⊢
          obtain ⟨x0, x1, x2⟩ := HX3.out
          go_upto_if 32 with fail
          go_cut [3] (fun v wx => ∃ g, Hid (MapsAt w B4 g v wx))
          case first =>
            obtain ⟨a5, c5, L5, m, F, H, N, rfl, hl, hbu⟩ := HG3.out.list.built
            have HL := Lib.hid hl
            have HBU := Lib.hid hbu
            clear hl hbu
            by_cases hx2 : x = 2
            · have e2 : (x == 2) = true := by rw [hx2]; rfl
              clear hx2
              by_cases hfq : 0 ≤ p ∧ p ≤ q
              · have HD := Lib.hid (HBU.out.drop HG3.out.homes hfq.1 hfq.2)
                obtain ⟨f, rfl⟩ := Int.eq_ofNat_of_zero_le hfq.1
                obtain ⟨hfq0, hfq1⟩ := hfq
                go_upto_region 14 with (go_at_call 12; refine (drop_any _ _ _ _ _ _ _ _ _ _ _ HL.out hp9 hq9).mono ?_; rintro e w4 ⟨v4, u4, rfl, hv, hu, hb⟩; rw [HD.out] at hv hu ⊢; have HV4 := Lib.hid hv; have HU4 := Lib.hid hu; have HB4 := Lib.hid hb; have HG4 := Lib.hid (HG3.out.below hb); have HX4 := Lib.hid (HX3.out.below HXl.out hb); clear hb hv hu)
                clear x0 x1 x2
                obtain ⟨x0, x1, x2⟩ := HX4.out
                go_upto_block 2 with fail
                obtain ⟨M, hM⟩ : ∃ M, (if (40 : Int) < q then (40 : Int) else q) = M := ⟨_, rfl⟩
                have HM2 : Hid (M ≤ 40 ∧ M ≤ q ∧ (M = 40 ∨ M = q)) := by show _ ∧ _; rw [← hM]; split <;> omega
                have HWA : Hid (WantAt w w4 g B4 f q f (.slice none 0 0) w4) := by
                  refine ⟨⟨by rw [gone_none (Int.le_refl _)]; exact IRow.nil _ _, ?_, HG4.out.bel, HG4.out.old, HG4.out.arr.lt, Nat.le_refl _⟩, ⟨rfl, rfl, rfl, Nat.le_refl _, fun _ _ _ => rfl⟩⟩
                  have e : (fun s : Nat => Value.int .i64 (if (f : Int) ≤ (s : Int) ∧ (s : Int) < (f : Nat) then 0 else g s)) = (fun s : Nat => Value.int .i64 (g s)) := by
                    funext s; rw [if_neg (by omega)]
                  rw [e]; exact HG4.out.arr
                go_cut [10] (fun v wx => Hid (WantEnd w w4 g B4 f q v wx))
                case first =>
                  clear x0 x1 x2
                  go_wp2_with fail
                  go_loopw [10, 11] (fun v i wr => ∃ b : Nat, i = .int .i64 b ∧ Hid (b = f ∨ b ≤ 40 ∧ f ≤ b ∧ (b : Int) ≤ q) ∧ Hid (WantAt w w4 g B4 f q b v wr)) (fun _ i _ => 40 - (intOf i).toNat)
                  case atStart => exact ⟨f, rfl, Or.inl rfl, HWA.out⟩
                  case round =>
                    obtain ⟨b, rfl, hbb, hd⟩ := hrel
                    obtain ⟨x0, x1, x2⟩ := HX4.out.grown hd.out.grw HXb.out
                    by_cases hlt : (b : Int) < M
                    · have dlt : decide ((b : Int) < M) = true := decide_eq_true hlt
                      have hlt2 : (b : Int) < 40 ∧ (b : Int) < q := by have := HM2.out; omega
                      clear hlt
                      have hb40 : b < 40 := by omega
                      have hpb : f ≤ b := by have := hbb.out; omega
                      have hbt : (b : Int) < q := by omega
                      have c0 := hd.out.at_.read hb40
                      have f0 := hd.out.at_.arr.frozen b
                      have hbd0 := HG4.out.homes.low b
                      have hbd1 := HG4.out.homes.high b
                      have HBB : Hid (b + 1 = f ∨ b + 1 ≤ 40 ∧ f ≤ b + 1 ∧ ((b + 1 : Nat) : Int) ≤ q) := by show _ ∨ _; omega
                      obtain ⟨y, hy⟩ : ∃ y, Hid (g b = y) := ⟨_, rfl⟩
                      rw [hy.out] at hbd0 hbd1 c0
                      by_cases hy0 : y = 0
                      · have HS2 := Lib.hid (hd.out.skip (by rw [hy.out]; exact hy0))
                        have d4 : decide (0 < y) = false := decide_eq_false (by omega)
                        clear hy0 hbb hlt2 hbt
                        go_wp2
                        go_roundw
                        case rel => exact ⟨b + 1, by go_num, HBB, HS2⟩
                        case measure => simp [intOf]; omega
                      · have d4 : decide (0 < y) = true := decide_eq_true (by omega)
                        have HY0 : Hid (g b ≠ 0) := by show _ ≠ _; rw [hy.out]; exact hy0
                        have HBT := Lib.hid hbt
                        clear hy0 hbb hlt2 hbt
                        go_wp2_with (at_builtin; refine wpList_append_own _ rfl (.tmp 73) (.tmp 78) 22 rfl w4.heap.size 3 i0 (.int .i64 0) 1 8 Try.underlying22 hi hz0 hz1 hz2 rfl (by decide) _ _ _ rfl (hd.out.at_.row.alloc _) ⟨wr.heap.size, 0, none⟩ 1 1 [.int .i64 (y - 1)] rfl rfl (cell_one_new _ _ _) (ints_oneCell .i64 [y - 1]) ?c3 ?c4 ?c5 ?_)
                        case c3 => have := gone_len g f q b; unfold maxLen; omega
                        case c4 => have := gone_len g f q b; omega
                        case c5 => have := hd.out.at_.size; simp; omega
                        intro v3 w5 hown3 hgrow3 _
                        have hne : some B4 ≠ Value.ownBlock u10 := fun e => by
                          have h1 := (hd.out.at_.row.lt B4 e.symm).1
                          have h2 := hd.out.at_.lt
                          omega
                        have hA4 := (hd.out.at_.arr.below ((Below.refl _ _).alloc (Nat.le_refl _) (.cells #[.int .i64 (y - 1)] 3))).grown hgrow3 hne
                        have c4 := hA4.cell hb40
                        have f4 := hA4.frozen b
                        have HT := Lib.hid (hd.out.take (by omega) HBT.out HY0.out hb40 ((Below.refl _ _).alloc (Nat.le_refl _) _) (by rw [hy.out]; exact hown3) hgrow3)
                        clear hA4 hown3 hgrow3 hne c0 f0 hd
                        go_wp2
                        go_roundw
                        case rel => exact ⟨b + 1, by go_num, HBB, HT⟩
                        case measure => simp [intOf]; omega
                    · have dlt : decide ((b : Int) < M) = false := decide_eq_false hlt
                      have hlt2 : 40 ≤ (b : Int) ∨ q ≤ (b : Int) := by have := HM2.out; omega
                      have HE := Lib.hid (hd.out.end_ hbb.out hlt2)
                      clear hlt hlt2
                      go_wp2
                      go_meet
                      exact HE
                case rest =>
                  have HE := Lib.hid hcut.out
                  obtain ⟨cs4, hcs4, _, _⟩ := HG4.out.arr
                  have HU5 := HU4.out.grown HE.out.grw hcs4 (by decide)
                  have HV5 := Lib.hid (HV4.out.grown HE.out.grw hcs4 (by decide))
                  obtain ⟨a6, c6, L6, rfl, h6, _⟩ := HU5
                  obtain ⟨a7, c7, L7, rfl, h7, _⟩ := HE.out.row
                  have H6 := Lib.hid h6
                  have H7 := Lib.hid h7
                  have HM5 : Hid (MapsAt w B4 (dropG g f q) v4 wc) := ⟨HE.out.bel, HV5.out, HE.out.arr, HG4.out.homes.drop _ _, HG4.out.old⟩
                  clear hcut hcs4 h6 h7 x0 x1 x2
                  go_wp2_with (go_at_call 13; refine (ints_any _ _ _ _ _ _ _ _ _ _ _ H6.out H7.out).mono ?_; rintro e w6 ⟨rfl, hb⟩; have HM6 := Lib.hid (HM5.out.below hb); clear hb)
                  go_meet
                  exact ⟨_, HM6.out⟩
              · have HD := Lib.hid (HBU.out.noDrop HG3.out.homes hfq)
                rcases (show decide (0 ≤ p) = false ∨ (decide (0 ≤ p) = true ∧ decide (p ≤ q) = false) by
                  by_cases q0 : 0 ≤ p
                  · exact Or.inr ⟨decide_eq_true q0, decide_eq_false (fun q1 => hfq ⟨q0, q1⟩)⟩
                  · exact Or.inl (decide_eq_false q0)) with e3 | ⟨e3, e4⟩
                · clear hfq
                  go_wp2_with (go_at_call 12; refine (drop_any _ _ _ _ _ _ _ _ _ _ _ HL.out hp9 hq9).mono ?_; rintro e w4 ⟨v4, u4, rfl, hv, hu, hb⟩; rw [HD.out] at hv hu ⊢; have HG4 := Lib.hid (HG3.out.below hb); obtain ⟨x0, x1, x2⟩ := HX3.out.below HXl.out hb; clear hb hv hu)
                  go_meet
                  exact ⟨g, HG4.out⟩
                · clear hfq
                  go_wp2_with (go_at_call 12; refine (drop_any _ _ _ _ _ _ _ _ _ _ _ HL.out hp9 hq9).mono ?_; rintro e w4 ⟨v4, u4, rfl, hv, hu, hb⟩; rw [HD.out] at hv hu ⊢; have HG4 := Lib.hid (HG3.out.below hb); obtain ⟨x0, x1, x2⟩ := HX3.out.below HXl.out hb; clear hb hv hu)
                  go_meet
                  exact ⟨g, HG4.out⟩
            · have e2 : (x == 2) = false := beq_eq_false_iff_ne.2 hx2
              clear hx2
              by_cases hok : ∃ b : Nat, p = (b : Int) ∧ b < 40 ∧ 0 ≤ q ∧ q < 256 ∧ g b = 0 ∧ ∀ s, s < 40 → g s ≠ q + 1
              · obtain ⟨b, rfl, hb40, hq0, hq1, hgb, hgs⟩ := hok
                have HD := Lib.hid (HBU.out.put HG3.out.homes hb40 hq0 hq1 hgb hgs)
                have HHP := Lib.hid (HG3.out.homes.put (b := b) hq0 hq1 hgs)
                have e3 : decide ((40 : Int) ≤ (b : Int)) = false := decide_eq_false (by omega)
                have HGB := Lib.hid hgb
                clear hgb hgs
                go_wp2_with (go_at_call 8; refine (put_any _ _ _ _ _ _ _ _ _ _ _ HL.out hp9 hq9).mono ?_; rintro e w4 ⟨v4, rfl, hv, hb⟩; rw [HD.out] at hv ⊢; have HV4 := Lib.hid hv; have HG4 := Lib.hid (HG3.out.below hb); have HX4 := Lib.hid (HX3.out.below HXl.out hb); clear x0 x1 x2; obtain ⟨x0, x1, x2⟩ := HX4.out; have c4 := HG4.out.arr.cell hb40; rw [HGB.out] at c4; have f4 := HG4.out.arr.frozen b; clear hb hv)
                go_meet
                exact ⟨_, HG4.out.put hb40 HHP.out HV4.out⟩
              · obtain ⟨e0, he0, hpv⟩ := HBU.out.noPut HG3.out.homes hok
                have HD := Lib.hid hpv
                have e3 : (e0 == 0) = false := beq_eq_false_iff_ne.2 he0
                clear he0 hpv hok
                go_wp2_with (go_at_call 8; refine (put_any _ _ _ _ _ _ _ _ _ _ _ HL.out hp9 hq9).mono ?_; rintro e w4 ⟨v4, rfl, hv, hb⟩; rw [HD.out] at hv ⊢; have HG4 := Lib.hid (HG3.out.below hb); clear hb hv)
                go_meet
                exact ⟨_, HG4.out⟩
          case rest =>
            obtain ⟨g4, hg4⟩ := hcut
            have hg4 := Lib.hid hg4.out
            obtain ⟨a5, c5, L5, m, F, H, N, rfl, hl, hbu⟩ := hg4.out.list.built
            have HL := Lib.hid hl
            have HBU := Lib.hid hbu
            have HCH := Lib.hid (hbu.chk hg4.out.homes)
            have HCN := Lib.hid (hbu.cnt hg4.out.homes)
            clear hl hbu
            obtain ⟨cs, hcs, hss, hvs⟩ := hg4.out.arr
            have HCS := Lib.hid hcs
            have HSS := Lib.hid hss
            have HVS := Lib.hid hvs
            clear hcs hss hvs
            go_upto_block 4 with (first
              | (go_at_call 11; refine (check_any _ _ _ _ _ _ _ _ _ HL.out).mono ?_; rintro e w5 ⟨rfl, hb⟩; rw [HCH.out]; have HL5 := Lib.hid (HL.out.below hb); have HG5 := Lib.hid (hg4.out.below hb); have HC5 : Hid (w5.heap[B4]? = some (.cells cs 49 (0, 0))) := (hb.block B4 hg4.out.arr.lt).trans HCS.out; clear hb)
              | (refine wpList_load_row rfl 49 (.tmp 4) rfl B4 rfl 49 cs (0, 0) _ HC5.out Try.underlying49 rfl (by rw [HSS.out]; exact arrInfo) ?_))
            go_cut [14] (fun v wx => v = .int .i64 (cntG g4 40) ∧ Hid (MapsAt w B4 g4 (.slice a5 m c5) wx ∧ ExAt wx L5 0 a5 m c5 F H N))
            case first =>
              go_wp2_with fail
              go_loopw [14, 124] (fun v i wr => ∃ j : Nat, ∃ cc : Int, j ≤ 40 ∧ i = .int .i64 j ∧ v = .int .i64 cc ∧ Hid (cc = cntG g4 j) ∧ Hid (MapsAt w B4 g4 (.slice a5 m c5) wr ∧ ExAt wr L5 0 a5 m c5 F H N)) (fun _ i _ => 40 - (intOf i).toNat)
              case atStart => exact ⟨0, 0, by omega, rfl, rfl, rfl, HG5.out, HL5.out⟩
              case round =>
                obtain ⟨j, cc, hj, rfl, rfl, hcc, hr⟩ := hrel
                by_cases hlt : j < 40
                · have hix : ∀ W, (Instr.index 49 (.agg cs) (.int .i64 (j : Int))).run Try.prog W = .ok (.int .i64 (g4 j)) W := fun W => run_index_homes W cs j _ hlt (HVS.out j hlt)
                  have hcb := cntG_bd g4 j
                  rw [← hcc.out] at hcb
                  have hy0 := hg4.out.homes.low j
                  have hy1 := hg4.out.homes.high j
                  have hfi := HBU.out.find hg4.out.homes hlt
                  have hcs : cntG g4 (j + 1) = cntG g4 j + if g4 j = 0 then 0 else 1 := rfl
                  rw [← hcc.out] at hcs
                  obtain ⟨y, hy⟩ : ∃ y, Hid (g4 j = y) := ⟨_, rfl⟩
                  rw [hy.out] at hy0 hy1 hfi hcs hix
                  have hj9 : -9223372036854775808 ≤ (j : Int) ∧ (j : Int) ≤ 9223372036854775807 := by omega
                  by_cases hyz : y = 0
                  · rw [if_pos hyz] at hfi hcs
                    have HFI := Lib.hid hfi
                    have HCC := Lib.hid hcs
                    have d4 : decide (0 < y) = false := decide_eq_false (by omega)
                    clear hyz hfi hcs
                    go_wp2_with (go_at_call 9; refine (find_any _ _ _ _ _ _ _ _ _ _ hr.out.2 hj9).mono ?_; rintro e w7 ⟨rfl, hb⟩; rw [HFI.out]; have HR7 : Hid (MapsAt w B4 g4 (.slice a5 m c5) w7 ∧ ExAt w7 L5 0 a5 m c5 F H N) := ⟨hr.out.1.below hb, hr.out.2.below hb⟩; clear hb)
                    go_roundw
                    case rel => exact ⟨j + 1, cc, by omega, by go_num, rfl, by rw [HCC.out]; exact (Int.add_zero _).symm, HR7⟩
                    case measure => simp [intOf]; omega
                  · rw [if_neg hyz] at hfi hcs
                    have HFI := Lib.hid hfi
                    have HCC := Lib.hid hcs
                    have d4 : decide (0 < y) = true := decide_eq_true (by omega)
                    clear hyz hfi hcs
                    go_wp2_with (go_at_call 9; refine (find_any _ _ _ _ _ _ _ _ _ _ hr.out.2 hj9).mono ?_; rintro e w7 ⟨rfl, hb⟩; rw [HFI.out]; have HR7 : Hid (MapsAt w B4 g4 (.slice a5 m c5) w7 ∧ ExAt w7 L5 0 a5 m c5 F H N) := ⟨hr.out.1.below hb, hr.out.2.below hb⟩; clear hb)
                    go_roundw
                    case rel => exact ⟨j + 1, cc + 1, by omega, by go_num, rfl, HCC.out.symm, HR7⟩
                    case measure => simp [intOf]; omega
                · obtain rfl : j = 40 := by omega
                  have HE : Hid (cc = cntG g4 40) := hcc.out
                  go_wp2
                  go_meet
                  exact ⟨by rw [← HE.out], hr⟩
            case rest =>
              obtain ⟨rfl, hr⟩ := hcut
              have HR := Lib.hid hr.out
              clear hr
              obtain ⟨cc, hcc⟩ : ∃ cc, Hid (cntG g4 40 = cc) := ⟨_, rfl⟩
              rw [hcc.out] at HCN ⊢
              go_wp2_with (go_at_call 10; refine (countE_any _ _ _ _ _ _ _ _ _ HR.out.2).mono ?_; rintro e w8 ⟨rfl, hb⟩; rw [HCN.out]; have HR8 := Lib.hid (HR.out.1.below hb); clear hb)
              go_meet
              exact ⟨_, HR8.out⟩
        case rest =>
          obtain ⟨g4, hg4⟩ := hcut
          go_wp2
          go_roundw
          case rel => exact ⟨k + 1, by omega, by go_num, g4, hg4⟩
          case measure => simp [intOf]; omega
      · have d100 : decide ((100 : Int) ≤ (k : Int)) = true := decide_eq_true (by omega)
        have HBr := Lib.hid (HB.out.below hg.out.bel)
        obtain ⟨ha, hcell⟩ := HBr.out.2.2 (by omega)
        subst ha
        obtain ⟨c0, c1, c2⟩ := hcell k hlt
        clear hcell
        go_wp2
        go_ret
        exact ⟨rfl, hg.out.bel.alloc hg.out.bel.size _⟩
    · go_wp2
      go_ret
      exact ⟨rfl, hg.out.bel⟩

theorem maps_frame (a : Option Addr) (n c : Nat) (z : Nat × Nat × (Nat → Int × Int × Int)) (w : World) (h : ExAt w z.1 z.2.1 a n c (fun i => (z.2.2 i).1) (fun i => (z.2.2 i).2.1) (fun i => (z.2.2 i).2.2) ∧
      (∀ i, i < n → (-9223372036854775808 ≤ (z.2.2 i).1 ∧ (z.2.2 i).1 ≤ 9223372036854775807) ∧ (-9223372036854775808 ≤ (z.2.2 i).2.1 ∧ (z.2.2 i).2.1 ≤ 9223372036854775807) ∧ (-9223372036854775808 ≤ (z.2.2 i).2.2 ∧ (z.2.2 i).2.2 ≤ 9223372036854775807))) :
    Calls Try.prog 5 #[.slice a n c] w fun e w' => e = .returned (.bool true) ∧ Below w.heap.size w w' := maps_walk a n c z.1 z.2.1 _ _ _ w h.1 h.2
end Go.Proofs.Ytidifimhgnjomaa
