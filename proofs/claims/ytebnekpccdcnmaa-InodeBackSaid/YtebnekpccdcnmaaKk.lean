/- The walk of the layer inode: Decode. -/
import Derived.Test.YtebnekpccdcnmaaKj
import Derived.Outline
namespace Go.Proofs.Ytebnekpccdcnmaa
set_option linter.unusedVariables false
set_option linter.unusedSimpArgs false
open Go.RowKit

/-- The inode that has nothing. -/
def zeroI : Value := .agg #[.int .i64 0, .int .i64 0, .int .i64 0, .int .i64 0, .int .i64 0, .int .i64 0, .float .f64 0, .float .f64 0, .string ⟨#[]⟩, .slice none 0 0, .slice none 0 0]
/-- What a Decode answers. -/
def DecP (bs : List Int) (w : World) (e : Ending) (w' : World) : Prop :=
  Below w.heap.size w w' ∧ ((∃ D v, e = .returned (.tuple #[v, .int .i64 0]) ∧ InoM w' w.heap.size v D ∧ rightD D = true ∧ payD D = bs ∧ D.wide) ∨ ((∀ D, rightD D = true → D.wide → D.bytes → payD D ≠ bs) ∧ e = .returned (.tuple #[zeroI, .int .i64 12])))
def tmA (bs : List Int) (j i : Nat) : Nat := if i < j then tV true bs i else 0

section
variable {wB w wE : World} {R L X Z off : Nat} {st : St} {k m u g l s : Int} {t0 t1 : Nat} {ln : ByteArray} {xa : Option Addr} {xn xc : Nat} {ea : Option Addr} {en ec : Nat} {bs : List Int}
theorem dec_below (HD : Dc wB wE R L X off st k m u g l s t0 t1 ln xa xn xc ea en ec) (HBW : Below Z w wB) (hZ : w.heap.size = Z) (h1 : Z < R) (h2 : Z < X) (h3 : Z < wB.heap.size) (cs : Array Value) : Below w.heap.size w (wE.setRow Z cs) := by
  rw [hZ]
  exact (HD.toBelow HBW (by omega) (by omega) (by omega)).grown grown_row (by have := HD.size; omega) (fun k hk => by simp only [Option.some.injEq] at hk; omega)
theorem dec_bad (HD : Dc wB wE R L X off st k m u g l s t0 t1 ln xa xn xc ea en ec) (HBW : Below Z w wB) (hZ : w.heap.size = Z) (h1 : Z < R) (h2 : Z < X) (h3 : Z < wB.heap.size) (ht : takes bs = false) (cs : Array Value) : DecP bs w (.returned (.tuple #[zeroI, .int .i64 12])) (wE.setRow Z cs) :=
  ⟨dec_below HD HBW hZ h1 h2 h3 cs, Or.inr ⟨(fun D hD hw hb e => by have := takes_good hD hw hb; rw [e, ht] at this; cases this), rfl⟩⟩
theorem dec_good (HD : Dc wB wE R L X off st k m u g l s t0 t1 ln xa xn xc ea en ec) (HBW : Below Z w wB) (hZ : w.heap.size = Z) (h1 : Z < R) (h2 : Z < X) (h3 : Z < wB.heap.size) (ht : takes bs = true) (hr : ∀ x ∈ bs, 0 ≤ x ∧ x < 256) (hl : bs.length = 440) {v : Value} (hM : InoM wE wB.heap.size v (prs true bs)) (cs : Array Value) : DecP bs w (.returned (.tuple #[v, .int .i64 0])) (wE.setRow Z cs) :=
  ⟨dec_below HD HBW hZ h1 h2 h3 cs, Or.inl ⟨prs true bs, v, rfl, (hM.grown grown_row (fun k hk => by simp only [Option.some.injEq] at hk; omega)).mono (by omega), (takes_sound hr hl ht).1, (takes_sound hr hl ht).2, prs_wide hr⟩⟩
theorem zeros_dc (h : Dc wB w R L X off st k m u g l s t0 t1 ln xa xn xc ea en ec) (hRX : R ≠ X) (z : Int) :
    Calls Try.prog 37 #[.pointer (some ⟨R, 0, none⟩), .int .i64 z] w fun e w' => e = .returned (.tuple #[]) ∧ w.grownBy w' (some R) ∧ ∃ off', Dc wB w' R L X off' (zT st z) k m u g l s t0 t1 ln xa xn xc ea en ec :=
  (zeros_any R L off st.xs st.sp z w h.rdr).mono fun e w' hn => by
    obtain ⟨rfl, h2, h3, _⟩ := hn
    exact ⟨rfl, h3, _, h.toR (st' := zT st z) hRX h2 h3⟩
end
theorem tmA_next (bs : List Int) (j i : Nat) : tmA bs (j + 1) i = if i = j then tV true bs i else tmA bs j i := by
  unfold tmA
  by_cases e : i = j
  · rw [if_pos e, if_pos (by omega)]
  · rw [if_neg e]
    by_cases h : i < j
    · rw [if_pos h, if_pos (by omega)]
    · rw [if_neg h, if_neg (by omega)]
theorem time_at {w : World} {X : Nat} {k m u g l s : Int} {bs : List Int} {j : Nat} {ln : ByteArray} {xa : Option Addr} {xn xc : Nat} {ea : Option Addr} {en ec : Nat} (h : InoAt w X k m u g l s (tmA bs j 0) (tmA bs j 1) ln xa xn xc ea en ec) (hj : j < 2) :
    (∃ v, w.cell? ⟨X, 6 + j, none⟩ = some v) ∧ w.frozen? ⟨X, 6 + j, none⟩ = false ∧ InoAt (w.setCell ⟨X, 6 + j, none⟩ (.float .f64 (tV true bs j))) X k m u g l s (tmA bs (j + 1) 0) (tmA bs (j + 1) 1) ln xa xn xc ea en ec := by
  rw [tmA_next, tmA_next]
  obtain ⟨_, _, _, _, _, _, c6, c7, _⟩ := h.cells
  match j, hj with
  | 0, _ => exact ⟨⟨_, c6⟩, frozen_of_row w X 6 _ _ h, heap_setCell_same w X 6 _ _ _ h⟩
  | 1, _ => exact ⟨⟨_, c7⟩, frozen_of_row w X 7 _ _ h, heap_setCell_same w X 7 _ _ _ h⟩
theorem tT_good {s : St} (h : tOk s = true) : tT true s = nT s 8 ∧ tS true s = (nS s 8).toNat ∧ formW (nS s 8).toNat = (nS s 8).toNat := by
  unfold tT tS
  rw [h]
  refine ⟨?_, rfl, ?_⟩
  · simp
  · unfold tOk at h; simpa using h
theorem tT_bad {s : St} (h : tOk s = false) : tT true s = ⟨(nT s 8).xs, true⟩ ∧ tS true s = 0 ∧ formW (nS s 8).toNat ≠ (nS s 8).toNat := by
  unfold tT tS
  rw [h]
  refine ⟨by simp, rfl, ?_⟩
  unfold tOk at h; simpa using h

set_option maxRecDepth 100000 in
set_option maxHeartbeats 4000000 in
theorem decode_440 (b0 : Option Addr) (n c L0 off0 : Nat) (bs : List Int) (w : World) (h : BtsAt w L0 off0 (.slice b0 n c) bs) (hl : bs.length = 440) :
    Calls Try.prog 14 #[.slice b0 n c] w (DecP bs w) := by
  have HBT := Lib.hid h
  have HLB := Lib.hid hl
  obtain rfl : n = 440 := h.len.1.trans hl
  have HRG := Lib.hid h.range
  have hsf : ∀ (a : Addr) (n : Nat) (m : Mode) (w : World), (store a (.float .f64 n) m).run Try.prog w = stored Try.prog w a (.float .f64 n) m := fun a n m w => run_store Try.prog w a _ m rfl
  clear h hl
  have hal : Below w.heap.size w (w.alloc (.cells #[.int .i64 0, .int .i64 0, .int .i64 0, .int .i64 0, .int .i64 0, .int .i64 0, .float .f64 0, .float .f64 0, .string ⟨#[]⟩, .slice none 0 0, .slice none 0 0] 31)) := (Below.refl _ _).alloc (Nat.le_refl _) _
  have HZ := Lib.hid (InoAt.new w 0 0 0 0 0 0 0 0 ⟨#[]⟩ none 0 0 none 0 0)
  have HB0 := Lib.hid hal
  go_enter Try.func14, Try.ntmps14
  go_upto_region 3 with fail
  generalize (w.alloc (.cells #[.int .i64 0, .int .i64 0, .int .i64 0, .int .i64 0, .int .i64 0, .int .i64 0, .float .f64 0, .float .f64 0, .string ⟨#[]⟩, .slice none 0 0, .slice none 0 0] 31)) = wa at hal HZ HB0 ⊢
  obtain ⟨Z, hZ⟩ : ∃ X, Hid (w.heap.size = X) := ⟨_, rfl⟩
  rw [hZ.out] at HZ HB0 ⊢
  clear hal
  have hbt := HBT.out.below (show Below w.heap.size w wa by rw [hZ.out]; exact HB0.out)
  have HREAD := Lib.hid (read_any b0 440 c L0 off0 bs wa hbt (by omega))
  clear hbt
  go_upto_region 5 with (go_at_call 30; refine HREAD.out.mono ?_; rintro e wb ⟨R, L, rfl, hR, hL, hr, _, hb⟩; have HR0 := Lib.hid hR; have HL0 := Lib.hid hL; have HRD := Lib.hid hr; have HBB := Lib.hid hb; clear hR hL hr hb)
  have hal : Below wb.heap.size wb (wb.alloc (.cells #[.pointer (some ⟨R, 0, none⟩)] 66)) := (Below.refl _ _).alloc (Nat.le_refl _) _
  have HV : Hid ((wb.alloc (.cells #[.pointer (some ⟨R, 0, none⟩)] 66)).heap[wb.heap.size]? = some (.cells #[.pointer (some ⟨R, 0, none⟩)] 66 (0, 0))) := heap_alloc_new wb _
  have HR1 : Hid (Rdr (wb.alloc (.cells #[.pointer (some ⟨R, 0, none⟩)] 66)) R L 0 (sN bs 0).xs (sN bs 0).sp) := HRD.out.below hal
  have HB1 : Hid (Below wa.heap.size wa (wb.alloc (.cells #[.pointer (some ⟨R, 0, none⟩)] 66))) := HBB.out.trans (hal.mono HBB.out.size)
  have HRV : Hid (R < wb.heap.size) := HRD.out.lt
  have HLV : Hid (L < wb.heap.size) := by
    obtain ⟨a, n, cc, _, hb⟩ := HRD.out
    exact hb.lt (by intro e; have := HLB.out; rw [e] at this; cases this)
  have HVlt : Hid (wb.heap.size < (wb.alloc (.cells #[.pointer (some ⟨R, 0, none⟩)] 66)).heap.size) := lt_of_block HV.out
  clear hal HREAD
  generalize (wb.alloc (.cells #[.pointer (some ⟨R, 0, none⟩)] 66)) = wc at HV HR1 HB1 HVlt ⊢
  obtain ⟨V, hVe⟩ : ∃ X, Hid (wb.heap.size = X) := ⟨_, rfl⟩
  rw [hVe.out] at HV HRV HLV HVlt ⊢
  have HCL : Hid (∀ (i off : Nat) (w : World), i < 6 → Rdr w R L off (sN bs i).xs (sN bs i).sp → wc.grownBy w (some R) → w.heap.size = wc.heap.size → Calls Try.prog 31 #[.int .i64 (nb i), .pointer (some ⟨V, 0, none⟩)] w fun e w' => e = .returned (.int .i64 (hV bs i)) ∧ ∃ off', Rdr w' R L off' (sN bs (i + 1)).xs (sN bs (i + 1)).sp ∧ wc.grownBy w' (some R) ∧ w'.heap.size = wc.heap.size) := fun i off w hi hr hg hs =>
    (num_clo V R L off (sN bs i) (nb i) w (nb_mid i).1 (by match i, hi with | 0, _ | 1, _ | 2, _ | 3, _ | 4, _ | 5, _ => decide) (sN_bytes HRG.out i) hr ((hg.block V HVlt.out (fun e => by have := HRV.out; simp at e; omega)).trans HV.out)).mono fun e w' ⟨h1, off', h2, h3, h4⟩ => ⟨h1, off', h2, grown_then hg h3, h4.trans hs⟩
  have HG0 : Hid (wc.grownBy wc (some R)) := ⟨rfl, rfl, rfl, Nat.le_refl _, fun _ _ _ => rfl⟩
  have HC0 : Hid (∀ (off : Nat) (w : World), Rdr w R L off (sN bs 0).xs (sN bs 0).sp → wc.grownBy w (some R) → w.heap.size = wc.heap.size → Calls Try.prog 31 #[.int .i64 1, .pointer (some ⟨V, 0, none⟩)] w fun e w' => e = .returned (.int .i64 (hV bs 0)) ∧ ∃ off', Rdr w' R L off' (sN bs 1).xs (sN bs 1).sp ∧ wc.grownBy w' (some R) ∧ w'.heap.size = wc.heap.size) := fun off w => HCL.out 0 off w (by omega)
  have HC1 : Hid (∀ (off : Nat) (w : World), Rdr w R L off (sN bs 1).xs (sN bs 1).sp → wc.grownBy w (some R) → w.heap.size = wc.heap.size → Calls Try.prog 31 #[.int .i64 2, .pointer (some ⟨V, 0, none⟩)] w fun e w' => e = .returned (.int .i64 (hV bs 1)) ∧ ∃ off', Rdr w' R L off' (sN bs 2).xs (sN bs 2).sp ∧ wc.grownBy w' (some R) ∧ w'.heap.size = wc.heap.size) := fun off w => HCL.out 1 off w (by omega)
  have HC2 : Hid (∀ (off : Nat) (w : World), Rdr w R L off (sN bs 2).xs (sN bs 2).sp → wc.grownBy w (some R) → w.heap.size = wc.heap.size → Calls Try.prog 31 #[.int .i64 2, .pointer (some ⟨V, 0, none⟩)] w fun e w' => e = .returned (.int .i64 (hV bs 2)) ∧ ∃ off', Rdr w' R L off' (sN bs 3).xs (sN bs 3).sp ∧ wc.grownBy w' (some R) ∧ w'.heap.size = wc.heap.size) := fun off w => HCL.out 2 off w (by omega)
  have HC3 : Hid (∀ (off : Nat) (w : World), Rdr w R L off (sN bs 3).xs (sN bs 3).sp → wc.grownBy w (some R) → w.heap.size = wc.heap.size → Calls Try.prog 31 #[.int .i64 2, .pointer (some ⟨V, 0, none⟩)] w fun e w' => e = .returned (.int .i64 (hV bs 3)) ∧ ∃ off', Rdr w' R L off' (sN bs 4).xs (sN bs 4).sp ∧ wc.grownBy w' (some R) ∧ w'.heap.size = wc.heap.size) := fun off w => HCL.out 3 off w (by omega)
  have HC4 : Hid (∀ (off : Nat) (w : World), Rdr w R L off (sN bs 4).xs (sN bs 4).sp → wc.grownBy w (some R) → w.heap.size = wc.heap.size → Calls Try.prog 31 #[.int .i64 1, .pointer (some ⟨V, 0, none⟩)] w fun e w' => e = .returned (.int .i64 (hV bs 4)) ∧ ∃ off', Rdr w' R L off' (sN bs 5).xs (sN bs 5).sp ∧ wc.grownBy w' (some R) ∧ w'.heap.size = wc.heap.size) := fun off w => HCL.out 4 off w (by omega)
  have HC5 : Hid (∀ (off : Nat) (w : World), Rdr w R L off (sN bs 5).xs (sN bs 5).sp → wc.grownBy w (some R) → w.heap.size = wc.heap.size → Calls Try.prog 31 #[.int .i64 4, .pointer (some ⟨V, 0, none⟩)] w fun e w' => e = .returned (.int .i64 (hV bs 5)) ∧ ∃ off', Rdr w' R L off' (sN bs 6).xs (sN bs 6).sp ∧ wc.grownBy w' (some R) ∧ w'.heap.size = wc.heap.size) := fun off w => HCL.out 5 off w (by omega)
  clear HCL
  go_upto_region 6 with (first
    | (go_at_call 31; ((with_reducible refine (HC0.out _ _ HR1.out HG0.out rfl).mono ?_); rintro e w1 ⟨rfl, _, h2, h3, h4⟩); have HA1 := Lib.hid h2; have HG1 := Lib.hid h3; have HS1 := Lib.hid h4; clear h2 h3 h4)
    | (go_at_call 31; ((with_reducible refine (HC1.out _ _ HA1.out HG1.out HS1.out).mono ?_); rintro e w2 ⟨rfl, _, h2, h3, h4⟩); have HA2 := Lib.hid h2; have HG2 := Lib.hid h3; have HS2 := Lib.hid h4; clear h2 h3 h4)
    | (go_at_call 31; ((with_reducible refine (HC2.out _ _ HA2.out HG2.out HS2.out).mono ?_); rintro e w3 ⟨rfl, _, h2, h3, h4⟩); have HA3 := Lib.hid h2; have HG3 := Lib.hid h3; have HS3 := Lib.hid h4; clear h2 h3 h4)
    | (go_at_call 31; ((with_reducible refine (HC3.out _ _ HA3.out HG3.out HS3.out).mono ?_); rintro e w4 ⟨rfl, _, h2, h3, h4⟩); have HA4 := Lib.hid h2; have HG4 := Lib.hid h3; have HS4 := Lib.hid h4; clear h2 h3 h4)
    | (go_at_call 31; ((with_reducible refine (HC4.out _ _ HA4.out HG4.out HS4.out).mono ?_); rintro e w5 ⟨rfl, _, h2, h3, h4⟩); have HA5 := Lib.hid h2; have HG5 := Lib.hid h3; have HS5 := Lib.hid h4; clear h2 h3 h4)
    | (go_at_call 31; ((with_reducible refine (HC5.out _ _ HA5.out HG5.out HS5.out).mono ?_); rintro e w6 ⟨rfl, off6, h2, h3, h4⟩); have HA6 := Lib.hid h2; have HG6 := Lib.hid h3; have HS6 := Lib.hid h4; clear h2 h3 h4))
  have hal : Below w6.heap.size w6 (w6.alloc (.cells #[.int .i64 (hV bs 0), .int .i64 (hV bs 1), .int .i64 (hV bs 2), .int .i64 (hV bs 3), .int .i64 (hV bs 4), .int .i64 (hV bs 5), .float .f64 0, .float .f64 0, .string ⟨#[]⟩, .slice none 0 0, .slice none 0 0] 31)) := (Below.refl _ _).alloc (Nat.le_refl _) _
  have HX0 := Lib.hid (InoAt.new w6 (hV bs 0) (hV bs 1) (hV bs 2) (hV bs 3) (hV bs 4) (hV bs 5) 0 0 ⟨#[]⟩ none 0 0 none 0 0)
  have hb6 : Below wa.heap.size wa w6 := HB1.out.grown HG6.out HB1.out.size (fun k hk => by simp only [Option.some.injEq] at hk; have := HR0.out; omega)
  have HBW : Hid (Below Z w (w6.alloc (.cells #[.int .i64 (hV bs 0), .int .i64 (hV bs 1), .int .i64 (hV bs 2), .int .i64 (hV bs 3), .int .i64 (hV bs 4), .int .i64 (hV bs 5), .float .f64 0, .float .f64 0, .string ⟨#[]⟩, .slice none 0 0, .slice none 0 0] 31))) := HB0.out.trans ((hb6.trans (hal.mono hb6.size)).mono (by have := HB0.out.size; have := hZ.out; omega))
  have HRB := Lib.hid (HA6.out.below hal)
  have HVB : Hid ((w6.alloc (.cells #[.int .i64 (hV bs 0), .int .i64 (hV bs 1), .int .i64 (hV bs 2), .int .i64 (hV bs 3), .int .i64 (hV bs 4), .int .i64 (hV bs 5), .float .f64 0, .float .f64 0, .string ⟨#[]⟩, .slice none 0 0, .slice none 0 0] 31)).heap[V]? = some (.cells #[.pointer (some ⟨R, 0, none⟩)] 66 (0, 0))) := (hal.block V (by rw [HS6.out]; exact HVlt.out)).trans ((HG6.out.block V HVlt.out (fun e => by have := HRV.out; simp at e; omega)).trans HV.out)
  have hZlt := lt_of_block HZ.out
  have HZB : Hid (InoAt (w6.alloc (.cells #[.int .i64 (hV bs 0), .int .i64 (hV bs 1), .int .i64 (hV bs 2), .int .i64 (hV bs 3), .int .i64 (hV bs 4), .int .i64 (hV bs 5), .float .f64 0, .float .f64 0, .string ⟨#[]⟩, .slice none 0 0, .slice none 0 0] 31)) Z 0 0 0 0 0 0 0 0 ⟨#[]⟩ none 0 0 none 0 0) := ((hb6.trans (hal.mono hb6.size)).block Z hZlt).trans HZ.out
  have HNUM : Hid (Z < R ∧ Z < L ∧ R < V ∧ L < V ∧ V < w6.heap.size ∧ w6.heap.size < (w6.alloc (.cells #[.int .i64 (hV bs 0), .int .i64 (hV bs 1), .int .i64 (hV bs 2), .int .i64 (hV bs 3), .int .i64 (hV bs 4), .int .i64 (hV bs 5), .float .f64 0, .float .f64 0, .string ⟨#[]⟩, .slice none 0 0, .slice none 0 0] 31)).heap.size) := ⟨by have := HR0.out; omega, by have := HL0.out; omega, HRV.out, HLV.out, by rw [HS6.out]; exact HVlt.out, lt_of_block HX0.out⟩
  clear hal hb6 hZlt HA1 HA2 HA3 HA4 HA5 HA6 HG0 HG1 HG2 HG3 HG4 HG5 HG6 HS1 HS2 HS3 HS4 HS5 HS6 HC0 HC1 HC2 HC3 HC4 HC5 HV HR1 HB1 HVlt HRV HLV HRD HBB HZ HB0
  generalize (w6.alloc (.cells #[.int .i64 (hV bs 0), .int .i64 (hV bs 1), .int .i64 (hV bs 2), .int .i64 (hV bs 3), .int .i64 (hV bs 4), .int .i64 (hV bs 5), .float .f64 0, .float .f64 0, .string ⟨#[]⟩, .slice none 0 0, .slice none 0 0] 31)) = wB at HX0 HBW HRB HVB HZB HNUM ⊢
  obtain ⟨X, hX⟩ : ∃ X, Hid (w6.heap.size = X) := ⟨_, rfl⟩
  rw [hX.out] at HX0 HNUM ⊢
  have HD0 : Hid (Dc wB wB R L X off6 (sT true bs 0) (hV bs 0) (hV bs 1) (hV bs 2) (hV bs 3) (hV bs 4) (hV bs 5) (tmA bs 0 0) (tmA bs 0 1) ⟨#[]⟩ none 0 0 none 0 0) := ⟨rfl, rfl, rfl, Nat.le_refl _, fun _ _ _ _ => rfl, HRB.out, HX0.out⟩
  clear HRB HX0
  obtain ⟨h0, hh0⟩ : ∃ x, Hid (hV bs 0 = x) := ⟨_, rfl⟩
  obtain ⟨h1, hh1⟩ : ∃ x, Hid (hV bs 1 = x) := ⟨_, rfl⟩
  obtain ⟨h2, hh2⟩ : ∃ x, Hid (hV bs 2 = x) := ⟨_, rfl⟩
  obtain ⟨h3, hh3⟩ : ∃ x, Hid (hV bs 3 = x) := ⟨_, rfl⟩
  obtain ⟨h4, hh4⟩ : ∃ x, Hid (hV bs 4 = x) := ⟨_, rfl⟩
  obtain ⟨h5, hh5⟩ : ∃ x, Hid (hV bs 5 = x) := ⟨_, rfl⟩
  rw [hh0.out, hh1.out, hh2.out, hh3.out, hh4.out, hh5.out] at HD0
  simp only [hh0.out, hh1.out, hh2.out, hh3.out, hh4.out, hh5.out]
  obtain ⟨n1, n2, n3, n4, n5, n6⟩ := HNUM.out
  have hRX : R ≠ X := by omega
  have hLX : L ≠ X := by omega
  have HRX := Lib.hid hRX
  have HLX := Lib.hid hLX
  have HRs : Hid (R < wB.heap.size) := by show _ < _; omega
  have HLs : Hid (L < wB.heap.size) := by show _ < _; omega
  have HXs : Hid (X < wB.heap.size) := n6
  have HVk : Hid (∀ (w : World), (∀ j, j < wB.heap.size → j ≠ R → j ≠ X → w.heap[j]? = wB.heap[j]?) → w.heap[V]? = some (.cells #[.pointer (some ⟨R, 0, none⟩)] 66 (0, 0))) := fun w hk => (hk V (by omega) (by omega) (by omega)).trans HVB.out
  clear n1 n2 n3 n4 n5 n6 hRX hLX
  go_wp2_with fail
  go_loopw [32] (fun iv wr => ∃ j off : Nat, j ≤ 2 ∧ iv = .int .i64 j ∧ Hid (Dc wB wr R L X off (sT true bs j) h0 h1 h2 h3 h4 h5 (tmA bs j 0) (tmA bs j 1) ⟨#[]⟩ none 0 0 none 0 0)) (fun iv _ => 2 - (intOf iv).toNat)
  case atStart => exact ⟨0, off6, by omega, rfl, HD0.out⟩
  case round =>
    obtain ⟨j, off, hj, rfl, hd⟩ := hrel
    have c4 : wr.cell? ⟨V, 0, none⟩ = some (.pointer (some ⟨R, 0, none⟩)) := cell_of_one (HVk.out wr hd.out.keep)
    by_cases hlt : j < 2
    · have hby := sT_bytes (b := true) HRG.out j
      have hnb := num_bd (n := 8) (by decide) (by decide) hby
      have HTV : Hid (tV true bs j = tS true (sT true bs j)) := rfl
      have HSN : Hid (sT true bs (j + 1) = tT true (sT true bs j)) := rfl
      obtain ⟨st, hst⟩ : ∃ s, Hid (sT true bs j = s) := ⟨_, rfl⟩
      rw [hst.out] at hby hnb HTV HSN hd
      have HD := Lib.hid hd.out
      obtain ⟨q, hq⟩ : ∃ q : Nat, nS st 8 = q := Int.eq_ofNat_of_zero_le hnb.1
      have HNM : Hid (Calls Try.prog 32 #[.pointer (some ⟨R, 0, none⟩), .int .i64 8] wr fun e w' => e = .returned (.int .u64 q) ∧ ∃ off', Dc wB w' R L X off' (nT st 8) h0 h1 h2 h3 h4 h5 (tmA bs j 0) (tmA bs j 1) ⟨#[]⟩ none 0 0 none 0 0) := (number_rd R L off st.xs st.sp 8 wr HD.out.rdr).mono fun e w' hn => by
        unfold Numbered at hn
        rw [show badN st.sp 8 = st.sp from badN_mid (n := 8) (by decide) (by decide)] at hn
        obtain ⟨rfl, h2, h3, h5⟩ := hn
        refine ⟨?_, _, HD.out.toR HRX.out h2 h3⟩
        show Ending.returned (.int .u64 (nS st 8)) = _
        rw [hq]
      have HQ := Lib.hid hq
      clear hd hnb hby hq
      cases hk : tOk st with
      | true =>
        obtain ⟨k1, k2, k3⟩ := tT_good hk
        rw [HQ.out, Int.toNat_natCast] at k3 k2
        have HF := Lib.hid k3
        rw [k1] at HSN
        rw [k2] at HTV
        clear hk k1 k2 k3
        go_upto_region 12 with (first
          | (go_at_call 32; refine HNM.out.mono ?_; rintro e w7 ⟨rfl, off7, hd7⟩; have HD7 := Lib.hid hd7; clear hd7)
          | (go_at_call 33; refine (from_good q _ HF).mono ?_; rintro e w8 ⟨rfl, rfl⟩))
        obtain ⟨⟨v6, e6⟩, f6, hi8⟩ := time_at HD7.out.ino hlt
        rw [HTV.out] at hi8
        have HD8 := Lib.hid (HD7.out.toX HRX.out HLX.out hi8 (grownBy_set _ X (6 + j) _))
        rw [← HSN.out] at HD8
        clear hi8
        go_wp2
        go_roundw
        case rel => exact ⟨j + 1, off7, by omega, by go_num, HD8⟩
        case measure => simp [intOf]; omega
      | false =>
        obtain ⟨k1, k2, k3⟩ := tT_bad hk
        rw [HQ.out, Int.toNat_natCast] at k3
        have HF := Lib.hid k3
        rw [k1] at HSN
        rw [k2] at HTV
        clear hk k1 k2 k3
        go_upto_region 11 with (first
          | (go_at_call 32; refine HNM.out.mono ?_; rintro e w7 ⟨rfl, off7, hd7⟩; have HD7 := Lib.hid hd7; clear hd7)
          | (go_at_call 33; refine (from_bad q _ HF).mono ?_; rintro e w8 ⟨rfl, rfl⟩))
        clear c4
        have c4 : w7.cell? ⟨V, 0, none⟩ = some (.pointer (some ⟨R, 0, none⟩)) := cell_of_one (HVk.out w7 HD7.out.keep)
        go_upto_region 12 with (go_at_call 34; refine (spoil_any R L off7 _ _ _ HD7.out.rdr).mono ?_; rintro e w8 ⟨rfl, h2', h3', _⟩; have HD8 := Lib.hid (HD7.out.toR (st' := ⟨(nT st 8).xs, true⟩) HRX.out h2' h3'); clear h2' h3')
        rw [← HSN.out] at HD8
        obtain ⟨⟨v6, e6⟩, f6, hi8⟩ := time_at HD8.out.ino hlt
        rw [HTV.out] at hi8
        have HD9 := Lib.hid (HD8.out.toX HRX.out HLX.out hi8 (grownBy_set _ X (6 + j) _))
        clear hi8
        go_wp2
        go_roundw
        case rel => exact ⟨j + 1, off7, by omega, by go_num, HD9⟩
        case measure => simp [intOf]; omega
    · obtain rfl : j = 2 := by omega
      have e0 : tmA bs 2 0 = tV true bs 0 := by simp [tmA]
      have e1 : tmA bs 2 1 = tV true bs 1 := by simp [tmA]
      have hd2 := hd.out
      rw [e0, e1] at hd2
      obtain ⟨v0, hv0⟩ : ∃ x, Hid (tV true bs 0 = x) := ⟨_, rfl⟩
      obtain ⟨v1, hv1⟩ : ∃ x, Hid (tV true bs 1 = x) := ⟨_, rfl⟩
      rw [hv0.out, hv1.out] at hd2
      have HD2 := Lib.hid hd2
      have HTX := Lib.hid (text_dc hd2 HRX.out 65 (by decide) (by decide))
      have HLN : Hid (xS (sT true bs 2) 65 = lV true bs) := rfl
      have HSL : Hid (xT (sT true bs 2) 65 = sL true bs) := rfl
      rw [HLN.out, HSL.out] at HTX
      obtain ⟨ln, hln⟩ : ∃ x, Hid (lV true bs = x) := ⟨_, rfl⟩
      rw [hln.out] at HTX
      clear e0 e1 hd2 hd hlt hj HD0 HLN HSL
      go_upto_region 14 with fail
      have k4 : wr.cell? ⟨V, 0, none⟩ = some (.pointer (some ⟨R, 0, none⟩)) := c4
      clear c4
      go_upto_region 15 with (go_at_call 35; refine HTX.out.mono ?_; rintro e w7 ⟨rfl, _, off7, hd7⟩; have HD7 := Lib.hid hd7; clear hd7; have f8 : w7.frozen? ⟨X, 8, none⟩ = false := frozen_of_row w7 X 8 _ _ HD7.out.ino; have k8 := HD7.out.ino.cells.2.2.2.2.2.2.2.2.1)
      have HD8 := Lib.hid (HD7.out.toX HRX.out HLX.out (heap_setCell_same w7 X 8 _ _ (.string ln) HD7.out.ino) (grownBy_set w7 X 8 _))
      clear HTX k4 f8 k8
      generalize (w7.setCell ⟨X, 8, none⟩ (.string ln)) = w8 at HD8 ⊢
      have hbL := xT_bytes (n := 65) (sT_bytes (b := true) HRG.out 2)
      have hbX := num_bd (n := 1) (by decide) (by decide) hbL
      obtain ⟨cx, hcx⟩ : ∃ c : Nat, cX true bs = c := Int.eq_ofNat_of_zero_le hbX.1
      have hcx8 : cx < 256 := by have := hbX.2; have h2 : nS (xT (sT true bs 2) 65) 1 = cx := hcx; omega
      have HCLO := Lib.hid (clo_dc HD8.out HRX.out (HVk.out w8 HD8.out.keep) hbL 1 (by decide) (by decide))
      have HCX : Hid (nS (sL true bs) 1 = cx) := hcx
      have HSX : Hid (nT (sL true bs) 1 = sX true bs 0) := rfl
      rw [HCX.out, HSX.out] at HCLO
      have HNX : Hid (nX true bs = min cx 5) := by show min (cX true bs).toNat 5 = _; rw [hcx, Int.toNat_natCast]
      have HCXB := Lib.hid hcx
      clear hbL hbX hcx HCX HSX
      go_upto_region 16 with (go_at_call 31; refine HCLO.out.mono ?_; rintro e w9 ⟨rfl, _, off9, hd9⟩; have HD9 := Lib.hid hd9; clear hd9)
      clear HCLO HD8
      obtain ⟨nx, hnx⟩ : ∃ n, Hid (min cx 5 = n) := ⟨_, rfl⟩
      have hm : min (cx : Int) 5 = (nx : Int) := by have := hnx.out; omega
      rw [hm]
      rw [hnx.out] at HNX
      have HNX5 : Hid (nx ≤ 5) := by have := hnx.out; show _ ≤ _; omega
      clear hm hcx8
      have hnx5 : nx ≤ 5 := HNX5.out
      go_loopw [56] (fun iv wr => ∃ i off : Nat, ∃ xa xc VA VC, i ≤ nx ∧ iv = .int .i64 i ∧ Hid (Dc wB wr R L X off (sX true bs i) h0 h1 h2 h3 h4 h5 v0 v1 ln xa i xc none 0 0) ∧ Hid (XaRow wB.heap.size wr (.slice xa i xc) i (xNm true bs) VA VC (fun i => strB (xVl true bs i)))) (fun iv _ => nx - (intOf iv).toNat)
      case atStart => exact ⟨0, off9, none, 0, fun _ => none, fun _ => 0, Nat.zero_le _, rfl, HD9.out, XaRow.nil _ _ _ _ _ _⟩
      case round =>
        obtain ⟨i, off, xa, xc, VA, VC, hi, rfl, hd, hxr⟩ := hrel
        by_cases hlt : i < nx
        · have HNM : Hid (xS (sX true bs i) 13 = xNm true bs i) := rfl
          have HVL : Hid (xS (xT (sX true bs i) 13) 41 = xVl true bs i) := rfl
          have HSX : Hid (xT (xT (sX true bs i) 13) 41 = sX true bs (i + 1)) := rfl
          have HTX := Lib.hid (text_dc hd.out HRX.out 13 (by decide) (by decide))
          rw [HNM.out] at HTX
          have hvsz : (xVl true bs i).size ≤ maxLen := by
            have h41 : (xS (xT (sX true bs i) 13) 41).size ≤ 41 := x_size (by decide)
            rw [HVL.out] at h41; unfold maxLen; omega
          obtain ⟨nm, hnm⟩ : ∃ x, Hid (xNm true bs i = x) := ⟨_, rfl⟩
          obtain ⟨vs, hvs⟩ : ∃ x, Hid (xVl true bs i = x) := ⟨_, rfl⟩
          rw [hnm.out] at HTX
          rw [hvs.out] at HVL hvsz
          have c4 : wr.cell? ⟨V, 0, none⟩ = some (.pointer (some ⟨R, 0, none⟩)) := cell_of_one (HVk.out wr hd.out.keep)
          have HVSZ := Lib.hid hvsz
          clear hvsz
          go_upto_region 18 with (go_at_call 35; refine HTX.out.mono ?_; rintro e w10 ⟨rfl, hg10, off10, hd10⟩; have HD10 := Lib.hid hd10; have HG10 := Lib.hid hg10; clear hd10 hg10)
          clear c4 HTX
          have hal : Below w10.heap.size w10 (w10.alloc (.cells #[.string nm, .slice none 0 0] 60)) := (Below.refl _ _).alloc (Nat.le_refl _) _
          have HQ : Hid ((w10.alloc (.cells #[.string nm, .slice none 0 0] 60)).heap[w10.heap.size]? = some (.cells #[.string nm, .slice none 0 0] 60 (0, 0))) := heap_alloc_new w10 _
          have HD11 := Lib.hid (HD10.out.below hal HRs.out HLs.out HXs.out)
          have HG11 : Hid (w10.grownBy (w10.alloc (.cells #[.string nm, .slice none 0 0] 60)) (some R)) := row_grown hal _
          have HXR10 := Lib.hid (hxr.out.aside HG10.out (aside_low _ _ _ HRs.out))
          have HB10 := Lib.hid HD10.out.size
          clear hal
          generalize (w10.alloc (.cells #[.string nm, .slice none 0 0] 60)) = w11 at HQ HD11 HG11 ⊢
          obtain ⟨Q, hQ⟩ : ∃ X, Hid (w10.heap.size = X) := ⟨_, rfl⟩
          rw [hQ.out] at HQ HB10 ⊢
          have HTX := Lib.hid (text_dc HD11.out HRX.out 41 (by decide) (by decide))
          rw [HVL.out, HSX.out] at HTX
          have c4 : w11.cell? ⟨V, 0, none⟩ = some (.pointer (some ⟨R, 0, none⟩)) := cell_of_one (HVk.out w11 HD11.out.keep)
          go_upto_region 19 with (go_at_call 35; refine HTX.out.mono ?_; rintro e w12 ⟨rfl, hg12, off12, hd12⟩; obtain ⟨w13, cc, hcv, hb13, hu13, hbt13⟩ := run_bytes_u8 w12 vs HVSZ.out; have HD12 := Lib.hid hd12; have HG12 := Lib.hid hg12; have HB13 := Lib.hid hb13; have HU13 := Lib.hid hu13; have HBT13 := Lib.hid hbt13; have HQ12 : Hid (w13.heap[Q]? = some (.cells #[.string nm, .slice none 0 0] 60 (0, 0))) := (hb13.block Q (Nat.lt_of_lt_of_le (lt_of_block HQ.out) hg12.size)).trans ((hg12.block Q (lt_of_block HQ.out) (fun e => by have := HRs.out; have := HB10.out; simp at e; omega)).trans HQ.out); have q1 : w13.cell? ⟨Q, 1, none⟩ = some (.slice none 0 0) := cell_of_row w13 Q 1 _ _ (0, 0) HQ12.out; have qf : w13.frozen? ⟨Q, 1, none⟩ = false := frozen_of_row w13 Q 1 _ _ HQ12.out; clear hd12 hg12 hb13 hu13 hbt13)
          have hVLs : w10.heap.size ≤ w12.heap.size := Nat.le_trans HG11.out.size HG12.out.size
          have HWB : Hid (wB.heap.size ≤ w12.heap.size) := by have := HB10.out; have := hQ.out; show _ ≤ _; omega
          have hQlt : Q < w12.heap.size := Nat.lt_of_lt_of_le (lt_of_block HQ.out) HG12.out.size
          have HG14 : Hid (w10.grownBy (w13.setCell ⟨Q, 1, none⟩ (.slice (some ⟨w12.heap.size, 0, none⟩) (strB vs).length cc)) (some R)) := grown_set (grown_then (grown_then HG11.out HG12.out) (row_grown HB13.out _)) (by have := hQ.out; omega) _
          have HQ14 : Hid ((w13.setCell ⟨Q, 1, none⟩ (.slice (some ⟨w12.heap.size, 0, none⟩) (strB vs).length cc)).heap[Q]? = some (.cells #[.string nm, .slice (some ⟨w12.heap.size, 0, none⟩) (strB vs).length cc] 60 (0, 0))) := heap_setCell_same w13 Q 1 _ _ _ HQ12.out
          have HD14 := Lib.hid ((HD12.out.below HB13.out HRs.out HLs.out HXs.out).grow (grownBy_set w13 Q 1 (.slice (some ⟨w12.heap.size, 0, none⟩) (strB vs).length cc)) (fun j hj => by simp only [Option.some.injEq] at hj; have := HB10.out; omega) HRs.out HLs.out HXs.out)
          have HBT14 := Lib.hid (HBT13.out.grown (grownBy_set w13 Q 1 (.slice (some ⟨w12.heap.size, 0, none⟩) (strB vs).length cc)) (fun _ e => by simp only [Option.some.injEq] at e; omega))
          have HU14 : Hid (U8At (w13.setCell ⟨Q, 1, none⟩ (.slice (some ⟨w12.heap.size, 0, none⟩) (strB vs).length cc)) w12.heap.size) := by
            obtain ⟨cs, fr, hu⟩ := HU13.out
            exact ⟨cs, fr, (Below.heap_setCell _ _ _ _ (show w12.heap.size ≠ Q by omega)).trans hu⟩
          have HXR14 := Lib.hid (HXR10.out.aside HG14.out (aside_low _ _ _ HRs.out))
          clear hVLs hQlt q1 qf hcv HQ HQ12 HD11 HD12 HB13 HU13 HBT13 HG11 HG12 HXR10 HD10 HG10 HTX c4
          obtain ⟨VL, hVL⟩ : ∃ x, Hid (w12.heap.size = x) := ⟨_, rfl⟩
          have HVLB : Hid (wB.heap.size ≤ VL) := by have := hVL.out; have := HWB.out; show _ ≤ _; omega
          rw [hVL.out] at HG14 HQ14 HD14 HBT14 HU14 HXR14 ⊢
          generalize (w13.setCell ⟨Q, 1, none⟩ (.slice (some ⟨VL, 0, none⟩) (strB vs).length cc)) = w14 at HG14 HQ14 HD14 HBT14 HU14 HXR14 ⊢
          have hal : Below w14.heap.size w14 (w14.alloc (.cells #[.string nm, .slice (some ⟨VL, 0, none⟩) (strB vs).length cc] 60)) := (Below.refl _ _).alloc (Nat.le_refl _) _
          have hu15 : U8At (w14.alloc (.cells #[.string nm, .slice (some ⟨VL, 0, none⟩) (strB vs).length cc] 60)) VL := (u8_aside (B := 0) (t1 := 9) HU14.out (Nat.zero_le _) (row_grown hal none) (aside_none _ _ _ _)).1
          obtain ⟨a16, c16, w16, hrun, hx16, hg16⟩ := (HXR14.out.below hal).push (Nat.le_trans HD14.out.size hal.size) nm (some ⟨VL, 0, none⟩) cc (strB vs) VL w14.heap.size HVLB.out hu15 (HBT14.out.below hal) (heap_alloc_new w14 _) hnm.out (by show strB (xVl true bs i) = _; rw [hvs.out]) (by omega)
          have HRUN := Lib.hid hrun
          have hd16 := (HD14.out.below hal HRs.out HLs.out HXs.out).grow hg16 (fun j hj => ((HXR14.out.below hal).row.lt j hj).1) HRs.out HLs.out HXs.out
          have f9 : w16.frozen? ⟨X, 9, none⟩ = false := frozen_of_row w16 X 9 _ _ hd16.ino
          have k9 := hd16.ino.cells.2.2.2.2.2.2.2.2.2.1
          have HD17 := Lib.hid (hd16.toX HRX.out HLX.out (heap_setCell_same w16 X 9 _ _ (.slice a16 (i + 1) c16) hd16.ino) (grownBy_set w16 X 9 _))
          have HXR17 := Lib.hid (hx16.aside (grownBy_set w16 X 9 (.slice a16 (i + 1) c16)) (aside_low _ _ _ HXs.out))
          have e9 := HD14.out.ino.cells.2.2.2.2.2.2.2.2.2.1
          have q0 : w14.cell? ⟨Q, 0, none⟩ = some (.string nm) := cell_of_row w14 Q 0 _ _ (0, 0) HQ14.out
          have q1 : w14.cell? ⟨Q, 1, none⟩ = some (.slice (some ⟨VL, 0, none⟩) (strB vs).length cc) := cell_of_row w14 Q 1 _ _ (0, 0) HQ14.out
          clear hal hu15 hrun hx16 hg16 hd16 HG14 HQ14 HD14 HBT14 HU14 HXR14
          go_wp2_with (at_builtin; refine wpList_append_run _ rfl _ _ _ _ rfl _ _ rfl rfl HRUN.out ?_)
          go_roundw
          case rel => exact ⟨i + 1, off12, a16, c16, _, _, by omega, by go_num, HD17, HXR17⟩
          case measure => simp [intOf]; omega
        · have e : i = nx := by omega
          rw [e] at hd hxr ⊢
          clear e hlt
          obtain ⟨xa, hxa⟩ : ∃ x, Hid (xa = x) := ⟨_, rfl⟩
          have HD9 := Lib.hid hd.out
          have HXR := Lib.hid hxr.out
          clear hd hxr
          rw [hxa.out] at HD9 HXR
          have hbX' := sX_bytes (b := true) HRG.out nx
          have hbE := num_bd (n := 1) (by decide) (by decide) hbX'
          have HCEE : Hid (cE true bs = nS (sX true bs nx) 1) := by show nS (sX true bs (nX true bs)) 1 = _; rw [HNX.out]
          have HSE : Hid (nT (sX true bs nx) 1 = sE true bs 0) := by show _ = nT (sX true bs (nX true bs)) 1; rw [HNX.out]
          obtain ⟨ce, hce⟩ : ∃ c : Nat, nS (sX true bs nx) 1 = c := Int.eq_ofNat_of_zero_le hbE.1
          have hce8 : ce < 256 := by have := hbE.2; omega
          have HCLO := Lib.hid (clo_dc HD9.out HRX.out (HVk.out wr HD9.out.keep) hbX' 1 (by decide) (by decide))
          rw [hce, HSE.out] at HCLO
          have HNE : Hid (nE true bs = min ce 41) := by show min (cE true bs).toNat 41 = _; rw [HCEE.out, hce, Int.toNat_natCast]
          have HCEB : Hid (cE true bs = ce) := by show _ = _; rw [HCEE.out, hce]
          clear hbX' hbE hce HCEE
          go_upto_region 22 with (go_at_call 31; refine HCLO.out.mono ?_; rintro e w10 ⟨rfl, hg10, off10, hd10⟩; have HD10 := Lib.hid hd10; have HXR10 := Lib.hid (HXR.out.aside hg10 (aside_low _ _ _ HRs.out)); clear hd10 hg10)
          clear HCLO HD9 HXR
          obtain ⟨ne, hne⟩ : ∃ n, Hid (min ce 41 = n) := ⟨_, rfl⟩
          have hm : min (ce : Int) 41 = (ne : Int) := by have := hne.out; omega
          rw [hm]
          rw [hne.out] at HNE
          have HNE41 : Hid (ne ≤ 41) := by have := hne.out; show _ ≤ _; omega
          clear hm hce8
          have hne41 : ne ≤ 41 := HNE41.out
          go_loopw [75] (fun iv wr => ∃ i off : Nat, ∃ ea ec, i ≤ ne ∧ iv = .int .i64 i ∧ Hid (Dc wB wr R L X off (sE true bs i) h0 h1 h2 h3 h4 h5 v0 v1 ln xa nx xc ea i ec) ∧ Hid (XaRow wB.heap.size wr (.slice xa nx xc) nx (xNm true bs) VA VC (fun i => strB (xVl true bs i))) ∧ Hid (ExRow wB.heap.size wr (.slice ea i ec) i (qF true bs) (qH true bs) (qN true bs))) (fun iv _ => ne - (intOf iv).toNat)
          case atStart => exact ⟨0, off10, none, 0, Nat.zero_le _, rfl, HD10.out, HXR10.out, ExRow.nil _ _ _ _ _⟩
          case round =>
            obtain ⟨i, off, ea, ec, hi, rfl, hd, hxr, her⟩ := hrel
            by_cases hlt : i < ne
            · have e0 : Hid (nS (sE true bs i) 1 = qF true bs i) := rfl
              have e1 : Hid (nS (nT (sE true bs i) 1) 1 = qH true bs i) := rfl
              have e2 : Hid (nS (nT (nT (sE true bs i) 1) 1) 1 = qN true bs i) := rfl
              have e3 : Hid (nT (nT (nT (sE true bs i) 1) 1) 1 = sE true bs (i + 1)) := rfl
              have b0' := sE_bytes (b := true) HRG.out i
              obtain ⟨f, hf⟩ : ∃ x, Hid (qF true bs i = x) := ⟨_, rfl⟩
              obtain ⟨hh, hhh⟩ : ∃ x, Hid (qH true bs i = x) := ⟨_, rfl⟩
              obtain ⟨nn, hnn⟩ : ∃ x, Hid (qN true bs i = x) := ⟨_, rfl⟩
              have HE1 : Hid (∀ (w : World) (off : Nat), Dc wB w R L X off (sE true bs i) h0 h1 h2 h3 h4 h5 v0 v1 ln xa nx xc ea i ec → Calls Try.prog 31 #[.int .i64 1, .pointer (some ⟨V, 0, none⟩)] w fun e w' => e = .returned (.int .i64 f) ∧ w.grownBy w' (some R) ∧ ∃ off', Dc wB w' R L X off' (nT (sE true bs i) 1) h0 h1 h2 h3 h4 h5 v0 v1 ln xa nx xc ea i ec) := fun w off h => by
                have := clo_dc h HRX.out (HVk.out w h.keep) b0' 1 (by decide) (by decide)
                rw [e0.out, hf.out] at this
                exact this
              have HE2 : Hid (∀ (w : World) (off : Nat), Dc wB w R L X off (nT (sE true bs i) 1) h0 h1 h2 h3 h4 h5 v0 v1 ln xa nx xc ea i ec → Calls Try.prog 31 #[.int .i64 1, .pointer (some ⟨V, 0, none⟩)] w fun e w' => e = .returned (.int .i64 hh) ∧ w.grownBy w' (some R) ∧ ∃ off', Dc wB w' R L X off' (nT (nT (sE true bs i) 1) 1) h0 h1 h2 h3 h4 h5 v0 v1 ln xa nx xc ea i ec) := fun w off h => by
                have := clo_dc h HRX.out (HVk.out w h.keep) (nT_bytes b0') 1 (by decide) (by decide)
                rw [e1.out, hhh.out] at this
                exact this
              have HE3 : Hid (∀ (w : World) (off : Nat), Dc wB w R L X off (nT (nT (sE true bs i) 1) 1) h0 h1 h2 h3 h4 h5 v0 v1 ln xa nx xc ea i ec → Calls Try.prog 31 #[.int .i64 1, .pointer (some ⟨V, 0, none⟩)] w fun e w' => e = .returned (.int .i64 nn) ∧ w.grownBy w' (some R) ∧ ∃ off', Dc wB w' R L X off' (sE true bs (i + 1)) h0 h1 h2 h3 h4 h5 v0 v1 ln xa nx xc ea i ec) := fun w off h => by
                have := clo_dc h HRX.out (HVk.out w h.keep) (nT_bytes (nT_bytes b0')) 1 (by decide) (by decide)
                rw [e2.out, hnn.out, e3.out] at this
                exact this
              clear b0'
              have HD0 := Lib.hid hd.out.drew
              have k10 := hd.out.ino.cells.2.2.2.2.2.2.2.2.2.2
              have gd : wr.grownBy wr.drew none := ⟨rfl, rfl, rfl, Nat.le_refl _, fun _ _ _ => rfl⟩
              have HX0 := Lib.hid (hxr.out.aside gd (aside_none _ _ _ _))
              have HR0' := Lib.hid (her.out.aside (t2 := 5) gd (aside_none _ _ _ _))
              clear gd
              go_upto_block 5 with fail
              go_cut [] (fun wx => ∃ (off : Nat) (ea : Option Addr) (ec : Nat), Hid (Dc wB wx R L X off (sE true bs (i + 1)) h0 h1 h2 h3 h4 h5 v0 v1 ln xa nx xc ea (i + 1) ec) ∧ Hid (XaRow wB.heap.size wx (.slice xa nx xc) nx (xNm true bs) VA VC (fun i => strB (xVl true bs i))) ∧ Hid (ExRow wB.heap.size wx (.slice ea (i + 1) ec) (i + 1) (qF true bs) (qH true bs) (qN true bs)))
              case first =>
                go_upto_region 23 with fail
                clear hd hxr her
                go_region_law (first
                  | (go_simp; go_at_call 31; ((with_reducible refine (HE1.out _ _ HD0.out).mono ?_); rintro e w11 ⟨rfl, hg, off11, hd⟩); have HD11 := Lib.hid hd; have HX11 := Lib.hid (HX0.out.aside hg (aside_low _ _ _ HRs.out)); have HR11 := Lib.hid (HR0'.out.aside (t2 := 5) hg (aside_low _ _ _ HRs.out)); have k11 := hd.ino.cells.2.2.2.2.2.2.2.2.2.2; clear hg hd)
                  | (go_simp; go_at_call 31; ((with_reducible refine (HE2.out _ _ HD11.out).mono ?_); rintro e w12 ⟨rfl, hg, off12, hd⟩); have HD12 := Lib.hid hd; have HX12 := Lib.hid (HX11.out.aside hg (aside_low _ _ _ HRs.out)); have HR12 := Lib.hid (HR11.out.aside (t2 := 5) hg (aside_low _ _ _ HRs.out)); have k12 := hd.ino.cells.2.2.2.2.2.2.2.2.2.2; clear hg hd)
                  | (go_simp; go_at_call 31; ((with_reducible refine (HE3.out _ _ HD12.out).mono ?_); rintro e w13 ⟨rfl, hg, off13, hd⟩); have k13 := hd.ino.cells.2.2.2.2.2.2.2.2.2.2; have hx13 := HX12.out.aside hg (aside_low _ _ _ HRs.out); have hr13 := HR12.out.aside (t2 := 5) hg (aside_low _ _ _ HRs.out); have hal : Below w13.heap.size w13 (w13.alloc (.cells #[.int .i64 f, .int .i64 hh, .int .i64 nn] 25)) := (Below.refl _ _).alloc (Nat.le_refl _) _; obtain ⟨a15, c15, w15, hrun, hr15, hg15⟩ := (hr13.below hal).push (Nat.le_trans hd.size hal.size) f hh nn w13.heap.size (heap_alloc_new w13 _) hf.out hhh.out hnn.out (by omega); have hd14 := hd.below hal HRs.out HLs.out HXs.out; have k14 := hd14.ino.cells.2.2.2.2.2.2.2.2.2.2; have hd15 := hd14.grow hg15 (fun j hj => ((hr13.below hal).row.lt j hj).1) HRs.out HLs.out HXs.out; have f15 : w15.frozen? ⟨X, 10, none⟩ = false := frozen_of_row w15 X 10 _ _ hd15.ino; have k15 := hd15.ino.cells.2.2.2.2.2.2.2.2.2.2; have HD16 := Lib.hid (hd15.toX HRX.out HLX.out (heap_setCell_same w15 X 10 _ _ (.slice a15 (i + 1) c15) hd15.ino) (grownBy_set w15 X 10 _)); have HX16 := Lib.hid (((hx13.below hal).aside hg15 (aside_row (hr13.below hal).row (by decide) (by decide))).aside (grownBy_set w15 X 10 (.slice a15 (i + 1) c15)) (aside_low _ _ _ HXs.out)); have HR16 := Lib.hid (hr15.aside (t2 := 5) (grownBy_set w15 X 10 (.slice a15 (i + 1) c15)) (aside_low _ _ _ HXs.out)); have HRUN := Lib.hid hrun; clear hg hd hx13 hr13 hal hrun hr15 hg15 hd14 hd15)
                  | (refine step_append_run (by rfl) _ _ _ _ (by rfl) _ _ (by rfl) (by rfl) HRUN.out ?_))
                all_goals (go_wp2; go_meet; exact ⟨off13, a15, c15, HD16, HX16, HR16⟩)
              case rest =>
                obtain ⟨off16, ea16, ec16, hd16, hx16, hr16⟩ := hcut
                go_wp2
                go_roundw
                case rel => exact ⟨i + 1, off16, ea16, ec16, by omega, by go_num, hd16, hx16, hr16⟩
                case measure => simp [intOf]; omega
            · have e : i = ne := by omega
              rw [e] at hd her ⊢
              clear e hlt
              obtain ⟨L1, hL1, hex⟩ := ex_at her.out.row
              obtain ⟨L2, hL2, hxa⟩ := xa_at hxr.out.row
              have HM0 : InoM wr wB.heap.size (.agg #[.int .i64 (hV bs 0), .int .i64 (hV bs 1), .int .i64 (hV bs 2), .int .i64 (hV bs 3), .int .i64 (hV bs 4), .int .i64 (hV bs 5), .float .f64 (tV true bs 0), .float .f64 (tV true bs 1), .string (lV true bs), .slice xa (nX true bs) xc, .slice ea (nE true bs) ec]) (prs true bs) := by
                refine ⟨xa, ea, xc, ec, L1, 0, L2, 0, VA, VC, rfl, ?_, ?_, fun j hj => ?_, hL1, hL2⟩
                · show ExAt wr L1 0 ea (nE true bs) ec _ _ _
                  rw [HNE.out]; exact hex
                · show XaAt wr L2 0 xa (nX true bs) xc _ _ _ _
                  rw [HNX.out]; exact hxa
                · have hj' : j < nx := by rw [← HNX.out]; exact hj
                  obtain ⟨VL, q1, _, q3⟩ := hxr.out.vals j hj'
                  exact ⟨VL, 0, q1, q3⟩
              rw [hh0.out, hh1.out, hh2.out, hh3.out, hh4.out, hh5.out, hv0.out, hv1.out, hln.out, HNX.out, HNE.out] at HM0
              have HM := Lib.hid HM0
              have HD := Lib.hid hd.out
              have HTK : Hid (takes bs = ((endV (zT (sE true bs ne) (zN nx ne)).xs (zT (sE true bs ne) (zN nx ne)).sp == 0) && (rightD (prs true bs) && !(h0 == 0 && !bs.all (· == 0))))) := by
                show _ = _
                unfold takes
                rw [HNX.out, HNE.out, hh0.out]
              obtain ⟨z, hz⟩ : ∃ z, Hid (zN nx ne = z) := ⟨_, rfl⟩
              have HZE : Hid (max 0 (440 - (94 + (nx : Int) * 54 + 1 + 3 * (ne : Int))) = z) := hz.out
              rw [hz.out] at HTK
              clear HM0 hL1 hL2 hex hxa hd her hxr
              obtain ⟨k0, k1, k2, k3, k4, k5, k6, k7, k8, k9, k10⟩ := HD.out.ino.cells
              go_upto_region 26 with (go_at_call 36; refine (size_any _ _ _ _ _ _ _ _ _ _ _ _ _ _ _ _ (by omega) (by omega)).mono ?_; rintro e w11 ⟨rfl, hb⟩; have HD11 := Lib.hid (HD.out.below hb HRs.out HLs.out HXs.out); have HM11 := Lib.hid (HM.out.below hb); clear hb)
              clear k0 k1 k2 k3 k4 k5 k6 k7 k8 k9 k10 HD HM
              have c4 : w11.cell? ⟨V, 0, none⟩ = some (.pointer (some ⟨R, 0, none⟩)) := cell_of_one (HVk.out w11 HD11.out.keep)
              have HZR : Hid (Calls Try.prog 37 #[.pointer (some ⟨R, 0, none⟩), .int .i64 (max 0 (440 - (94 + (nx : Int) * 54 + 1 + 3 * (ne : Int))))] w11 fun e w' => e = .returned (.tuple #[]) ∧ w11.grownBy w' (some R) ∧ ∃ off', Dc wB w' R L X off' (zT (sE true bs ne) z) h0 h1 h2 h3 h4 h5 v0 v1 ln xa nx xc ea ne ec) := by
                show Calls _ _ _ _ _
                rw [HZE.out]; exact zeros_dc HD11.out HRX.out z
              go_upto_region 27 with (go_at_call 37; refine HZR.out.mono ?_; rintro e w12 ⟨rfl, hg, off12, hd⟩; have HD12 := Lib.hid hd; have HM12 := Lib.hid (HM11.out.grown hg (fun j hj => by simp only [Option.some.injEq] at hj; have := HRs.out; omega)); clear hg hd)
              clear HZR HZE HD11 HM11 c4
              have c4 : w12.cell? ⟨V, 0, none⟩ = some (.pointer (some ⟨R, 0, none⟩)) := cell_of_one (HVk.out w12 HD12.out.keep)
              have HEND := Lib.hid (end_any R L off12 _ _ w12 HD12.out.rdr)
              obtain ⟨ev, hev⟩ : ∃ x, Hid (endV (zT (sE true bs ne) z).xs (zT (sE true bs ne) z).sp = x) := ⟨_, rfl⟩
              rw [hev.out] at HEND HTK
              obtain ⟨rr, hrr⟩ : ∃ x, Hid (rightD (prs true bs) = x) := ⟨_, rfl⟩
              rw [hrr.out] at HTK
              obtain ⟨az, haz⟩ : ∃ x, Hid (bs.all (· == 0) = x) := ⟨_, rfl⟩
              rw [haz.out] at HTK
              have HCHK : Hid (Calls Try.prog 9 #[.agg #[.int .i64 h0, .int .i64 h1, .int .i64 h2, .int .i64 h3, .int .i64 h4, .int .i64 h5, .float .f64 v0, .float .f64 v1, .string ln, .slice xa nx xc, .slice ea ne ec]] w12 fun e w' => e = .returned (.int .i64 (if rr = true then 0 else 3)) ∧ Below w12.heap.size w12 w') := by
                have := checkD HM12.out
                rw [hrr.out] at this
                exact this
              obtain ⟨n1, n2, n3, n4, n5, n6⟩ := HNUM.out
              have HN1 : Hid (Z < R) := n1
              have HN2 : Hid (Z < X) := by show _ < _; omega
              have HN3 : Hid (Z < wB.heap.size) := by show _ < _; omega
              have HZK : Hid (∀ (w : World), (∀ j, j < wB.heap.size → j ≠ R → j ≠ X → w.heap[j]? = wB.heap[j]?) → w.heap[Z]? = some (.cells #[.int .i64 0, .int .i64 0, .int .i64 0, .int .i64 0, .int .i64 0, .int .i64 0, .float .f64 0, .float .f64 0, .string ⟨#[]⟩, .slice none 0 0, .slice none 0 0] 31 (0, 0))) := fun w hk => (hk Z (by omega) (by omega) (by omega)).trans HZB.out
              clear n1 n2 n3 n4 n5 n6
              have HSI := Lib.hid infoIno
              have HZ1 : Hid (Array.all (#[.int .i64 0, .int .i64 0, .int .i64 0, .int .i64 0, .int .i64 0, .int .i64 0, .float .f64 0, .float .f64 0, .string ⟨#[]⟩, .slice none 0 0, .slice none 0 0] : Array Value) (·.oneCell') = true) := by show _ = _; rw [← Array.all_toList]; rfl
              obtain ⟨k0, k1, k2, k3, k4, k5, k6, k7, k8, k9, k10⟩ := HD12.out.ino.cells
              cases he0 : (ev == 0) with
              | false =>
                have HTF : Hid (takes bs = false) := by show _ = _; rw [HTK.out, he0]; rfl
                have HDE := HD12
                have HZH := Lib.hid (HZK.out w12 HD12.out.keep)
                have he1 : (ev != 0) = true := by rw [bne, he0]; rfl
                go_upto_region 28 with (go_at_call 38; refine HEND.out.mono ?_; rintro e w13 ⟨rfl, rfl⟩)
                clear k0 k1 k2 k3 k4 k5 k6 k7 k8 k9 k10
                go_wp2_with ((refine wpList_store_row rfl 31 (.tmp 2) (.tmp 115) rfl Z #[.int .i64 0, .int .i64 0, .int .i64 0, .int .i64 0, .int .i64 0, .int .i64 0, .float .f64 0, .float .f64 0, .string ⟨#[]⟩, .slice none 0 0, .slice none 0 0] rfl rfl 31 _ HZH.out HSI.out rfl HZ1.out ?_))
                exact bodyPost_ret (v := .tuple #[.agg #[.int .i64 0, .int .i64 0, .int .i64 0, .int .i64 0, .int .i64 0, .int .i64 0, .float .f64 0, .float .f64 0, .string ⟨#[]⟩, .slice none 0 0, .slice none 0 0], .int .i64 12]) (results_row_tmp rfl _ _ Z 31 #[.int .i64 0, .int .i64 0, .int .i64 0, .int .i64 0, .int .i64 0, .int .i64 0, .float .f64 0, .float .f64 0, .string ⟨#[]⟩, .slice none 0 0, .slice none 0 0] (0, 0) _ rfl (setRow_heap w12 Z _ _ _ _ HZH.out) Try.underlying31 rfl HSI.out (.int .i64 12) rfl) rfl (dec_bad HDE.out HBW.out hZ.out HN1.out HN2.out HN3.out HTF.out _)
              | true =>
                have he1 : (ev != 0) = false := by rw [bne, he0]; rfl
                cases rr with
                | false =>
                  have HTF : Hid (takes bs = false) := by show _ = _; rw [HTK.out]; simp
                  go_upto_region 28 with (first
                    | (go_at_call 38; refine HEND.out.mono ?_; rintro e w13 ⟨rfl, rfl⟩)
                    | (go_at_call 9; refine HCHK.out.mono ?_; rintro e w14 ⟨rfl, hb⟩; have HDE := Lib.hid (HD12.out.below hb HRs.out HLs.out HXs.out); clear hb k0 k1 k2 k3 k4 k5 k6 k7 k8 k9 k10))
                  have HZH := Lib.hid (HZK.out w14 HDE.out.keep)
                  go_wp2_with ((refine wpList_store_row rfl 31 (.tmp 2) (.tmp 115) rfl Z #[.int .i64 0, .int .i64 0, .int .i64 0, .int .i64 0, .int .i64 0, .int .i64 0, .float .f64 0, .float .f64 0, .string ⟨#[]⟩, .slice none 0 0, .slice none 0 0] rfl rfl 31 _ HZH.out HSI.out rfl HZ1.out ?_))
                  exact bodyPost_ret (v := .tuple #[.agg #[.int .i64 0, .int .i64 0, .int .i64 0, .int .i64 0, .int .i64 0, .int .i64 0, .float .f64 0, .float .f64 0, .string ⟨#[]⟩, .slice none 0 0, .slice none 0 0], .int .i64 12]) (results_row_tmp rfl _ _ Z 31 #[.int .i64 0, .int .i64 0, .int .i64 0, .int .i64 0, .int .i64 0, .int .i64 0, .float .f64 0, .float .f64 0, .string ⟨#[]⟩, .slice none 0 0, .slice none 0 0] (0, 0) _ rfl (setRow_heap w14 Z _ _ _ _ HZH.out) Try.underlying31 rfl HSI.out (.int .i64 12) rfl) rfl (dec_bad HDE.out HBW.out hZ.out HN1.out HN2.out HN3.out HTF.out _)
                | true =>
                  cases hk0 : (h0 == 0) with
                  | true =>
                    cases az with
                    | false =>
                      have HTF : Hid (takes bs = false) := by show _ = _; rw [HTK.out, hk0]; simp
                      go_upto_region 28 with (first
                      | (go_at_call 38; refine HEND.out.mono ?_; rintro e w13 ⟨rfl, rfl⟩)
                      | (go_at_call 9; refine HCHK.out.mono ?_; rintro e w14 ⟨rfl, hb⟩; have HDE := Lib.hid (HD12.out.below hb HRs.out HLs.out HXs.out); have HME := Lib.hid (HM12.out.below hb); clear hb k0 k1 k2 k3 k4 k5 k6 k7 k8 k9 k10; obtain ⟨k0, k1, k2, k3, k4, k5, k6, k7, k8, k9, k10⟩ := HDE.out.ino.cells; have HZR := Lib.hid (zero_any b0 440 c 0 bs w14 ⟨L0, off0, Nat.zero_le _, HBT.out.below (show Below w.heap.size w w14 by rw [hZ.out]; exact HDE.out.toBelow HBW.out (by have := HN3.out; omega) (by have := HN1.out; omega) (by have := HN2.out; omega))⟩); rw [haz.out] at HZR)
                      | (go_at_call 39; refine HZR.out.mono ?_; rintro e w15 ⟨rfl, rfl⟩))
                      have HZH := Lib.hid (HZK.out w14 HDE.out.keep)
                      go_wp2_with ((refine wpList_store_row rfl 31 (.tmp 2) (.tmp 115) rfl Z #[.int .i64 0, .int .i64 0, .int .i64 0, .int .i64 0, .int .i64 0, .int .i64 0, .float .f64 0, .float .f64 0, .string ⟨#[]⟩, .slice none 0 0, .slice none 0 0] rfl rfl 31 _ HZH.out HSI.out rfl HZ1.out ?_))
                      exact bodyPost_ret (v := .tuple #[.agg #[.int .i64 0, .int .i64 0, .int .i64 0, .int .i64 0, .int .i64 0, .int .i64 0, .float .f64 0, .float .f64 0, .string ⟨#[]⟩, .slice none 0 0, .slice none 0 0], .int .i64 12]) (results_row_tmp rfl _ _ Z 31 #[.int .i64 0, .int .i64 0, .int .i64 0, .int .i64 0, .int .i64 0, .int .i64 0, .float .f64 0, .float .f64 0, .string ⟨#[]⟩, .slice none 0 0, .slice none 0 0] (0, 0) _ rfl (setRow_heap w14 Z _ _ _ _ HZH.out) Try.underlying31 rfl HSI.out (.int .i64 12) rfl) rfl (dec_bad HDE.out HBW.out hZ.out HN1.out HN2.out HN3.out HTF.out _)
                    | true =>
                      have HTF : Hid (takes bs = true) := by show _ = _; rw [HTK.out, he0]; simp
                      go_upto_region 29 with (first
                      | (go_at_call 38; refine HEND.out.mono ?_; rintro e w13 ⟨rfl, rfl⟩)
                      | (go_at_call 9; refine HCHK.out.mono ?_; rintro e w14 ⟨rfl, hb⟩; have HDE := Lib.hid (HD12.out.below hb HRs.out HLs.out HXs.out); have HME := Lib.hid (HM12.out.below hb); clear hb k0 k1 k2 k3 k4 k5 k6 k7 k8 k9 k10; obtain ⟨k0, k1, k2, k3, k4, k5, k6, k7, k8, k9, k10⟩ := HDE.out.ino.cells; have HZR := Lib.hid (zero_any b0 440 c 0 bs w14 ⟨L0, off0, Nat.zero_le _, HBT.out.below (show Below w.heap.size w w14 by rw [hZ.out]; exact HDE.out.toBelow HBW.out (by have := HN3.out; omega) (by have := HN1.out; omega) (by have := HN2.out; omega))⟩); rw [haz.out] at HZR)
                      | (go_at_call 39; refine HZR.out.mono ?_; rintro e w15 ⟨rfl, rfl⟩))
                      have HZH := Lib.hid (HZK.out w14 HDE.out.keep)
                      have HV1 : Hid (Array.all (#[.int .i64 h0, .int .i64 h1, .int .i64 h2, .int .i64 h3, .int .i64 h4, .int .i64 h5, .float .f64 v0, .float .f64 v1, .string ln, .slice xa nx xc, .slice ea ne ec] : Array Value) (·.oneCell') = true) := by show _ = _; rw [← Array.all_toList]; rfl
                      go_wp2_with ((refine wpList_store_row rfl 31 (.tmp 2) (.tmp 116) rfl Z #[.int .i64 h0, .int .i64 h1, .int .i64 h2, .int .i64 h3, .int .i64 h4, .int .i64 h5, .float .f64 v0, .float .f64 v1, .string ln, .slice xa nx xc, .slice ea ne ec] rfl rfl 31 _ HZH.out HSI.out rfl HV1.out ?_))
                      exact bodyPost_ret (v := .tuple #[.agg #[.int .i64 h0, .int .i64 h1, .int .i64 h2, .int .i64 h3, .int .i64 h4, .int .i64 h5, .float .f64 v0, .float .f64 v1, .string ln, .slice xa nx xc, .slice ea ne ec], .int .i64 0]) (results_row_tmp rfl _ _ Z 31 #[.int .i64 h0, .int .i64 h1, .int .i64 h2, .int .i64 h3, .int .i64 h4, .int .i64 h5, .float .f64 v0, .float .f64 v1, .string ln, .slice xa nx xc, .slice ea ne ec] (0, 0) _ rfl (setRow_heap w14 Z _ _ _ _ HZH.out) Try.underlying31 rfl HSI.out (.int .i64 0) rfl) rfl (dec_good HDE.out HBW.out hZ.out HN1.out HN2.out HN3.out HTF.out HRG.out HLB.out HME.out _)
                  | false =>
                    have HTF : Hid (takes bs = true) := by show _ = _; rw [HTK.out, he0, hk0]; rfl
                    go_upto_region 29 with (first
                      | (go_at_call 38; refine HEND.out.mono ?_; rintro e w13 ⟨rfl, rfl⟩)
                      | (go_at_call 9; refine HCHK.out.mono ?_; rintro e w14 ⟨rfl, hb⟩; have HDE := Lib.hid (HD12.out.below hb HRs.out HLs.out HXs.out); have HME := Lib.hid (HM12.out.below hb); clear hb k0 k1 k2 k3 k4 k5 k6 k7 k8 k9 k10; obtain ⟨k0, k1, k2, k3, k4, k5, k6, k7, k8, k9, k10⟩ := HDE.out.ino.cells; have HZR := Lib.hid (zero_any b0 440 c 0 bs w14 ⟨L0, off0, Nat.zero_le _, HBT.out.below (show Below w.heap.size w w14 by rw [hZ.out]; exact HDE.out.toBelow HBW.out (by have := HN3.out; omega) (by have := HN1.out; omega) (by have := HN2.out; omega))⟩); rw [haz.out] at HZR)
                      | (go_at_call 39; refine HZR.out.mono ?_; rintro e w15 ⟨rfl, rfl⟩))
                    have HZH := Lib.hid (HZK.out w14 HDE.out.keep)
                    have HV1 : Hid (Array.all (#[.int .i64 h0, .int .i64 h1, .int .i64 h2, .int .i64 h3, .int .i64 h4, .int .i64 h5, .float .f64 v0, .float .f64 v1, .string ln, .slice xa nx xc, .slice ea ne ec] : Array Value) (·.oneCell') = true) := by show _ = _; rw [← Array.all_toList]; rfl
                    go_wp2_with ((refine wpList_store_row rfl 31 (.tmp 2) (.tmp 116) rfl Z #[.int .i64 h0, .int .i64 h1, .int .i64 h2, .int .i64 h3, .int .i64 h4, .int .i64 h5, .float .f64 v0, .float .f64 v1, .string ln, .slice xa nx xc, .slice ea ne ec] rfl rfl 31 _ HZH.out HSI.out rfl HV1.out ?_))
                    exact bodyPost_ret (v := .tuple #[.agg #[.int .i64 h0, .int .i64 h1, .int .i64 h2, .int .i64 h3, .int .i64 h4, .int .i64 h5, .float .f64 v0, .float .f64 v1, .string ln, .slice xa nx xc, .slice ea ne ec], .int .i64 0]) (results_row_tmp rfl _ _ Z 31 #[.int .i64 h0, .int .i64 h1, .int .i64 h2, .int .i64 h3, .int .i64 h4, .int .i64 h5, .float .f64 v0, .float .f64 v1, .string ln, .slice xa nx xc, .slice ea ne ec] (0, 0) _ rfl (setRow_heap w14 Z _ _ _ _ HZH.out) Try.underlying31 rfl HSI.out (.int .i64 0) rfl) rfl (dec_good HDE.out HBW.out hZ.out HN1.out HN2.out HN3.out HTF.out HRG.out HLB.out HME.out _)
end Go.Proofs.Ytebnekpccdcnmaa
