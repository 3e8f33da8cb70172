/- Walks of the reference of the layer inode: Decode's parts. -/
import Derived.Test.YtebnekpccdcnmaaKk
import Derived.Test.YtebnekpccdcnmaaRc
namespace Go.Proofs.Ytebnekpccdcnmaa
set_option linter.unusedVariables false
set_option linter.unusedSimpArgs false
open Go.RowKit

theorem refInt_any (T L off : Nat) (bs : List Int) (k : Nat) (bad : Bool) (n : Nat) (w : World) (h1 : 1 ≤ n) (h4 : n ≤ 4) (h : RRdr w T L off bs k bad) (hlen : bs.length ≤ 140737488355328) (hb : St.bytes ⟨bs.drop k, bad⟩) :
    Calls Try.prog 40 #[.pointer (some ⟨T, 0, none⟩), .int .i64 n] w fun e w' => e = .returned (.int .i64 (nS ⟨bs.drop k, bad⟩ n)) ∧ RRdr w' T L off bs (atR bs k bad n) (nT ⟨bs.drop k, bad⟩ n).sp ∧ w.grownBy w' (some T) := by
  have HN : Hid (∀ (Q : Ending → World → Prop), (∀ w', RRdr w' T L off bs (atR bs k bad n) (nT ⟨bs.drop k, bad⟩ n).sp → w.grownBy w' (some T) → Q (.returned (.int .u64 (nS ⟨bs.drop k, bad⟩ n))) w') → Calls Try.prog 42 #[.pointer (some ⟨T, 0, none⟩), .int .i64 n] w Q) := fun Q hQ => (refNumber_rd T L off bs k bad n w h hlen).mono fun e w' hn => by
    unfold RNumbered at hn
    rw [badN_mid h1 (by omega)] at hn
    obtain ⟨rfl, h2, h3⟩ := hn
    exact hQ w' h2 h3
  obtain ⟨q, hq⟩ : ∃ q, Hid (nS ⟨bs.drop k, bad⟩ n = q) := ⟨_, rfl⟩
  have hbd := num_bd h1 (by omega) hb
  have hle : (256 : Int) ^ n ≤ 4294967296 := by
    match n, h1, h4 with
    | 1, _, _ | 2, _, _ | 3, _, _ | 4, _, _ => decide
  rw [hq.out] at hbd HN ⊢
  have hq2 : IntKind.i64.wrap q = q := IntWalk.i64_in _ (by omega)
  obtain ⟨at', hat⟩ : ∃ q, Hid (atR bs k bad n = q) := ⟨_, rfl⟩
  obtain ⟨sp', hsp⟩ : ∃ q, Hid ((nT ⟨bs.drop k, bad⟩ n).sp = q) := ⟨_, rfl⟩
  rw [hat.out, hsp.out] at HN ⊢
  clear hbd hle h hb h1 h4 hlen
  go_enter Try.func40, Try.ntmps40
  go_wp2_with (go_at_call 42; refine HN.out _ (fun w' h2 h3 => ?_); have H2 := Lib.hid h2; have H3 := Lib.hid h3; clear h2 h3)
  go_ret
  exact ⟨rfl, H2.out, H3.out⟩
theorem atR_drop {bs : List Int} {k : Nat} {bad : Bool} {n : Nat} (hk : k ≤ bs.length) : bs.drop (atR bs k bad n) = restT (bs.drop k) bad n := by
  cases h : badT (bs.drop k) bad n with
  | true =>
    rw [atR_bad hk h]
    unfold restT; rw [h, if_pos rfl]
  | false =>
    obtain ⟨h1, h2, _, h4⟩ := got_mid h
    rw [List.length_drop] at h2
    rw [atR_good (by omega) h, h4, List.drop_drop]
/-- The reference's reader, said of what is left. -/
def RR (w : World) (T L off : Nat) (bs : List Int) (st : St) : Prop := ∃ k, RRdr w T L off bs k st.sp ∧ bs.drop k = st.xs
theorem RR.step {w' : World} {T L off : Nat} {bs : List Int} {k : Nat} {bad b2 : Bool} {n : Nat} (hk : k ≤ bs.length) (h : RRdr w' T L off bs (atR bs k bad n) b2) : RR w' T L off bs ⟨restT (bs.drop k) bad n, b2⟩ := ⟨_, h, atR_drop hk⟩
theorem RRdr.le {w : World} {T L off : Nat} {bs : List Int} {k : Nat} {bad : Bool} (h : RRdr w T L off bs k bad) : k ≤ bs.length := by
  obtain ⟨_, _, _, _, _, h⟩ := h
  exact h
theorem RR.grown {w w' : World} {T L off : Nat} {bs : List Int} {st : St} {q : Option Nat} (h : RR w T L off bs st) (hg : w.grownBy w' q) (h1 : some T ≠ q) (h2 : bs ≠ [] → some L ≠ q) : RR w' T L off bs st := by
  obtain ⟨k, h3, h4⟩ := h
  exact ⟨k, h3.grown hg h1 h2, h4⟩
theorem rInt {w : World} {T L off : Nat} {bs : List Int} {st : St} (h : RR w T L off bs st) (hlen : bs.length ≤ 140737488355328) (hb : st.bytes) (n : Nat) (h1 : 1 ≤ n) (h4 : n ≤ 4) :
    Calls Try.prog 40 #[.pointer (some ⟨T, 0, none⟩), .int .i64 n] w fun e w' => e = .returned (.int .i64 (nS st n)) ∧ RR w' T L off bs (nT st n) ∧ w.grownBy w' (some T) := by
  obtain ⟨k, h2, h3⟩ := h
  obtain ⟨xs, sp⟩ := st
  obtain rfl : bs.drop k = xs := h3
  exact (refInt_any T L off bs k sp n w h1 h4 h2 hlen hb).mono fun e w' ⟨e1, e2, e3⟩ => ⟨e1, RR.step h2.le e2, e3⟩
theorem rNum {w : World} {T L off : Nat} {bs : List Int} {st : St} (h : RR w T L off bs st) (hlen : bs.length ≤ 140737488355328) (n : Nat) (h1 : 1 ≤ n) (h8 : n ≤ 8) :
    Calls Try.prog 42 #[.pointer (some ⟨T, 0, none⟩), .int .i64 n] w fun e w' => e = .returned (.int .u64 (nS st n)) ∧ RR w' T L off bs (nT st n) ∧ w.grownBy w' (some T) := by
  obtain ⟨k, h2, h3⟩ := h
  obtain ⟨xs, sp⟩ := st
  obtain rfl : bs.drop k = xs := h3
  exact (refNumber_rd T L off bs k sp n w h2 hlen).mono fun e w' hn => by
    unfold RNumbered at hn
    rw [badN_mid h1 h8] at hn
    obtain ⟨e1, e2, e3⟩ := hn
    exact ⟨e1, RR.step h2.le e2, e3⟩
theorem rText {w : World} {T L off : Nat} {bs : List Int} {st : St} (h : RR w T L off bs st) (hlen : bs.length ≤ 140737488355328) (n : Nat) (h1 : 1 ≤ n) (h2 : n ≤ 100) :
    Calls Try.prog 43 #[.pointer (some ⟨T, 0, none⟩), .int .i64 n] w fun e w' => e = .returned (.string (xS st n)) ∧ RR w' T L off bs (xT st n) ∧ w.grownBy w' (some T) := by
  obtain ⟨k, h3, h4⟩ := h
  obtain ⟨xs, sp⟩ := st
  obtain rfl : bs.drop k = xs := h4
  exact (refTextR T L off bs k sp n w h3 hlen (by omega)).mono fun e w' hn => by
    unfold RTexted at hn
    rw [badX_mid h1] at hn
    obtain ⟨e1, e2, e3⟩ := hn
    exact ⟨e1, RR.step h3.le e2, e3⟩

/-- Where the reference's Decode stands. -/
structure Dr (wB w : World) (T X L off : Nat) (bs : List Int) (st : St) (k m u g l s : Int) (t0 t1 : Nat) (ln : ByteArray) (xa : Option Addr) (xn xc : Nat) (ea : Option Addr) (en ec : Nat) : Prop where
  os : w.os = wB.os
  tape : w.tape = wB.tape
  output : w.output = wB.output
  size : wB.heap.size ≤ w.heap.size
  keep : ∀ j, j < wB.heap.size → j ≠ T → j ≠ X → w.heap[j]? = wB.heap[j]?
  rdr : RR w T L off bs st
  ino : InoAt w X k m u g l s t0 t1 ln xa xn xc ea en ec
/-- What does not turn: the bytes lie below all; their number is small. -/
structure Sr (wB : World) (T X L : Nat) (bs : List Int) : Prop where
  tl : T < wB.heap.size
  xl : X < wB.heap.size
  ll : L < wB.heap.size
  tx : T ≠ X
  lx : L ≠ X
  len : bs.length ≤ 140737488355328
section
variable {wB w w' : World} {T X L off : Nat} {bs : List Int} {st : St} {k m u g l s : Int} {t0 t1 : Nat} {ln : ByteArray} {xa : Option Addr} {xn xc : Nat} {ea : Option Addr} {en ec : Nat}
theorem Dr.toR (h : Dr wB w T X L off bs st k m u g l s t0 t1 ln xa xn xc ea en ec) (hs : Sr wB T X L bs) {st' : St} (hr : RR w' T L off bs st') (hg : w.grownBy w' (some T)) : Dr wB w' T X L off bs st' k m u g l s t0 t1 ln xa xn xc ea en ec :=
  ⟨hg.os.trans h.os, hg.tape.trans h.tape, hg.output.trans h.output, Nat.le_trans h.size hg.size, fun j hj h1 h2 => (hg.block j (Nat.lt_of_lt_of_le hj h.size) (fun e => h1 (by simpa using e))).trans (h.keep j hj h1 h2), hr,
    (hg.block X (lt_of_block h.ino) (fun e => hs.tx (by simpa using e.symm))).trans h.ino⟩
theorem Dr.toX (h : Dr wB w T X L off bs st k m u g l s t0 t1 ln xa xn xc ea en ec) (hs : Sr wB T X L bs) {k' m' u' g' l' s' : Int} {t0' t1' : Nat} {ln' : ByteArray} {xa' : Option Addr} {xn' xc' : Nat} {ea' : Option Addr} {en' ec' : Nat} (hi : InoAt w' X k' m' u' g' l' s' t0' t1' ln' xa' xn' xc' ea' en' ec') (hg : w.grownBy w' (some X)) :
    Dr wB w' T X L off bs st k' m' u' g' l' s' t0' t1' ln' xa' xn' xc' ea' en' ec' :=
  ⟨hg.os.trans h.os, hg.tape.trans h.tape, hg.output.trans h.output, Nat.le_trans h.size hg.size, fun j hj h1 h2 => (hg.block j (Nat.lt_of_lt_of_le hj h.size) (fun e => h2 (by simpa using e))).trans (h.keep j hj h1 h2), h.rdr.grown hg (fun e => hs.tx (by simpa using e)) (fun _ e => hs.lx (by simpa using e)), hi⟩
theorem Dr.grow (h : Dr wB w T X L off bs st k m u g l s t0 t1 ln xa xn xc ea en ec) (hs : Sr wB T X L bs) {q : Option Nat} (hg : w.grownBy w' q) (hq : ∀ j, q = some j → wB.heap.size ≤ j) : Dr wB w' T X L off bs st k m u g l s t0 t1 ln xa xn xc ea en ec :=
  have hne : ∀ j, j < wB.heap.size → some j ≠ q := fun j hj e => by have := hq j e.symm; omega
  ⟨hg.os.trans h.os, hg.tape.trans h.tape, hg.output.trans h.output, Nat.le_trans h.size hg.size, fun j hj h1 h2 => (hg.block j (Nat.lt_of_lt_of_le hj h.size) (hne j hj)).trans (h.keep j hj h1 h2), h.rdr.grown hg (hne T hs.tl) (fun _ => hne L hs.ll),
    (hg.block X (lt_of_block h.ino) (hne X hs.xl)).trans h.ino⟩
theorem Dr.below (h : Dr wB w T X L off bs st k m u g l s t0 t1 ln xa xn xc ea en ec) (hs : Sr wB T X L bs) (hb : Below w.heap.size w w') : Dr wB w' T X L off bs st k m u g l s t0 t1 ln xa xn xc ea en ec := h.grow hs (row_grown hb none) (fun j hj => by cases hj)
theorem Dr.drew (h : Dr wB w T X L off bs st k m u g l s t0 t1 ln xa xn xc ea en ec) : Dr wB w.drew T X L off bs st k m u g l s t0 t1 ln xa xn xc ea en ec := ⟨h.os, h.tape, h.output, h.size, h.keep, h.rdr, h.ino⟩
theorem Dr.toBelow (h : Dr wB w T X L off bs st k m u g l s t0 t1 ln xa xn xc ea en ec) {B : Nat} {w0 : World} (hb : Below B w0 wB) (hB : B ≤ wB.heap.size) (hR : B ≤ T) (hX : B ≤ X) : Below B w0 w :=
  ⟨h.os.trans hb.os, h.tape.trans hb.tape, h.output.trans hb.output, Nat.le_trans hb.size h.size, fun j hj => (h.keep j (by omega) (by omega) (by omega)).trans (hb.block j hj)⟩
theorem text_dr (h : Dr wB w T X L off bs st k m u g l s t0 t1 ln xa xn xc ea en ec) (hs : Sr wB T X L bs) (c : Nat) (h1 : 1 ≤ c) (h2 : c ≤ 100) :
    Calls Try.prog 43 #[.pointer (some ⟨T, 0, none⟩), .int .i64 c] w fun e w' => e = .returned (.string (xS st c)) ∧ w.grownBy w' (some T) ∧ Dr wB w' T X L off bs (xT st c) k m u g l s t0 t1 ln xa xn xc ea en ec :=
  (rText h.rdr hs.len c h1 h2).mono fun e w' ⟨h1, h2, h3⟩ => ⟨h1, h3, h.toR hs h2 h3⟩
theorem int_dr (h : Dr wB w T X L off bs st k m u g l s t0 t1 ln xa xn xc ea en ec) (hs : Sr wB T X L bs) (hb : st.bytes) (c : Nat) (h1 : 1 ≤ c) (h2 : c ≤ 4) :
    Calls Try.prog 40 #[.pointer (some ⟨T, 0, none⟩), .int .i64 c] w fun e w' => e = .returned (.int .i64 (nS st c)) ∧ w.grownBy w' (some T) ∧ Dr wB w' T X L off bs (nT st c) k m u g l s t0 t1 ln xa xn xc ea en ec :=
  (rInt h.rdr hs.len hb c h1 h2).mono fun e w' ⟨h1, h2, h3⟩ => ⟨h1, h3, h.toR hs h2 h3⟩
theorem num_dr (h : Dr wB w T X L off bs st k m u g l s t0 t1 ln xa xn xc ea en ec) (hs : Sr wB T X L bs) :
    Calls Try.prog 42 #[.pointer (some ⟨T, 0, none⟩), .int .i64 8] w fun e w' => e = .returned (.int .u64 (nS st 8)) ∧ w.grownBy w' (some T) ∧ Dr wB w' T X L off bs (nT st 8) k m u g l s t0 t1 ln xa xn xc ea en ec :=
  (rNum h.rdr hs.len 8 (by decide) (by decide)).mono fun e w' ⟨h1, h2, h3⟩ => ⟨h1, h3, h.toR hs h2 h3⟩
theorem Dr.bad (h : Dr wB w T X L off bs st k m u g l s t0 t1 ln xa xn xc ea en ec) : w.cell? ⟨T, 2, none⟩ = some (.bool st.sp) := by
  obtain ⟨k, h1, _⟩ := h.rdr
  obtain ⟨ad, n, c, _, _, h2, _⟩ := rr_parts h1
  exact h2
end
/-- No right inode has the payload bs, if the reference refuses it. -/
theorem ref_none {bs : List Int} (h : (cX false bs ≤ 4 → cE false bs ≤ 40 → (sE false bs 0).sp = false → rightD (prs false bs) = true → payD (prs false bs) ≠ bs)) : ∀ D, rightD D = true → D.wide → D.bytes → payD D ≠ bs := fun D hD hw hb e => by
  obtain ⟨h1, h2, h3, h4, h5⟩ := prs_good hD hw hb false
  obtain ⟨_, h6, h7⟩ := bod_len hD
  have h8 := right_same h1
  have h9 := pay_same h1
  rw [e] at h1 h3 h4 h5 h8 h9
  exact h (by omega) (by omega) h5 (by rw [← h8]; exact hD) h9.symm
section
variable {wB w wE : World} {T X L Z off : Nat} {st : St} {k m u g l s : Int} {t0 t1 : Nat} {ln : ByteArray} {xa : Option Addr} {xn xc : Nat} {ea : Option Addr} {en ec : Nat} {bs : List Int}
theorem ref_below (HD : Dr wB wE T X L off bs st k m u g l s t0 t1 ln xa xn xc ea en ec) (HBW : Below Z w wB) (hZ : w.heap.size = Z) (h1 : Z < T) (h2 : Z < X) (h3 : Z < wB.heap.size) (cs : Array Value) : Below w.heap.size w (wE.setRow Z cs) := by
  rw [hZ]
  exact (HD.toBelow HBW (by omega) (by omega) (by omega)).grown grown_row (by have := HD.size; omega) (fun k hk => by simp only [Option.some.injEq] at hk; omega)
theorem ref_bad (HD : Dr wB wE T X L off bs st k m u g l s t0 t1 ln xa xn xc ea en ec) (HBW : Below Z w wB) (hZ : w.heap.size = Z) (h1 : Z < T) (h2 : Z < X) (h3 : Z < wB.heap.size) (ht : ∀ D, rightD D = true → D.wide → D.bytes → payD D ≠ bs) (cs : Array Value) : DecP bs w (.returned (.tuple #[zeroI, .int .i64 12])) (wE.setRow Z cs) :=
  ⟨ref_below HD HBW hZ h1 h2 h3 cs, Or.inr ⟨ht, rfl⟩⟩
theorem ref_good (HD : Dr wB wE T X L off bs st k m u g l s t0 t1 ln xa xn xc ea en ec) (HBW : Below Z w wB) (hZ : w.heap.size = Z) (h1 : Z < T) (h2 : Z < X) (h3 : Z < wB.heap.size) (hr : ∀ x ∈ bs, 0 ≤ x ∧ x < 256) (hR : rightD (prs false bs) = true) (hP : payD (prs false bs) = bs) {v : Value} (hM : InoM wE wB.heap.size v (prs false bs)) (cs : Array Value) : DecP bs w (.returned (.tuple #[v, .int .i64 0])) (wE.setRow Z cs) :=
  ⟨ref_below HD HBW hZ h1 h2 h3 cs, Or.inl ⟨prs false bs, v, rfl, (hM.grown grown_row (fun k hk => by simp only [Option.some.injEq] at hk; omega)).mono (by omega), hR, hP, prs_wide hr⟩⟩
end
theorem tT_ref (s : St) : tT false s = nT s 8 := by
  unfold tT
  simp
theorem tS_ref (s : St) : tS false s = (nS s 8).toNat := rfl
def tmR (bs : List Int) (j i : Nat) : Nat := if i < j then tV false bs i else 0
theorem tmR_next (bs : List Int) (j i : Nat) : tmR bs (j + 1) i = if i = j then tV false bs i else tmR bs j i := by
  unfold tmR
  by_cases e : i = j
  · rw [if_pos e, if_pos (by omega)]
  · rw [if_neg e]
    by_cases h : i < j
    · rw [if_pos h, if_pos (by omega)]
    · rw [if_neg h, if_neg (by omega)]
theorem time_ref {w : World} {X : Nat} {k m u g l s : Int} {bs : List Int} {j : Nat} {ln : ByteArray} {xa : Option Addr} {xn xc : Nat} {ea : Option Addr} {en ec : Nat} (h : InoAt w X k m u g l s (tmR bs j 0) (tmR bs j 1) ln xa xn xc ea en ec) (hj : j < 2) :
    (∃ v, w.cell? ⟨X, 6 + j, none⟩ = some v) ∧ w.frozen? ⟨X, 6 + j, none⟩ = false ∧ InoAt (w.setCell ⟨X, 6 + j, none⟩ (.float .f64 (tV false bs j))) X k m u g l s (tmR bs (j + 1) 0) (tmR bs (j + 1) 1) ln xa xn xc ea en ec := by
  rw [tmR_next, tmR_next]
  obtain ⟨_, _, _, _, _, _, c6, c7, _⟩ := h.cells
  match j, hj with
  | 0, _ => exact ⟨⟨_, c6⟩, frozen_of_row w X 6 _ _ h, heap_setCell_same w X 6 _ _ _ h⟩
  | 1, _ => exact ⟨⟨_, c7⟩, frozen_of_row w X 7 _ _ h, heap_setCell_same w X 7 _ _ _ h⟩
end Go.Proofs.Ytebnekpccdcnmaa
