/- Walks of the layer wire: Text, on either side. -/
import Derived.Test.YtebnekpccdcnmaaWa
import Derived.Lib.ConvBytes
import Derived.Lib.BufferWrite
import Derived.Lib.SlBuf
namespace Go.Proofs.Ytebnekpccdcnmaa
set_option linter.unusedVariables false
set_option linter.unusedSimpArgs false
open Go.RowKit
set_option maxRecDepth 100000

/-- A text's bytes as numbers. -/
def strB (s : ByteArray) : List Int := s.data.toList.map fun b => (b.toNat : Int)
/-- A text in m bytes: its length, itself, noughts. -/
def textB (s : ByteArray) (m : Nat) : List Int := (s.size : Int) :: (strB s ++ List.replicate (m - 1 - s.size) 0)

theorem strB_len (s : ByteArray) : (strB s).length = s.size := by unfold strB; rw [List.length_map, ← Lib.size_eq]
theorem strB_range (s : ByteArray) : ∀ x ∈ strB s, 0 ≤ x ∧ x < 256 := by
  intro x hx
  simp only [strB, List.mem_map] at hx
  obtain ⟨b, _, rfl⟩ := hx
  have := b.toNat_lt
  omega
theorem textB_len (s : ByteArray) (m : Nat) (h : s.size + 1 ≤ m) : (textB s m).length = m := by
  simp [textB, strB_len]; omega
theorem textB_range (s : ByteArray) (m : Nat) (h : s.size < 256) : ∀ x ∈ textB s m, 0 ≤ x ∧ x < 256 := by
  intro x hx
  simp only [textB, List.mem_cons, List.mem_append, List.mem_replicate] at hx
  rcases hx with rfl | hx | ⟨_, rfl⟩
  · omega
  · exact strB_range s x hx
  · omega

theorem refText_bad (s : ByteArray) (n : Int) (w : World) (hs : (s.size : Int) ≤ 9223372036854775807) (h : n < 1 ∨ 256 < n ∨ n - 1 < (s.size : Int)) :
    Calls Try.prog 50 #[.string s, .int .i64 n] w fun e w' => e = .returned (.tuple #[.slice none 0 0, .int .i64 2]) ∧ w = w' := by
  by_cases h1 : n < 1
  · clear h
    go_enter Try.func50, Try.ntmps50
    go_wp2
    go_ret2
    exact ⟨rfl, rfl⟩
  · by_cases h2 : 256 < n
    · have g2 : decide (256 < n) = true := decide_eq_true h2
      clear h h2
      go_enter Try.func50, Try.ntmps50
      go_wp2
      go_ret2
      exact ⟨rfl, rfl⟩
    · have h3 : n - 1 < (s.size : Int) := by omega
      have g2 : decide (256 < n) = false := decide_eq_false h2
      clear h
      go_enter Try.func50, Try.ntmps50
      go_wp2
      go_ret2
      exact ⟨rfl, rfl⟩
theorem text_bad (s : ByteArray) (n : Int) (w : World) (hs : (s.size : Int) ≤ 9223372036854775807) (h : n < 1 ∨ 256 < n ∨ n - 1 < (s.size : Int)) :
    Calls Try.prog 46 #[.string s, .int .i64 n] w fun e w' => e = .returned (.tuple #[.slice none 0 0, .int .i64 2]) ∧ w = w' := by
  by_cases h1 : n < 1
  · clear h
    go_enter Try.func46, Try.ntmps46
    go_wp2
    go_ret2
    exact ⟨rfl, rfl⟩
  · by_cases h2 : 256 < n
    · have g2 : decide (256 < n) = true := decide_eq_true h2
      clear h h2
      go_enter Try.func46, Try.ntmps46
      go_wp2
      go_ret2
      exact ⟨rfl, rfl⟩
    · have h3 : n - 1 < (s.size : Int) := by omega
      have g2 : decide (256 < n) = false := decide_eq_false h2
      clear h
      go_enter Try.func46, Try.ntmps46
      go_wp2
      go_ret2
      exact ⟨rfl, rfl⟩

/-- copy(b[1:], s) into a row of the call's own. -/
theorem run_copy_own (w : World) (B g m : Nat) (E : TypeId) (xs : List Value) (s : ByteArray) (hown : w.ownsRow B E 1 (.slice (some ⟨g, 0, none⟩) m m) m xs) (hu : Try.prog.underlying 32 = some (.slice 5)) (h : s.size + 1 ≤ m) :
    ∃ w', (Builtin.copy_ #[32, 9] 3 #[.slice (some ⟨g, 1, none⟩) (m - 1) (m - 1), .string s]).run Try.prog w = .ok (goInt s.size) w' ∧
      w'.ownsRow B E 1 (.slice (some ⟨g, 0, none⟩) m m) m (xs.take 1 ++ (strB s).map (Value.int .u8) ++ xs.drop (1 + s.size)) ∧ w.grownBy w' (some g) := by
  obtain ⟨hl, h2⟩ := hown
  rcases h2 with ⟨h', _⟩ | ⟨g', cap, cur, h', hb, hh, hnc, hcm, hcs, htk⟩
  · cases h'
  · simp only [Value.slice.injEq, Option.some.injEq, Addr.mk.injEq, and_true, true_and] at h'
    obtain ⟨rfl, rfl⟩ := h'
    have hxs : cur.toList = xs := by rw [← htk, List.take_of_length_le (by rw [Array.length_toList, hcs]; exact Nat.le_refl _)]
    have hr := Lib.run_copy_row_string (P := Try.prog) w 32 9 3 5 g 1 (m - 1) (m - 1) s cur E hu (by kernel_rfl) hh (by omega) (by omega)
    refine ⟨_, hr, ⟨?_, .inr ⟨g, m, _, rfl, hb, setRow_heap w g cur _ E _ hh, Nat.le_refl _, hcm, ?_, ?_⟩⟩, ⟨rfl, rfl, rfl, by simp, fun k _ hk => setRow_other w g k _ (fun e => hk (by simp [e]))⟩⟩
    · simp [strB_len]; simp at hl; omega
    · rw [hxs]
      have e : (Lib.byteCells s.data.toList).length = s.size := by rw [Lib.byteCells_length]; rfl
      simp [e]; simp at hl; omega
    · rw [hxs]
      have e : Lib.byteCells s.data.toList = (strB s).map (Value.int .u8) := by simp [Lib.byteCells, strB]
      rw [e]
      show List.take (m * 1) (List.take 1 xs ++ (strB s).map (Value.int .u8) ++ List.drop (1 + s.size) xs) = _
      rw [List.take_of_length_le]
      simp [strB_len]; simp at hl; omega

theorem text_row (s : ByteArray) (m : Nat) (h : s.size + 1 ≤ m) :
    List.take 1 ((List.replicate m (0 : Int)).set 0 (s.size : Int)) ++ strB s ++ List.drop (1 + s.size) ((List.replicate m (0 : Int)).set 0 (s.size : Int)) = textB s m := by
  obtain ⟨n, rfl⟩ : ∃ n, m = n + 1 := ⟨m - 1, by omega⟩
  rw [List.replicate_succ, List.set_cons_zero]
  unfold textB
  rw [Nat.add_comm 1 s.size, List.drop_succ_cons, List.drop_replicate]
  simp

set_option maxHeartbeats 400000 in
/-- wire.Text -/
theorem text_good (s : ByteArray) (m : Nat) (w : World) (hm : m ≤ 256) (hs : s.size + 1 ≤ m) :
    Calls Try.prog 46 #[.string s, .int .i64 m] w (OkMade Try.prog 5 w 0 (textB s m)) := by
  obtain ⟨i0, hi, hz0, hz1, hz2⟩ := info_parts Try.infoByte
  have g1 : decide ((m : Int) < 1) = false := decide_eq_false (by omega)
  have g2 : decide ((256 : Int) < (m : Int)) = false := decide_eq_false (by omega)
  have g3 : decide ((m : Int) - 1 < (s.size : Int)) = false := decide_eq_false (by omega)
  have HR := Lib.hid (text_row s m hs)
  have HL := Lib.hid (textB_len s m hs)
  by_cases h1 : m = 1
  · have h0 : s.size = 0 := by omega
    subst h1
    have hcp : ∀ (d : Option Addr) (l c : Nat) (w : World), (Builtin.copy_ #[32, 9] 3 #[.slice d l c, .string s]).run Try.prog w = .ok (goInt 0) w := fun d l c w =>
      Lib.run_copy_empty_string w 32 9 3 5 d l c s Try.underlying32 (by kernel_rfl) h0
    have H0 := Lib.hid h0
    clear h0
    go_enter Try.func46, Try.ntmps46
    go_wp2_with (at_make; refine wpList_make_full _ rfl _ _ 32 rfl w.heap.size 5 i0 (.int .u8 0) 1 Try.underlying32 hi hz0 hz1 .i64 .i64 _ _ 1 rfl rfl rfl rfl (by rw [hz2]; omega) (by unfold maxLen; omega) (Nat.le_refl _) ?_; intro w1 hown hgrow; have hf := hown.frozenAt 0; obtain ⟨u, hu⟩ := own_some hown (show 0 < 1 by omega); have hst := Lib.hid (hown.stored 0 (.int .u8 (s.size : Int))); have hbl := Lib.hid ((Below.refl w.heap.size w).grown hgrow (Nat.le_refl _) (by simp)); clear g1 g2 g3)
    go_ret2
    have e : (madeCells (Value.int IntKind.u8 0).cells (1 * 1)).toList = List.replicate (1 * 1) (Value.int .u8 0) := toList_madeCells_one _ _
    have h2 := hst.out.1
    rw [e] at h2
    have h3 : textB s 1 = [(s.size : Int)] := by
      have : strB s = [] := List.eq_nil_of_length_eq_zero (by rw [strB_len]; exact H0.out)
      simp [textB, this]
    exact made_post (m := 1) (by rw [h3]; simpa using h2) HL.out (hbl.out.setCell (Nat.le_refl _) _)
  · have hm2 : 2 ≤ m := by omega
    go_enter Try.func46, Try.ntmps46
    go_wp2_with (at_make; refine wpList_make_full _ rfl _ _ 32 rfl w.heap.size 5 i0 (.int .u8 0) 1 Try.underlying32 hi hz0 hz1 .i64 .i64 _ _ m rfl rfl rfl rfl (by rw [hz2]; omega) (by unfold maxLen; omega) (Nat.le_refl _) ?_; intro w1 hown hgrow; have hf := hown.frozenAt 0; obtain ⟨u, hu⟩ := own_some hown (show 0 < m by omega); obtain ⟨w3, hcp, ho3, hg3⟩ := run_copy_own _ _ _ m _ _ s (hown.stored 0 (.int .u8 (s.size : Int))).1 Try.underlying32 hs; have hbl := Lib.hid ((((Below.refl w.heap.size w).grown hgrow (Nat.le_refl _) (by simp)).setCell (p := ⟨w.heap.size, 0, none⟩) (Nat.le_refl _) (.int .u8 (s.size : Int))).grown hg3 (by have := hgrow.size; simpa using this) (by simp)); have H3 := Lib.hid ho3; clear g1 g2 g3 ho3 hg3)
    go_ret2
    have e : (madeCells (Value.int IntKind.u8 0).cells (m * 1)).toList = (List.replicate m (0 : Int)).map (Value.int .u8) := by
      have : (madeCells (Value.int IntKind.u8 0).cells (m * 1)).toList = List.replicate (m * 1) (Value.int .u8 0) := toList_madeCells_one _ _
      rw [this]; simp
    have h2 := H3.out
    rw [e, ← List.map_set, ← List.map_take, ← List.map_drop, ← List.map_append, ← List.map_append, HR.out] at h2
    exact made_post h2 HL.out hbl.out

/-- []byte(s): new memory that reads as the text's bytes. -/
theorem run_bytes_own (w : World) (s : ByteArray) : ∃ w' c, (convert 9 32 (.string s)).run Try.prog w = .ok (.slice (some ⟨w.heap.size, 0, none⟩) s.size c) w' ∧
    Below w.heap.size w w' ∧ w'.heap.size = w.heap.size + 1 ∧ s.size ≤ c ∧ (s.size ≤ maxLen → c ≤ maxLen) ∧ ∀ j, j < s.size → w'.cell? ⟨w.heap.size, j, none⟩ = some (.int .u8 ((strB s).getD j 0)) := by
  refine ⟨Lib.bytesWorld w 5 s, _, Lib.run_convert_string_bytes w 9 32 5 s Try.underlying9 Try.underlying32 Try.underlying5, ?_, Lib.bytesWorld_size _ _ _, grownCap_ge _ _ _ _, fun h => grownCap_le_maxLen _ _ _ _ h, fun j hj => ?_⟩
  · refine ⟨rfl, rfl, rfl, by rw [Lib.bytesWorld_size]; omega, fun k hk => Lib.bytesWorld_at_old _ _ _ k hk⟩
  · rw [Lib.bytesWorld_cell w _ s j hj]
    unfold strB
    have : j < s.data.toList.length := by rw [← Lib.size_eq]; exact hj
    simp only [List.getD, List.getElem?_map, List.getElem?_eq_getElem this, Option.map_some, Option.getD_some]

theorem own_shape {w : World} {B : Nat} {E : TypeId} {v : Value} {n : Nat} {xs : List Value} (h : w.ownsRow B E 1 v n xs) (hn : 0 < n) : ∃ g cap, v = .slice (some ⟨g, 0, none⟩) n cap ∧ B ≤ g := by
  obtain ⟨_, h2⟩ := h
  rcases h2 with ⟨_, h0⟩ | ⟨g, cap, cur, hv, hg, _⟩
  · omega
  · exact ⟨g, cap, hv, hg⟩

theorem made_postv {P : Program} {E : TypeId} {w wr : World} {g m c : Nat} {xs : List Int} {r : Int} (h : wr.ownsRow w.heap.size E 1 (.slice (some ⟨g, 0, none⟩) m c) m (xs.map (Value.int .u8))) (hl : xs.length = m) (hb : Below w.heap.size w wr) :
    OkMade P E w r xs (.returned (.tuple #[.slice (some ⟨g, 0, none⟩) m c, .int .i64 r])) wr := by
  subst hl
  exact ⟨_, rfl, ⟨_, c, rfl⟩, h, hb⟩

def lenOf : Value → Nat | .slice _ n _ => n | _ => 0

theorem news_str (w' : World) (g : Nat) (s : ByteArray) (hc : ∀ j, j < s.size → w'.cell? ⟨g, j, none⟩ = some (.int .u8 ((strB s).getD j 0))) :
    ∀ j u, ((strB s).map (Value.int .u8))[j]? = some u → w'.cell? ((⟨g, 0, none⟩ : Addr).add j) = some u := by
  intro j u hj
  have hl : j < (strB s).length := by
    rcases Nat.lt_or_ge j (strB s).length with h | h
    · exact h
    · simp [List.getElem?_eq_none (show ((strB s).map (Value.int .u8)).length ≤ j by simpa using h)] at hj
  have e : (⟨g, 0, none⟩ : Addr).add j = ⟨g, j, none⟩ := by unfold Addr.add; by_cases h : j = 0 <;> simp [h]
  rw [e, hc j (by rw [← strB_len s]; exact hl)]
  simp [hl] at hj
  simp [List.getD, hl, hj]

theorem textB_take1 (s : ByteArray) (m : Nat) : (textB s m).take 1 = [(s.size : Int)] := by simp [textB]
theorem textB_takeS (s : ByteArray) (m : Nat) : (textB s m).take (1 + s.size) = [(s.size : Int)] ++ strB s := by
  unfold textB
  rw [Nat.add_comm, List.take_succ_cons, List.take_append_of_le_length (by rw [strB_len]; exact Nat.le_refl _), List.take_of_length_le (by rw [strB_len]; exact Nat.le_refl _)]
  rfl
theorem textB_more (s : ByteArray) (m k : Nat) (h : s.size + 1 ≤ k) (hk : k < m) : (textB s m).take (k + 1) = (textB s m).take k ++ [0] := by
  have hl := textB_len s m (by omega)
  rw [List.take_succ_eq_append_getElem (by omega)]
  congr 2
  unfold textB
  obtain ⟨k', rfl⟩ : ∃ k', k = k' + 1 := ⟨k - 1, by omega⟩
  rw [List.getElem_cons_succ, List.getElem_append_right (by rw [strB_len]; omega), List.getElem_replicate]

set_option maxHeartbeats 800000 in
/-- cloisterref04.Text -/
theorem refText_good (s : ByteArray) (m : Nat) (w : World) (hm : m ≤ 256) (hs : s.size + 1 ≤ m) :
    Calls Try.prog 50 #[.string s, .int .i64 m] w (OkMade Try.prog 5 w 0 (textB s m)) := by
  obtain ⟨i0, hi, hz0, hz1, hz2⟩ := info_parts Try.infoByte
  have g1 : decide ((m : Int) < 1) = false := decide_eq_false (by omega)
  have g2 : decide ((256 : Int) < (m : Int)) = false := decide_eq_false (by omega)
  have g3 : decide ((m : Int) - 1 < (s.size : Int)) = false := decide_eq_false (by omega)
  have HL := Lib.hid (textB_len s m hs)
  obtain ⟨w2, c2, hcv, hb2, hz2', hc2, hc3, hcell⟩ := run_bytes_own (w.alloc (.cells #[.int .u8 (s.size : Int)] 5)) s
  have e1 : (w.alloc (.cells #[.int .u8 (s.size : Int)] 5)).heap.size = w.heap.size + 1 := by simp
  rw [e1] at hcv hb2 hz2' hcell
  have hown1 : w2.ownsRow w.heap.size 5 1 (.slice (some ⟨w.heap.size, 0, none⟩) 1 1) 1 (((textB s m).take 1).map (Value.int .u8)) := by
    have h0 := World.ownsRow_lit (base := w.heap.size) (e := 5) (size := 1) w #[.int .u8 (s.size : Int)] 1 (Nat.le_refl _) (by decide) rfl
    rw [textB_take1]
    refine h0.kept (w' := w2) (row := none) ⟨hb2.os, hb2.tape, hb2.output, hb2.size, fun k hk _ => hb2.block k (by rw [e1] at hk; exact hk)⟩ (Or.inr (by simp [Value.ownBlock]))
  have hbel2 : Below w.heap.size w w2 := ((Below.refl w.heap.size w).alloc (Nat.le_refl _) _).trans (hb2.mono (by omega))
  have hnews := news_str w2 (w.heap.size + 1) s hcell
  have H1 := Lib.hid hown1
  have H2 := Lib.hid hbel2
  have H3 := Lib.hid hnews
  have hsz : w.heap.size ≤ w2.heap.size := hbel2.size
  clear hb2 hcell hown1 hbel2 hnews hc2 hc3 e1 hz2'
  go_enter Try.func50, Try.ntmps50
  go_wp2_with (at_builtin; refine wpList_append_own _ rfl _ _ 32 rfl w.heap.size 5 i0 (.int .u8 0) 1 1 Try.underlying32 hi hz0 hz1 hz2 rfl (by decide) _ _ _ rfl H1.out ⟨w.heap.size + 1, 0, none⟩ s.size c2 ((strB s).map (Value.int .u8)) rfl (by rw [List.length_map, strB_len, Nat.mul_one]) H3.out (ints_oneCell _ _) (by unfold maxLen; omega) (by omega) hsz ?_; intro v3 w3 hown3 hgrow3 hnil3)
  have hv3 : ∃ g c, v3 = .slice (some ⟨g, 0, none⟩) (1 + s.size) c ∧ w.heap.size ≤ g := own_shape hown3 (by omega)
  obtain ⟨g3', c3, hv3, hg3⟩ := hv3
  have hown3' : w3.ownsRow w.heap.size 5 1 v3 (1 + s.size) (((textB s m).take (1 + s.size)).map (Value.int .u8)) := by
    rw [textB_takeS, List.map_append, ← textB_take1 s m]; exact hown3
  have hgrow3' : w2.grownBy w3 (some w.heap.size) := hgrow3
  have hbel3 : Below w.heap.size w w3 := H2.out.grown hgrow3' hsz (by intro k hk; simp at hk; omega)
  rw [hv3] at hown3'
  rw [hv3]
  have HO := Lib.hid hown3'
  have HB := Lib.hid hbel3
  clear hown3 hgrow3 hgrow3' hnil3 hown3' hbel3 hv3 H1 H2 H3 hcv hsz g1 g2 g3 hg3
  go_loopw [6] (fun v wr => ∃ k g c : Nat, v = .slice (some ⟨g, 0, none⟩) k c ∧ s.size + 1 ≤ k ∧ k ≤ m ∧ Hid (wr.ownsRow w.heap.size 5 1 (.slice (some ⟨g, 0, none⟩) k c) k (((textB s m).take k).map (Value.int .u8))) ∧ Hid (Below w.heap.size w wr)) (fun v _ => m - lenOf v)
  case atStart => exact ⟨1 + s.size, g3', c3, rfl, by omega, by omega, HO.out, HB.out⟩
  case round =>
    obtain ⟨k, g, c, rfl, hk1, hk2, ho, hb⟩ := hrel
    by_cases hlt : k < m
    · have hsz := hb.out.size
      go_wp2_with (at_builtin; refine wpList_append_own _ rfl _ _ 32 rfl w.heap.size 5 i0 (.int .u8 0) 1 1 Try.underlying32 hi hz0 hz1 hz2 rfl (by decide) _ _ _ rfl (ho.out.alloc _) ⟨wr.heap.size, 0, none⟩ 1 1 [.int .u8 0] rfl rfl ?c1 ?c2 ?c3 ?c4 ?c5 ?_)
      case c1 =>
        intro j u hj
        match j, hj with
        | 0, hj => simp at hj; subst hj; simp [Addr.add]
      case c2 => intro u hu; simp at hu; subst hu; rfl
      case c3 => unfold maxLen; omega
      case c4 => omega
      case c5 => simp; omega
      intro v4 w4 hown4 hgrow4 _
      obtain ⟨g4, c4, hv4, hg4⟩ := own_shape hown4 (by omega)
      have hown5 : w4.ownsRow w.heap.size 5 1 v4 (k + 1) (((textB s m).take (k + 1)).map (Value.int .u8)) := by
        rw [textB_more s m k hk1 hlt, List.map_append, List.map_take]; exact hown4
      have hbel4 : Below w.heap.size w w4 := by
        refine (hb.out.alloc hsz _).grown hgrow4 (by simp; omega) ?_
        intro q hq
        simp [Value.ownBlock] at hq
        subst hq
        exact (ho.out.lt g rfl).1
      rw [hv4] at hown5
      rw [hv4]
      have HO4 := Lib.hid hown5
      have HB4 := Lib.hid hbel4
      clear hown4 hgrow4 hown5 hbel4 hv4 ho hb hsz
      go_wp2
      go_roundw
      case rel => exact ⟨k + 1, g4, c4, rfl, by omega, by omega, HO4.out, HB4.out⟩
      case measure => simp [lenOf]; omega
    · have hkm : k = m := by omega
      have H := Lib.hid ho.out
      rw [hkm, List.take_of_length_le (by rw [HL.out]; exact Nat.le_refl _)] at H
      clear ho
      subst hkm
      go_wp2
      go_ret2
      exact made_postv H.out HL.out hb.out
end Go.Proofs.Ytebnekpccdcnmaa
