/- Walks of the layer wire: the reader: what it holds, Spoil, take, End. -/
import Derived.Test.YtebnekpccdcnmaaWb
namespace Go.Proofs.Ytebnekpccdcnmaa
set_option linter.unusedVariables false
set_option linter.unusedSimpArgs false
open Go.RowKit
set_option maxRecDepth 100000

/-- A reader in memory: at block R, with what is left (at block L from off on), and whether it is spoilt. -/
def Rdr (w : World) (R L off : Nat) (xs : List Int) (sp : Bool) : Prop :=
  ∃ a n c, w.heap[R]? = some (.cells #[.slice a n c, .bool sp] 90 (0, 0)) ∧ BtsAt w L off (.slice a n c) xs

theorem Rdr.sep {w : World} {R L off : Nat} {xs : List Int} {sp : Bool} (h : Rdr w R L off xs sp) (hne : xs ≠ []) : L ≠ R := by
  obtain ⟨a, n, c, hh, hb⟩ := h
  intro e
  subst e
  have hn : 0 < n := by rw [hb.len.1]; exact List.length_pos_iff.2 hne
  have hc := (hb.cells hn).2 0 hn
  rw [cell_of_row w L (off + 0) _ _ (0, 0) hh] at hc
  match off, hc with
  | 0, hc => simp at hc
  | 1, hc => simp at hc
  | k + 2, hc => simp at hc

theorem Rdr.lt {w : World} {R L off : Nat} {xs : List Int} {sp : Bool} (h : Rdr w R L off xs sp) : R < w.heap.size := by
  obtain ⟨a, n, c, hh, hb⟩ := h
  exact (Array.getElem?_eq_some_iff.1 hh).1

/-- A step that turns neither its block nor its bytes' keeps a reader. -/
theorem Rdr.grown {w w' : World} {R L off : Nat} {xs : List Int} {sp : Bool} {q : Option Nat} (h : Rdr w R L off xs sp) (hg : w.grownBy w' q) (h1 : some R ≠ q) (h2 : xs ≠ [] → some L ≠ q) : Rdr w' R L off xs sp := by
  have hl := h.lt
  obtain ⟨a, n, c, hh, hb⟩ := h
  exact ⟨a, n, c, by rw [hg.block R hl h1]; exact hh, hb.grown hg h2⟩

theorem Rdr.below {w w' : World} {R L off : Nat} {xs : List Int} {sp : Bool} (h : Rdr w R L off xs sp) (hb : Below w.heap.size w w') : Rdr w' R L off xs sp := by
  have hl := h.lt
  obtain ⟨a, n, c, hh, hx⟩ := h
  exact ⟨a, n, c, by rw [hb.block R hl]; exact hh, hx.below hb⟩

theorem grownBy_set (w : World) (b i : Nat) (v : Value) : w.grownBy (w.setCell ⟨b, i, none⟩ v) (some b) :=
  ⟨rfl, rfl, rfl, by simp [World.setCell], fun k _ hk => Below.heap_setCell _ _ _ _ (fun e => hk (by simp [e]))⟩

/-- A store of its second field. -/
theorem Rdr.spoil {w : World} {R L off : Nat} {xs : List Int} {sp : Bool} (h : Rdr w R L off xs sp) (t : Bool) : Rdr (w.setCell ⟨R, 1, none⟩ (.bool t)) R L off xs t := by
  have hs := h.sep
  obtain ⟨a, n, c, hh, hb⟩ := h
  refine ⟨a, n, c, ?_, hb.grown (grownBy_set w R 1 _) (fun hne e => hs hne (by simpa using e))⟩
  have := heap_setCell_same w R 1 _ _ (.bool t) hh
  exact this

/-- A store of its first field. -/
theorem Rdr.left {w : World} {R L off : Nat} {xs : List Int} {sp : Bool} (h : Rdr w R L off xs sp) {a : Option Addr} {n c off' : Nat} {ys : List Int} (hb : BtsAt w L off' (.slice a n c) ys) (hs : ys ≠ [] → L ≠ R) :
    Rdr (w.setCell ⟨R, 0, none⟩ (.slice a n c)) R L off' ys sp := by
  obtain ⟨a', n', c', hh, _⟩ := h
  refine ⟨a, n, c, ?_, hb.grown (grownBy_set w R 0 _) (fun hne e => hs hne (by simpa using e))⟩
  exact heap_setCell_same w R 0 _ _ (.slice a n c) hh

/-- (*wire.Reader).Spoil -/
theorem spoil_nil (w : World) : Calls Try.prog 34 #[.pointer none] w fun e w' => e = .returned (.tuple #[]) ∧ w = w' := by
  go_enter Try.func34, Try.ntmps34
  go_wp2
  go_end0
  exact ⟨rfl, rfl⟩

/-- What becomes of the world at a call on a reader at R: its block alone may have turned. -/
def OnRdr (w : World) (R L off : Nat) (xs : List Int) (sp : Bool) (r : Value) (e : Ending) (w' : World) : Prop :=
  e = .returned r ∧ Rdr w' R L off xs sp ∧ w.grownBy w' (some R) ∧ w'.heap.size = w.heap.size

theorem spoil_any (R L off : Nat) (xs : List Int) (sp : Bool) (w : World) (h : Rdr w R L off xs sp) : Calls Try.prog 34 #[.pointer (some ⟨R, 0, none⟩)] w (OnRdr w R L off xs true (.tuple #[])) := by
  have H := Lib.hid h
  obtain ⟨a, n, c, hh, hb⟩ := h
  have h1 : w.cell? ⟨R, 1, none⟩ = some (.bool sp) := cell_of_row w R 1 _ _ (0, 0) hh
  have f1 : w.frozen? ⟨R, 1, none⟩ = false := frozen_of_row w R 1 _ _ hh
  clear hh hb
  go_enter Try.func34, Try.ntmps34
  go_wp2
  go_end0
  exact ⟨rfl, H.out.spoil true, grownBy_set w R 1 _, by simp⟩

/-- (*wire.Reader).take -/
theorem take_nil (n : Int) (w : World) : Calls Try.prog 54 #[.pointer none, .int .i64 n] w fun e w' => e = .returned (.slice none 0 0) ∧ w = w' := by
  go_enter Try.func54, Try.ntmps54
  go_wp2
  go_ret
  exact ⟨rfl, rfl⟩

theorem take_bad (R L off : Nat) (xs : List Int) (sp : Bool) (n : Int) (w : World) (h : Rdr w R L off xs sp) (hx : sp = true ∨ n < 0 ∨ (xs.length : Int) < n) :
    Calls Try.prog 54 #[.pointer (some ⟨R, 0, none⟩), .int .i64 n] w (OnRdr w R L off xs true (.slice none 0 0)) := by
  have H := Lib.hid h
  obtain ⟨a, l, c, hh, hb⟩ := h
  have h0 : w.cell? ⟨R, 0, none⟩ = some (.slice a l c) := cell_of_row w R 0 _ _ (0, 0) hh
  have h1 : w.cell? ⟨R, 1, none⟩ = some (.bool sp) := cell_of_row w R 1 _ _ (0, 0) hh
  have f1 : w.frozen? ⟨R, 1, none⟩ = false := frozen_of_row w R 1 _ _ hh
  obtain ⟨hl, hlc, hc⟩ := hb.len
  rw [← hl] at hx
  clear hh hb hl
  cases sp
  · by_cases hn : n < 0
    · clear hx
      go_enter Try.func54, Try.ntmps54
      go_wp2
      go_ret
      exact ⟨rfl, H.out.spoil true, grownBy_set w R 1 _, by simp⟩
    · have hx' : (l : Int) < n := by rcases hx with h | h | h; cases h; omega; exact h
      clear hx
      go_enter Try.func54, Try.ntmps54
      go_wp2
      go_ret
      exact ⟨rfl, H.out.spoil true, grownBy_set w R 1 _, by simp⟩
  · clear hx
    go_enter Try.func54, Try.ntmps54
    go_wp2
    go_ret
    exact ⟨rfl, H.out.spoil true, grownBy_set w R 1 _, by simp⟩

/-- What take comes to where it can: the first k bytes, in the reader's own memory. -/
def Took (w : World) (R L off : Nat) (xs : List Int) (k : Nat) (e : Ending) (w' : World) : Prop :=
  ∃ a, OnRdr w R L (off + k) (xs.drop k) false (.slice a k k) e w' ∧ BtsAt w' L off (.slice a k k) (xs.take k)

theorem take_good (R L off : Nat) (xs : List Int) (k : Nat) (w : World) (h : Rdr w R L off xs false) (hk : k ≤ xs.length) :
    Calls Try.prog 54 #[.pointer (some ⟨R, 0, none⟩), .int .i64 k] w (Took w R L off xs k) := by
  have H := Lib.hid h
  have hsep := h.sep
  obtain ⟨a, l, c, hh, hb⟩ := h
  have h0 : w.cell? ⟨R, 0, none⟩ = some (.slice a l c) := cell_of_row w R 0 _ _ (0, 0) hh
  have h1 : w.cell? ⟨R, 1, none⟩ = some (.bool false) := cell_of_row w R 1 _ _ (0, 0) hh
  have f0 : w.frozen? ⟨R, 0, none⟩ = false := frozen_of_row w R 0 _ _ hh
  obtain ⟨hl, hlc, hc⟩ := hb.len
  rw [← hl] at hk
  have HB := Lib.hid hb
  have HS : Hid (xs.drop k ≠ [] → L ≠ R) := fun hne => hsep (by intro e; subst e; simp at hne)
  have HS2 : Hid (xs.take k ≠ [] → some L ≠ some R) := fun hne e => hsep (by intro e; subst e; simp at hne) (by simpa using e)
  clear hh hb hl hsep
  by_cases hck : c = k
  · have hlk : l = k := by omega
    subst hlk
    have H3 := Lib.hid (HB.out.take l (Nat.le_refl _) l (Nat.le_refl _) (by unfold maxLen; omega))
    have H4 := Lib.hid (HB.out.drop l (Nat.le_refl _) a (fun h => absurd h (Nat.lt_irrefl _)) 0 (by omega) (by unfold maxLen; omega))
    rw [Nat.sub_self] at H4
    go_enter Try.func54, Try.ntmps54
    go_wp2
    go_ret
    exact ⟨a, ⟨rfl, H.out.left H4.out HS.out, grownBy_set w R 0 _, by simp⟩, H3.out.grown (grownBy_set w R 0 _) HS2.out⟩
  · have H3 := Lib.hid (HB.out.take k hk k (Nat.le_refl _) (by unfold maxLen; omega))
    have H4 := Lib.hid (HB.out.drop k hk (a.map fun x => x.add k) (fun _ => rfl) (c - k) (by omega) (by unfold maxLen; omega))
    go_enter Try.func54, Try.ntmps54
    go_wp2
    go_ret
    exact ⟨a, ⟨rfl, H.out.left H4.out HS.out, grownBy_set w R 0 _, by simp⟩, H3.out.grown (grownBy_set w R 0 _) HS2.out⟩

/-- (*wire.Reader).End -/
theorem end_nil (w : World) : Calls Try.prog 38 #[.pointer none] w fun e w' => e = .returned (.int .i64 1) ∧ w = w' := by
  go_enter Try.func38, Try.ntmps38
  go_wp2
  go_ret
  exact ⟨rfl, rfl⟩

def endV (xs : List Int) (sp : Bool) : Int := if sp || !xs.isEmpty then 12 else 0

theorem end_any (R L off : Nat) (xs : List Int) (sp : Bool) (w : World) (h : Rdr w R L off xs sp) :
    Calls Try.prog 38 #[.pointer (some ⟨R, 0, none⟩)] w fun e w' => e = .returned (.int .i64 (endV xs sp)) ∧ w = w' := by
  obtain ⟨a, l, c, hh, hb⟩ := h
  have h0 : w.cell? ⟨R, 0, none⟩ = some (.slice a l c) := cell_of_row w R 0 _ _ (0, 0) hh
  have h1 : w.cell? ⟨R, 1, none⟩ = some (.bool sp) := cell_of_row w R 1 _ _ (0, 0) hh
  obtain ⟨hl, hlc, hc⟩ := hb.len
  clear hh hb
  cases sp
  · by_cases hx : l = 0
    · have HE : Hid (endV xs false = 0) := by
        have : xs = [] := List.eq_nil_of_length_eq_zero (by omega)
        subst this; rfl
      subst hx
      clear hl
      go_enter Try.func38, Try.ntmps38
      go_wp2
      go_ret
      exact ⟨by rw [HE.out]; rfl, rfl⟩
    · have HE : Hid (endV xs false = 12) := by
        have : xs ≠ [] := by intro e; subst e; simp at hl; omega
        cases xs with
        | nil => exact absurd rfl this
        | cons x xs => rfl
      have hpos : 0 < l := by omega
      clear hl hx
      go_enter Try.func38, Try.ntmps38
      go_wp2
      go_ret
      exact ⟨by rw [HE.out]; rfl, rfl⟩
  · clear hl
    go_enter Try.func38, Try.ntmps38
    go_wp2
    go_ret
    exact ⟨rfl, rfl⟩
end Go.Proofs.Ytebnekpccdcnmaa
