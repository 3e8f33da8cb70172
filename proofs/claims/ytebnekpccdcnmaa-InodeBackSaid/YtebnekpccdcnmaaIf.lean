/- Walks of the layer inode: the writer. -/
import Derived.Test.YtebnekpccdcnmaaIe
namespace Go.Proofs.Ytebnekpccdcnmaa
set_option linter.unusedVariables false
set_option linter.unusedSimpArgs false
open Go.RowKit

/-- The bytes gathered so far: the call's own. -/
def Own (w0 w : World) (v : Value) (xs : List Int) : Prop :=
  (∃ a l c, v = .slice a l c) ∧ w.ownsRow w0.heap.size 5 1 v xs.length (xs.map (Value.int .u8)) ∧ Below w0.heap.size w0 w
theorem Own.nil {w0 w : World} (h : Below w0.heap.size w0 w) : Own w0 w (.slice none 0 0) [] := ⟨⟨none, 0, 0, rfl⟩, World.ownsRow_nil _ _ _ _, h⟩
theorem Own.below {w0 w w' : World} {v : Value} {xs : List Int} (h : Own w0 w v xs) (hb : Below w.heap.size w w') : Own w0 w' v xs := by
  obtain ⟨h1, h2, h3⟩ := h
  refine ⟨h1, h2.kept (w' := w') (row := none) ⟨hb.os, hb.tape, hb.output, hb.size, fun k hk _ => hb.block k hk⟩ ?_, h3.trans (hb.mono h3.size)⟩
  cases v.ownBlock <;> simp
theorem Own.bts {w0 w : World} {v : Value} {xs : List Int} (h : Own w0 w v xs) (hr : ∀ x ∈ xs, 0 ≤ x ∧ x < 256) : Bts w w0.heap.size v xs := Bts.of_own h.2.1 hr
/-- All that is no row of bytes, and not the block P, is as it was. -/
def Kept (P : Nat) (w w' : World) : Prop := ∀ k cs t fr, k ≠ P → t ≠ 5 → w.heap[k]? = some (.cells cs t fr) → w'.heap[k]? = some (.cells cs t fr)
theorem Kept.refl (P : Nat) (w : World) : Kept P w w := fun _ _ _ _ _ _ h => h
theorem Kept.trans {P : Nat} {a b c : World} (h1 : Kept P a b) (h2 : Kept P b c) : Kept P a c := fun k cs t fr hk ht h => h2 k cs t fr hk ht (h1 k cs t fr hk ht h)
theorem Kept.of_below {P : Nat} {w w' : World} (h : Below w.heap.size w w') : Kept P w w' := fun k cs t fr _ _ hh => by rw [h.block k (lt_of_block hh)]; exact hh
/-- The row's block is a row of bytes. -/
theorem own_type {w : World} {B : Nat} {v : Value} {n g : Nat} {xs : List Value} {cs : Array Value} {t : TypeId} {fr : Nat × Nat} (h : w.ownsRow B 5 1 v n xs) (ht : t ≠ 5) (hg : w.heap[g]? = some (.cells cs t fr)) : v.ownBlock ≠ some g := by
  rcases h.2 with ⟨rfl, _⟩ | ⟨g', cap, cur, rfl, _, hh, _⟩
  · intro e; cases e
  · intro e
    have e' : g' = g := by simpa [Value.ownBlock] using e
    subst e'
    rw [hh] at hg
    simp only [Option.some.injEq, Obj.cells.injEq] at hg
    exact ht hg.2.1.symm
theorem Own.append {w0 w : World} {v : Value} {xs ys : List Int} {L off n c : Nat} {ad : Addr} (h : Own w0 w v xs) (hy : BtsAt w L off (.slice (some ad) n c) ys) (hne : ys ≠ []) (hlen : xs.length + ys.length ≤ 20000) :
    ∃ v' w', (Builtin.append_ #[32, 32] 32 #[v, .slice (some ad) n c]).run Try.prog w = .ok v' w' ∧ Own w0 w' v' (xs ++ ys) ∧ ∀ P, Kept P w w' := by
  obtain ⟨i0, hi, hz0, hz1, hz2⟩ := info_parts Try.infoByte
  obtain ⟨_, h2, h3⟩ := h
  have hn : n = ys.length := hy.len.1
  have had : ad = ⟨L, off, none⟩ := by
    have := (hy.cells (by rw [hn]; exact List.length_pos_iff.2 hne)).1
    simpa using this
  have hpos : 0 < ys.length := List.length_pos_iff.2 hne
  obtain ⟨v', w', hr, ho, hg, _⟩ := run_append_own (P := Try.prog) w w0.heap.size 32 32 5 i0 (.int .u8 0) 1 1 Try.underlying32 hi hz0 hz1 hz2 rfl (by decide) v xs.length _ h2 ad n c (ys.map (Value.int .u8)) (by rw [List.length_map, hn, Nat.mul_one]) (by rw [had]; exact news_bts hy) (ints_oneCell _ _) (by unfold maxLen; omega) (by omega) h3.size
  rw [← List.map_append, hn, ← List.length_append] at ho
  obtain ⟨g, cap, hv', _⟩ := own_shape ho (by rw [List.length_append]; omega)
  refine ⟨v', w', hr, ⟨⟨_, _, _, hv'⟩, ho, h3.grown hg h3.size ?_⟩, ?_⟩
  · intro k hk
    exact (h2.lt k hk).1
  · intro P k cs t fr _ ht hh
    rw [hg.block k (lt_of_block hh) (fun e => own_type h2 ht hh e.symm)]
    exact hh
/-- A writer in the block P: what it has gathered. -/
structure Wr (w0 w : World) (P : Nat) (a : Option Addr) (l c : Nat) (xs : List Int) : Prop where
  own : Own w0 w (.slice a l c) xs
  at_ : w.heap[P]? = some (.cells #[.slice a l c] 52 (0, 0))
  low : w0.heap.size ≤ P
theorem Wr.below {w0 w w' : World} {P : Nat} {a : Option Addr} {l c : Nat} {xs : List Int} (h : Wr w0 w P a l c xs) (hb : Below w.heap.size w w') : Wr w0 w' P a l c xs :=
  ⟨h.own.below hb, by rw [hb.block P (lt_of_block h.at_)]; exact h.at_, h.low⟩
theorem Wr.new (w : World) : Wr w (w.alloc (.cells #[.slice none 0 0] 52)) w.heap.size none 0 0 [] :=
  ⟨Own.nil ((Below.refl _ _).alloc (Nat.le_refl _) _), heap_alloc_new w _, Nat.le_refl _⟩
theorem Own.set {w0 w : World} {P : Nat} {v u u' : Value} {xs : List Int} (h : Own w0 w v xs) (hp : w.heap[P]? = some (.cells #[u] 52 (0, 0))) (hl : w0.heap.size ≤ P) : Own w0 (w.setCell ⟨P, 0, none⟩ u') v xs :=
  ⟨h.1, ownsRow_setCell_other h.2.1 (own_type h.2.1 (by decide) hp) _, h.2.2.setCell hl _⟩
theorem Kept.set (P : Nat) (w : World) (u : Value) : Kept P w (w.setCell ⟨P, 0, none⟩ u) := fun k cs t fr hk _ hh => by rw [Below.heap_setCell _ _ _ _ hk]; exact hh
/-- What a step of the writer comes to. -/
def Wrote (w0 w : World) (P : Nat) (xs : List Int) (e : Ending) (w' : World) : Prop := e = .returned (.tuple #[]) ∧ ∃ a l c, Wr w0 w' P a l c xs ∧ Kept P w w'

/-- The walk's own part: the append, then the store. -/
theorem Wr.step {w0 w w2 : World} {P : Nat} {a : Option Addr} {l c : Nat} {xs ys : List Int} {g cc : Nat} (h : Wr w0 w P a l c xs) (hb : Below w.heap.size w w2)
    (ho : w2.ownsRow w.heap.size 5 1 (.slice (some ⟨g, 0, none⟩) ys.length cc) ys.length (ys.map (Value.int .u8))) (hr : ∀ x ∈ ys, 0 ≤ x ∧ x < 256) (hne : ys ≠ []) (hlen : xs.length + ys.length ≤ 20000) :
    ∃ a' l' c' w3, (Builtin.append_ #[32, 32] 32 #[.slice a l c, .slice (some ⟨g, 0, none⟩) ys.length cc]).run Try.prog w2 = .ok (.slice a' l' c') w3 ∧
      w2.cell? ⟨P, 0, none⟩ = some (.slice a l c) ∧ w3.cell? ⟨P, 0, none⟩ = some (.slice a l c) ∧ w3.frozen? ⟨P, 0, none⟩ = false ∧
      Wr w0 (w3.setCell ⟨P, 0, none⟩ (.slice a' l' c')) P a' l' c' (xs ++ ys) ∧ Kept P w (w3.setCell ⟨P, 0, none⟩ (.slice a' l' c')) := by
  have h2 := h.below hb
  obtain ⟨v3, w3, hrun, ho3, hk⟩ := h2.own.append (BtsAt.of_own ho hr).1 hne hlen
  obtain ⟨⟨a', l', c', rfl⟩, _⟩ := id ho3
  have hp3 := hk (P + 1) P _ _ _ (by omega) (by decide) h2.at_
  exact ⟨a', l', c', w3, hrun, cell_of_one h2.at_, cell_of_one hp3, free_of_one hp3, ⟨ho3.set hp3 h.low, one_setCell hp3, h.low⟩, ((Kept.of_below hb).trans (hk P)).trans (Kept.set P w3 _)⟩

theorem wnum_any (w0 w : World) (P : Nat) (a : Option Addr) (l c : Nat) (xs : List Int) (h : Wr w0 w P a l c xs) (v m : Nat) (hm1 : 1 ≤ m) (hm8 : m ≤ 8) (hv : Hid (m = 8 ∨ ((v : Int) / 2 ^ (8 * m) != 0) = false)) (hv64 : v < 18446744073709551616) (hlen : xs.length + m ≤ 20000) :
    Calls Try.prog 16 #[.pointer (some ⟨P, 0, none⟩), .int .u64 v, .int .i64 m] w (Wrote w0 w P (xs ++ beB v m)) := by
  have H := Lib.hid h
  have HL : Hid (xs.length + (beB v m).length ≤ 20000) := by show _ ≤ _; rw [beB_len]; exact hlen
  have HNE : Hid (beB v m ≠ []) := by intro e; have := beB_len v m; rw [e] at this; simp at this; omega
  have HN : Hid (∀ w, Calls Try.prog 44 #[.int .u64 v, .int .i64 m] w (OkMade Try.prog 5 w 0 (beB v m))) := fun w => number_loop v m w hm1 hm8 hv hv64
  clear h hv hv64 hlen hm1 hm8
  go_enter Try.func16, Try.ntmps16
  go_wp2_with (first
    | (go_at_call 44; refine (HN.out _).mono ?_; rintro e w2 ⟨s, rfl, ⟨g, cc, rfl⟩, ho, hb⟩; obtain ⟨a', l', c', w3, hrun, c0, c1, f1, hw, hk⟩ := H.out.step hb ho (beB_range _ _) HNE.out HL.out; have HRUN := Lib.hid hrun; have HW := Lib.hid hw; have HK := Lib.hid hk; clear hrun hw hk ho hb)
    | (at_builtin; refine wpList_append_run _ rfl _ _ _ _ rfl _ _ rfl rfl HRUN.out ?_))
  go_end0
  exact ⟨rfl, a', l', c', HW.out, HK.out⟩
theorem wtext_any (w0 w : World) (P : Nat) (a : Option Addr) (l c : Nat) (xs : List Int) (h : Wr w0 w P a l c xs) (s : ByteArray) (m : Nat) (hm : m ≤ 256) (hs : s.size + 1 ≤ m) (hlen : xs.length + m ≤ 20000) :
    Calls Try.prog 18 #[.pointer (some ⟨P, 0, none⟩), .string s, .int .i64 m] w (Wrote w0 w P (xs ++ textB s m)) := by
  have H := Lib.hid h
  have HL : Hid (xs.length + (textB s m).length ≤ 20000) := by show _ ≤ _; rw [textB_len s m hs]; exact hlen
  have HNE : Hid (textB s m ≠ []) := by intro e; have := textB_len s m hs; rw [e] at this; simp at this; omega
  have HRG : Hid (∀ x ∈ textB s m, 0 ≤ x ∧ x < 256) := textB_range s m (by omega)
  have HN : Hid (∀ w, Calls Try.prog 46 #[.string s, .int .i64 m] w (OkMade Try.prog 5 w 0 (textB s m))) := fun w => text_good s m w hm hs
  clear h hm hs hlen
  go_enter Try.func18, Try.ntmps18
  go_wp2_with (first
    | (go_at_call 46; refine (HN.out _).mono ?_; rintro e w2 ⟨s, rfl, ⟨g, cc, rfl⟩, ho, hb⟩; obtain ⟨a', l', c', w3, hrun, c0, c1, f1, hw, hk⟩ := H.out.step hb ho HRG.out HNE.out HL.out; have HRUN := Lib.hid hrun; have HW := Lib.hid hw; have HK := Lib.hid hk; clear hrun hw hk ho hb)
    | (at_builtin; refine wpList_append_run _ rfl _ _ _ _ rfl _ _ rfl rfl HRUN.out ?_))
  go_end0
  exact ⟨rfl, a', l', c', HW.out, HK.out⟩
end Go.Proofs.Ytebnekpccdcnmaa
