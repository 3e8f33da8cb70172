/- Walks of the reference's reader: Bytes, End. -/
import Derived.Test.YtebnekpccdcnmaaWe
import Derived.Deep.QuietTactic
import Derived.BigQuiet
import Derived.IntWalk
import Derived.Deep.RegionHeld3
import Derived.Deep.AppendLies
namespace Go.Proofs.Ytebnekpccdcnmaa
set_option linter.unusedVariables false
set_option linter.unusedSimpArgs false
open Go.RowKit
set_option maxRecDepth 100000

/-- The reference's reader in memory: at block T, over the bytes bs (at block L from off on), at of them read. -/
def RRdr (w : World) (T L off : Nat) (bs : List Int) (k : Nat) (bad : Bool) : Prop :=
  ∃ ad n c, w.heap[T]? = some (.cells #[.slice (some ad) n c, .int .i64 (k : Int), .bool bad] 78 (0, 0)) ∧ BtsAt w L off (.slice (some ad) n c) bs ∧ k ≤ bs.length

theorem RRdr.sep {w : World} {T L off k : Nat} {bs : List Int} {bad : Bool} (h : RRdr w T L off bs k bad) (hne : bs ≠ []) : L ≠ T := by
  obtain ⟨a, n, c, hh, hb, _⟩ := h
  intro e
  subst e
  have hn : 0 < n := by rw [hb.len.1]; exact List.length_pos_iff.2 hne
  have hc := (hb.cells hn).2 0 hn
  rw [cell_of_row w L (off + 0) _ _ (0, 0) hh] at hc
  match off, hc with
  | 0, hc => simp at hc
  | 1, hc => simp at hc
  | 2, hc => simp at hc
  | k + 3, hc => simp at hc

theorem RRdr.lt {w : World} {T L off k : Nat} {bs : List Int} {bad : Bool} (h : RRdr w T L off bs k bad) : T < w.heap.size := by
  obtain ⟨a, n, c, hh, hb, _⟩ := h
  exact (Array.getElem?_eq_some_iff.1 hh).1

theorem RRdr.grown {w w' : World} {T L off k : Nat} {bs : List Int} {bad : Bool} {q : Option Nat} (h : RRdr w T L off bs k bad) (hg : w.grownBy w' q) (h1 : some T ≠ q) (h2 : bs ≠ [] → some L ≠ q) : RRdr w' T L off bs k bad := by
  have hl := h.lt
  obtain ⟨a, n, c, hh, hb, hk⟩ := h
  exact ⟨a, n, c, by rw [hg.block T hl h1]; exact hh, hb.grown hg h2, hk⟩

theorem RRdr.setBad {w : World} {T L off k : Nat} {bs : List Int} {bad : Bool} (h : RRdr w T L off bs k bad) (t : Bool) : RRdr (w.setCell ⟨T, 2, none⟩ (.bool t)) T L off bs k t := by
  have hs := h.sep
  obtain ⟨a, n, c, hh, hb, hk⟩ := h
  exact ⟨a, n, c, heap_setCell_same w T 2 _ _ (.bool t) hh, hb.grown (grownBy_set w T 2 _) (fun hne e => hs hne (by simpa using e)), hk⟩
theorem RRdr.setAt {w : World} {T L off k : Nat} {bs : List Int} {bad : Bool} (h : RRdr w T L off bs k bad) (m : Nat) (hm : m ≤ bs.length) : RRdr (w.setCell ⟨T, 1, none⟩ (.int .i64 (m : Int))) T L off bs m bad := by
  have hs := h.sep
  obtain ⟨a, n, c, hh, hb, hk⟩ := h
  exact ⟨a, n, c, heap_setCell_same w T 1 _ _ (.int .i64 (m : Int)) hh, hb.grown (grownBy_set w T 1 _) (fun hne e => hs hne (by simpa using e)), hm⟩

/-- What becomes of the world at a call on the reference's reader: its block may have turned; new blocks may lie behind. -/
def OnRR (w : World) (T L off : Nat) (bs : List Int) (k : Nat) (bad : Bool) (r : Value) (e : Ending) (w' : World) : Prop :=
  e = .returned r ∧ RRdr w' T L off bs k bad ∧ w.grownBy w' (some T)

theorem grown_then {w w1 w2 : World} {q : Option Nat} (g1 : w.grownBy w1 q) (g2 : w1.grownBy w2 q) : w.grownBy w2 q :=
  ⟨g2.os.trans g1.os, g2.tape.trans g1.tape, g2.output.trans g1.output, Nat.le_trans g1.size g2.size, fun k hk hne => (g2.block k (Nat.lt_of_lt_of_le hk g1.size) hne).trans (g1.block k hk hne)⟩

/-- How far the reference has read behind n more. -/
def atR (bs : List Int) (k : Nat) (bad : Bool) (n : Int) : Nat := bs.length - (restT (bs.drop k) bad n).length

theorem atR_bad {bs : List Int} {k : Nat} {bad : Bool} {n : Int} (hk : k ≤ bs.length) (h : badT (bs.drop k) bad n = true) : atR bs k bad n = k := by
  unfold atR restT
  rw [h, if_pos rfl, List.length_drop]; omega
theorem atR_good {bs : List Int} {k m : Nat} {bad : Bool} (hk : k + m ≤ bs.length) (h : badT (bs.drop k) bad m = false) : atR bs k bad m = k + m := by
  unfold atR restT
  rw [h, if_neg (by simp), Int.toNat_natCast, List.length_drop, List.length_drop]; omega

def RTook (w : World) (T L off : Nat) (bs : List Int) (k : Nat) (bad : Bool) (n : Int) (e : Ending) (w' : World) : Prop :=
  ∃ a l c L', OnRR w T L off bs (atR bs k bad n) (badT (bs.drop k) bad n) (.slice a l c) e w' ∧ BtsAt w' L' 0 (.slice a l c) (gotT (bs.drop k) bad n) ∧ w.heap.size ≤ L' ∧ l ≤ c

theorem RRdr.drew {w : World} {T L off : Nat} {bs : List Int} {k : Nat} {bad : Bool} (h : RRdr w T L off bs k bad) (n : Nat) : RRdr (w.drewN n) T L off bs k bad := h
theorem grown_drew (w : World) (n : Nat) (q : Option Nat) : w.grownBy (w.drewN n) q := ⟨rfl, rfl, rfl, Nat.le_refl _, fun _ _ _ => rfl⟩
theorem row_grown {w w' : World} (h : Below w.heap.size w w') (q : Option Nat) : w.grownBy w' q := ⟨h.os, h.tape, h.output, h.size, fun k hk _ => h.block k hk⟩
theorem RRdr.lt' {w : World} {T L off : Nat} {bs : List Int} {k : Nat} {bad : Bool} (h : RRdr w T L off bs k bad) (hne : bs ≠ []) : L < w.heap.size := by
  obtain ⟨a, n, c, hh, hb, _⟩ := h
  exact hb.lt hne
theorem rr_parts {w : World} {T L off : Nat} {bs : List Int} {k : Nat} {bad : Bool} (h : RRdr w T L off bs k bad) :
    ∃ ad n c, w.cell? ⟨T, 0, none⟩ = some (.slice (some ad) n c) ∧ w.cell? ⟨T, 1, none⟩ = some (.int .i64 (k : Int)) ∧ w.cell? ⟨T, 2, none⟩ = some (.bool bad) ∧
      w.frozen? ⟨T, 1, none⟩ = false ∧ w.frozen? ⟨T, 2, none⟩ = false ∧ n = bs.length ∧ k ≤ n ∧ n ≤ c ∧ c ≤ 9223372036854775807 ∧ BtsAt w L off (.slice (some ad) n c) bs := by
  obtain ⟨ad, n, c, hh, hb, hk⟩ := h
  obtain ⟨h1, h2, h3⟩ := hb.len
  exact ⟨ad, n, c, cell_of_row w T 0 _ _ (0, 0) hh, cell_of_row w T 1 _ _ (0, 0) hh, cell_of_row w T 2 _ _ (0, 0) hh, frozen_of_row w T 1 _ _ hh, frozen_of_row w T 2 _ _ hh, h1, by omega, h2, h3, hb⟩
theorem rtook_bad {w w' : World} {T L off : Nat} {bs : List Int} {k : Nat} {bad : Bool} {n : Int} (hk : k ≤ bs.length) (hx : badT (bs.drop k) bad n = true) (h : RRdr w' T L off bs k true) (hg : w.grownBy w' (some T)) :
    RTook w T L off bs k bad n (.returned (.slice none 0 0)) w' := by
  refine ⟨none, 0, 0, w.heap.size, ⟨rfl, ?_, hg⟩, ?_, Nat.le_refl _, Nat.le_refl _⟩
  · rw [atR_bad hk hx, hx]; exact h
  · have : gotT (bs.drop k) bad n = [] := if_pos hx
    rw [this]; exact BtsAt.nil _ _ _

theorem refBytes_bad (T L off : Nat) (bs : List Int) (k : Nat) (bad : Bool) (n : Int) (w : World) (h : RRdr w T L off bs k bad) (hx : badT (bs.drop k) bad n = true) :
    Calls Try.prog 55 #[.pointer (some ⟨T, 0, none⟩), .int .i64 n] w (RTook w T L off bs k bad n) := by
  have H := Lib.hid h
  obtain ⟨ad, l, c, h0, h1, h2, f1, f2, hl, hkl, hlc, hc, hb⟩ := rr_parts h
  have HK : Hid (k ≤ bs.length) := by show k ≤ bs.length; omega
  have HX := Lib.hid hx
  rw [badT_iff, List.length_drop] at hx
  clear hb
  cases bad
  · by_cases hn : n < 0
    · have hd : decide (n < 0) = true := decide_eq_true hn
      clear hx hl
      go_enter Try.func55, Try.ntmps55
      go_wp2_with fail
      go_quiet (fail)
      go_wp2
      go_ret
      exact rtook_bad HK.out HX.out ((H.out.drew _).setBad true) (grown_then (grown_drew _ _ _) (grownBy_set _ T 2 _))
    · have hd : decide (n < 0) = false := decide_eq_false hn
      have hd2 : decide ((l : Int) - (k : Int) < n) = true := decide_eq_true (by rcases hx with h | h | h; cases h; omega; omega)
      clear hx hl hn
      go_enter Try.func55, Try.ntmps55
      go_wp2_with fail
      go_quiet (fail)
      go_wp2
      go_ret
      exact rtook_bad HK.out HX.out ((H.out.drew _).setBad true) (grown_then (grown_drew _ _ _) (grownBy_set _ T 2 _))
  · clear hx hl
    go_enter Try.func55, Try.ntmps55
    go_wp2_with fail
    go_quiet (fail)
    go_wp2
    go_ret
    exact rtook_bad HK.out HX.out ((H.out.drew _).setBad true) (grown_then (grown_drew _ _ _) (grownBy_set _ T 2 _))

/-- An append whose run is known, at a step of a region that draws its order. -/
theorem step_append_run {P : Program} {w : World} {ops : Array Oper} {o : Oper} {a : Act} {K : Act → World → Prop} {Q : Exit → Act → World → Prop} {E : Prop} (hgd : o.guard = none) (d s : Operand) (t t' : TypeId)
    (ho : o.op = .call { callee := .builtin .append, args := #[d, s], argTypes := #[t, t'] }) (v u : Value) (hd : a.eval d = v) (hs : a.eval s = u) {v' : Value} {w' : World}
    (hr : (Builtin.append_ #[t, t'] o.type #[v, u]).run P w = .ok v' w') (h : K (a.put o.dst v') w') :
    if Region.wanted o (yielded ops a.tmps) = true then Oper.wp P o a w K Q else E := by
  have hw : Region.wanted o (yielded ops a.tmps) = true := by simp [Region.wanted, hgd]
  rw [if_pos hw]
  unfold Oper.wp execOp
  simp only [ho, resolve, invoke, builtin, Sem.run_bind, Sem.run_pure, Result.andThen_ok, List.map_toArray, List.map_cons, List.map_nil, hd, hs, hr]
  exact h

theorem refBytes_good (T L off : Nat) (bs : List Int) (k m : Nat) (w : World) (h : RRdr w T L off bs k false) (hm : k + m ≤ bs.length) (hlen : m ≤ 140737488355328) :
    Calls Try.prog 55 #[.pointer (some ⟨T, 0, none⟩), .int .i64 m] w (RTook w T L off bs k false m) := by
  have H := Lib.hid h
  obtain ⟨ad, l, c, h0, h1, h2, f1, f2, hl, hkl, hlc, hc, hb⟩ := rr_parts h
  have HK : Hid (k ≤ bs.length) := by show k ≤ bs.length; omega
  have hd : decide ((m : Int) < 0) = false := decide_eq_false (by omega)
  have hd2 : decide ((l : Int) - (k : Int) < m) = false := decide_eq_false (by omega)
  have hs1 : k + m ≤ l := by omega
  clear hl hb
  go_enter Try.func55, Try.ntmps55
  go_wp2_with fail
  go_quiet (fail)
  go_wp2_with fail
  have HW0 := Lib.hid (((H.out.drew nq).setAt (k + m) hm))
  have HG0 : Hid (w.grownBy ((w.drewN nq).setCell ⟨T, 1, none⟩ (.int .i64 ((k + m : Nat) : Int))) (some T)) := grown_then (grown_drew _ _ _) (grownBy_set _ T 1 _)
  rw [show ((k : Int) + (m : Int)) = ((k + m : Nat) : Int) by simp]
  generalize ((w.drewN nq).setCell ⟨T, 1, none⟩ (.int .i64 ((k + m : Nat) : Int))) = W at HW0 HG0 ⊢
  clear h0 h1 h2 f1 f2 hd hd2 h H
  obtain ⟨ad', l', c', h0, h1, h2, f1, f2, hl, hkl', hlc', hc', hb⟩ := rr_parts HW0.out
  have hTlt := HW0.out.lt
  have HBF : Hid (badT (bs.drop k) false m = false) := by
    show badT _ _ _ = _
    rw [Bool.eq_false_iff]; intro hc; rw [badT_iff, List.length_drop] at hc; rcases hc with hc | hc | hc; cases hc; omega; omega
  have HGT : Hid (gotT (bs.drop k) false m = (bs.drop k).take m) := by
    show gotT _ _ _ = _
    unfold gotT; rw [HBF.out, if_neg (by simp), Int.toNat_natCast]
  have HAT : Hid (atR bs k false m = k + m) := atR_good hm HBF.out
  obtain ⟨j, hj⟩ : ∃ j, Hid (k + m = j) := ⟨_, rfl⟩
  rw [hj.out] at h1 hkl' ⊢
  have hx : IntKind.i64.wrap ((j : Int) - (m : Int)) = (k : Int) := by have := hj.out; rw [show (j : Int) - (m : Int) = (k : Int) by omega]; exact IntWalk.i64_in _ (by omega)
  have b0 : (0 : Int) ≤ (k : Int) := by omega
  have b1 : (k : Int) ≤ (j : Int) := by have := hj.out; omega
  have b2 : (j : Int) ≤ (l' : Int) := by omega
  have b3 : (j : Int) ≤ (c' : Int) := by omega
  have b4 : j - k = m := by have := hj.out; omega
  have HL := Lib.hid hl
  have hbd := hb
  have HB2 := Lib.hid ((hb.take (k + m) (by rw [hl]; exact hm) l' (by omega) (by unfold maxLen; omega)).drop k (by omega))
  rw [show k + m - k = m by omega, List.drop_take, show k + m - k = m by omega] at HB2
  have HB2r : ∀ x ∈ (bs.drop k).take m, 0 ≤ x ∧ x < 256 := fun x hx => hb.range x (List.mem_of_mem_drop (List.mem_of_mem_take hx))
  clear hl hb hbd
  have fin : ∀ (g cap : Nat) (w' : World), W.heap.size ≤ g → w'.ownsRow W.heap.size 5 1 (.slice (some ⟨g, 0, none⟩) m cap) m (((bs.drop k).take m).map (Value.int .u8)) → Below W.heap.size W w' →
      RTook w T L off bs k false m (.returned (.slice (some ⟨g, 0, none⟩) m cap)) w' := by
    intro g cap w' hg ho hbel
    have hbt := BtsAt.of_own ho (fun x hx => HB2r x hx)
    refine ⟨_, m, cap, g, ⟨rfl, ?_, ?_⟩, ?_, Nat.le_trans HG0.out.size hg, hbt.1.len.2.1⟩
    · rw [HAT.out, HBF.out]
      exact HW0.out.grown (row_grown hbel (some (W.heap.size))) (by simp; omega) (fun hne e => by have := HW0.out.lt' hne; simp at e; omega)
    · exact grown_then HG0.out (row_grown hbel _)
    · rw [HGT.out]; exact hbt.1
  have fin := Lib.hid fin
  by_cases hck : c' = k
  · have hm0 : m = 0 := by omega
    subst hm0
    obtain ⟨g, cap, w', hr, hg, ho, hbel⟩ := run_copied (W.drewN 1) L (off + k) ad' 0 0 ((bs.drop k).take 0) (HB2.out (some ad') (fun h => absurd h (Nat.lt_irrefl _)) 0 (by omega) (by unfold maxLen; omega)) hlen
    have HRUN : Hid ((Builtin.append_ #[32, 32] 32 #[.slice (some ⟨W.heap.size, 0, none⟩) 0 0, .slice (some ad') 0 0]).run Try.prog ((W.alloc (.cells #[] 5)).drew) = .ok (.slice (some ⟨g, 0, none⟩) 0 cap) w') := hr
    have k0 : w'.cell? ⟨T, 0, none⟩ = some (.slice (some ad') l' c') := (hbel.cell (p := ⟨T, 0, none⟩) hTlt).trans h0
    have k1 : w'.cell? ⟨T, 1, none⟩ = some (.int .i64 (j : Int)) := (hbel.cell (p := ⟨T, 1, none⟩) hTlt).trans h1
    have HO := Lib.hid ho
    have HBL : Hid (Below W.heap.size W w') := ⟨hbel.os, hbel.tape, hbel.output, hbel.size, hbel.block⟩
    have HG := Lib.hid hg
    have hjk : j = k := by have := hj.out; omega
    have hjl : l' = k := by omega
    subst hjk
    subst hck
    subst hjl
    have hx1 : IntKind.i64.wrap (l' : Int) = (l' : Int) := IntWalk.i64_in _ (by omega)
    clear hr ho hbel hg hx b1 b2 b3 b4 hkl' hlc' hlc
    go_region_held3 (fun w' => w'.cell? ⟨T, 0, none⟩ = some (.slice (some ad') l' l') ∧ w'.cell? ⟨T, 1, none⟩ = some (.int .i64 (l' : Int)))
      (first | go_keep | exact ⟨k0, k1⟩) (first | (refine step_append_run (by rfl) _ _ _ _ (by rfl) _ _ (by rfl) (by rfl) HRUN.out ?_))
    go_wp2
    go_ret
    exact fin.out _ _ _ HG.out HO.out HBL.out
  · obtain ⟨g, cap, w', hr, hg, ho, hbel⟩ := run_copied (W.drewN 1) L (off + k) (ad'.add k) m (c' - k) ((bs.drop k).take m) (HB2.out (some (ad'.add k)) (fun _ => rfl) (c' - k) (by omega) (by unfold maxLen; omega)) hlen
    have HRUN : Hid ((Builtin.append_ #[32, 32] 32 #[.slice (some ⟨W.heap.size, 0, none⟩) 0 0, .slice (some (ad'.add k)) m (c' - k)]).run Try.prog ((W.alloc (.cells #[] 5)).drew) = .ok (.slice (some ⟨g, 0, none⟩) m cap) w') := hr
    have k0 : w'.cell? ⟨T, 0, none⟩ = some (.slice (some ad') l' c') := (hbel.cell (p := ⟨T, 0, none⟩) hTlt).trans h0
    have k1 : w'.cell? ⟨T, 1, none⟩ = some (.int .i64 (j : Int)) := (hbel.cell (p := ⟨T, 1, none⟩) hTlt).trans h1
    have HO := Lib.hid ho
    have HBL : Hid (Below W.heap.size W w') := ⟨hbel.os, hbel.tape, hbel.output, hbel.size, hbel.block⟩
    have HG := Lib.hid hg
    clear hr ho hbel hg
    go_region_held3 (fun w' => w'.cell? ⟨T, 0, none⟩ = some (.slice (some ad') l' c') ∧ w'.cell? ⟨T, 1, none⟩ = some (.int .i64 (j : Int)))
      (first | go_keep | exact ⟨k0, k1⟩) (first | (refine step_append_run (by rfl) _ _ _ _ (by rfl) _ _ (by rfl) (by rfl) HRUN.out ?_))
    go_wp2
    go_ret
    exact fin.out _ _ _ HG.out HO.out HBL.out
end Go.Proofs.Ytebnekpccdcnmaa
