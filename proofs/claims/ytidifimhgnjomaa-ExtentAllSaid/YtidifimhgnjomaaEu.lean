/- Walks of the layer extent: runs. -/
import Derived.Test.YtidifimhgnjomaaEt
import Derived.Laws.OwnMore
import Derived.OwnWalk
import Derived.IntWalk
namespace Go.Proofs.Ytidifimhgnjomaa
set_option linter.unusedVariables false
set_option linter.unusedSimpArgs false
open Go.RowKit

theorem infoExt : (Try.prog.info? 54).map (fun i => (i.zero, i.size, i.bytes)) = some (some (.agg #[.int .i64 0, .int .i64 0, .int .i64 0]), 3, 24) := by kernel_rfl

/-- The cells of a list of extents. -/
def cells3 : List Ext → List Value
  | [] => []
  | x :: xs => .int .i64 x.f :: .int .i64 x.h :: .int .i64 x.n :: cells3 xs
theorem cells3_len (xs : List Ext) : (cells3 xs).length = xs.length * 3 := by
  induction xs with
  | nil => rfl
  | cons x xs ih => simp [cells3, ih]; omega
theorem cells3_app (xs ys : List Ext) : cells3 (xs ++ ys) = cells3 xs ++ cells3 ys := by
  induction xs with
  | nil => rfl
  | cons x xs ih => simp [cells3, ih]
theorem cells3_at (xs : List Ext) : ∀ i, i < xs.length → (cells3 xs)[i * 3]? = some (.int .i64 (eF xs i)) ∧ (cells3 xs)[i * 3 + 1]? = some (.int .i64 (eH xs i)) ∧ (cells3 xs)[i * 3 + 2]? = some (.int .i64 (eN xs i)) := by
  induction xs with
  | nil => intro i hi; simp at hi
  | cons x xs ih =>
    intro i hi
    cases i with
    | zero => exact ⟨rfl, rfl, rfl⟩
    | succ i =>
      have := ih i (by simpa using hi)
      rw [show (i + 1) * 3 = i * 3 + 1 + 1 + 1 by omega]
      simpa [cells3, eF, eH, eN] using this
theorem cells3_bump (xs : List Ext) (m : Nat) (h : xs.length = m + 1) : cells3 (bump xs) = (cells3 xs).set (m * 3 + 2) (.int .i64 (eN xs m + 1)) := by
  obtain ⟨ys, y, rfl⟩ : ∃ ys y, xs = ys ++ [y] := by
    refine ⟨xs.dropLast, xs.getLast (by intro e; simp [e] at h), (List.dropLast_concat_getLast _).symm⟩
  have hl : ys.length = m := by simpa using h
  have e1 : bump (ys ++ [y]) = ys ++ [⟨y.f, y.h, y.n + 1⟩] := by
    unfold bump
    rw [List.length_append, List.length_singleton, Nat.add_sub_cancel]
    apply List.ext_getElem?
    intro i
    rw [List.getElem?_modify]
    rcases Nat.lt_trichotomy i ys.length with hlt | heq | hlt
    · rw [List.getElem?_append_left hlt, List.getElem?_append_left hlt]
      have e : ¬ ys.length = i := by omega
      simp [e]
    · subst heq; simp
    · rw [List.getElem?_eq_none (by simp; omega), List.getElem?_eq_none (by simp; omega)]; rfl
  have e2 : eN (ys ++ [y]) m = y.n := by rw [← hl]; exact (app_eq ys y).2.2
  rw [e1, e2, cells3_app, cells3_app]
  rw [List.set_append_right _ _ (by rw [cells3_len, hl]; omega)]
  rw [cells3_len, hl, show m * 3 + 2 - m * 3 = 2 by omega]
  rfl

/-- A slice that holds the extents xs. -/
def ExL (w : World) (v : Value) (xs : List Ext) : Prop := ∃ a c L, v = .slice a xs.length c ∧ ExAt w L 0 a xs.length c (eF xs) (eH xs) (eN xs) ∧ (0 < xs.length → ∃ cur, w.heap[L]? = some (.cells cur 54 (0, 0)))
theorem ExL.below {w w' : World} {v : Value} {xs : List Ext} (h : ExL w v xs) (hb : Below w.heap.size w w') : ExL w' v xs := by
  obtain ⟨a, c, L, h1, h2, h3⟩ := h
  exact ⟨a, c, L, h1, h2.below hb, fun hn => by
    obtain ⟨cur, hc⟩ := h3 hn
    exact ⟨cur, by rw [hb.block L (h2.lt hn)]; exact hc⟩⟩
theorem ExAt.grown {w w' : World} {L off n c : Nat} {a : Option Addr} {F H N : Nat → Int} {q : Option Nat} (h : ExAt w L off a n c F H N) (hg : w.grownBy w' q) (hne : 0 < n → some L ≠ q) : ExAt w' L off a n c F H N :=
  ⟨h.1, h.2.1, fun hn => ⟨(h.2.2 hn).1, fun i hi => by
    obtain ⟨h1, h2, h3⟩ := (h.2.2 hn).2 i hi
    exact ⟨hg.cell h1 (hne hn), hg.cell h2 (hne hn), hg.cell h3 (hne hn)⟩⟩⟩
/-- A block of another element type may turn. -/
theorem ExL.grown {w w' : World} {v : Value} {xs : List Ext} {B : Nat} {cs : Array Value} {t : TypeId} (h : ExL w v xs) (hg : w.grownBy w' (some B)) (hB : w.heap[B]? = some (.cells cs t (0, 0))) (ht : t ≠ 54) : ExL w' v xs := by
  obtain ⟨a, c, L, h1, h2, h3⟩ := h
  have hne : 0 < xs.length → some L ≠ some B := fun hn e => by
    injection e with e
    obtain ⟨cur, hc⟩ := h3 hn
    rw [e, hB] at hc
    injection hc with hc
    injection hc with _ hc
    exact ht hc
  exact ⟨a, c, L, h1, h2.grown hg hne, fun hn => by
    obtain ⟨cur, hc⟩ := h3 hn
    exact ⟨cur, by rw [hg.block L (h2.lt hn) (hne hn)]; exact hc⟩⟩
theorem own_exl {w : World} {base : Nat} {v : Value} {xs : List Ext} (h : w.ownsRow base 54 3 v xs.length (cells3 xs)) : ExL w v xs := by
  rcases h.2 with ⟨rfl, h0⟩ | ⟨g, cap, cur, rfl, hb, hg, hnc, hcm, hcs, htake⟩
  · exact ⟨none, 0, 0, by rw [h0], ⟨by omega, by omega, fun hn => by omega⟩, fun hn => by omega⟩
  · refine ⟨_, cap, g, rfl, ⟨hnc, by unfold maxLen at hcm; omega, fun hn => ⟨rfl, fun i hi => ?_⟩⟩, fun _ => ⟨cur, hg⟩⟩
    obtain ⟨h1, h2, h3⟩ := cells3_at xs i hi
    have hc := fun j (hj : j < xs.length * 3) => h.cellAt (g := g) (cap := cap) j hj
    rw [Nat.zero_add, hc (i * 3) (by omega), hc (i * 3 + 1) (by omega), hc (i * 3 + 2) (by omega)]
    exact ⟨h1, h2, h3⟩

/-- An array's cell, the array by value. -/
theorem run_index_homes (w : World) (cs : Array Value) (i : Nat) (v : Value) (hi : i < 40) (hv : cs[i]? = some v) :
    (Instr.index 49 (.agg cs) (.int .i64 (i : Int))).run Try.prog w = .ok v w := by
  have hn : (0 : Int) ≤ (i : Int) ∧ (i : Int) < ((40 : Nat) : Int) := by omega
  have e := Try.underlying49
  unfold Instr.index
  simp [run_underlying e, asIntOf, hn, go_sem, hv]
  intro h; omega

theorem addAt (b j : Nat) : (⟨b, 0, none⟩ : Addr).add j = ⟨b, j, none⟩ := by unfold Addr.add; split <;> simp_all
theorem BInv.bd {g : Nat → Int} {b : Nat} {xs : List Ext} (hI : BInv g b xs) (h1 : ∀ s, g s ≤ 256) {i : Nat} (hi : i < xs.length) : eH xs i + eN xs i ≤ 256 := by
  have ho := hI.one i hi
  obtain ⟨t, ht⟩ := Int.eq_ofNat_of_zero_le (show 0 ≤ eF xs i + eN xs i - 1 by omega)
  have h2 := hI.home i hi t (by omega) (by omega)
  have h3 := h1 t
  omega
/-- What runs answers. -/
def Listed (w : World) (xs : List Ext) (e : Ending) (w' : World) : Prop := ∃ v, e = .returned v ∧ ExL w' v xs ∧ Below w.heap.size w w'

/-- Where the loop stands. -/
structure RunsAt (w : World) (g : Nat → Int) (b : Nat) (a : Option Addr) (n c : Nat) (wr : World) : Prop where
  len : n = (bld g b).length
  own : wr.ownsRow w.heap.size 54 3 (.slice a n c) n (cells3 (bld g b))
  bel : Below w.heap.size w wr
theorem RunsAt.drewN {w : World} {g : Nat → Int} {b : Nat} {a : Option Addr} {n c : Nat} {wr : World} (h : RunsAt w g b a n c wr) (k : Nat) : RunsAt w g b a n c (wr.drewN k) := ⟨h.len, h.own, below_drewN h.bel k⟩
theorem bld_skip {g : Nat → Int} {b : Nat} (h : g b = 0) : bld g (b + 1) = bld g b := by rw [bld, if_pos h]
theorem bld_bump {g : Nat → Int} {b : Nat} (h : g b ≠ 0) (hj : joins g b = true) : bld g (b + 1) = bump (bld g b) := by rw [bld, if_neg h, if_pos hj]
theorem bld_app {g : Nat → Int} {b : Nat} (h : g b ≠ 0) (hj : joins g b = false) : bld g (b + 1) = bld g b ++ [⟨b, g b - 1, 1⟩] := by rw [bld, if_neg h, if_neg (by rw [hj]; simp)]
theorem RunsAt.skip {w : World} {g : Nat → Int} {b : Nat} {a : Option Addr} {n c : Nat} {wr : World} (h : RunsAt w g b a n c wr) (h0 : g b = 0) : RunsAt w g (b + 1) a n c wr := by
  have e := bld_skip h0
  exact ⟨by rw [e]; exact h.len, by rw [e]; exact h.own, h.bel⟩
theorem RunsAt.bump {w : World} {g : Nat → Int} {b : Nat} {G m c : Nat} {wr : World} (h : RunsAt w g b (some ⟨G, 0, none⟩) (m + 1) c wr) (h0 : g b ≠ 0) (hj : joins g b = true) (x : Int) (hx : x = eN (bld g b) m + 1) :
    RunsAt w g (b + 1) (some ⟨G, 0, none⟩) (m + 1) c (wr.setCell ⟨G, m * 3 + 2, none⟩ (.int .i64 x)) := by
  have e := bld_bump h0 hj
  have hl := h.len
  subst hx
  refine ⟨by rw [e, bump_len]; exact hl, ?_, h.bel.setCell (by exact (h.own.lt G rfl).1) _⟩
  rw [e, cells3_bump _ m hl.symm]
  exact (h.own.stored _ _).1
theorem RunsAt.app {w : World} {g : Nat → Int} {b : Nat} {a : Option Addr} {n c : Nat} {wr : World} (h : RunsAt w g b a n c wr) (h0 : g b ≠ 0) (hj : joins g b = false) {W w' : World} {v' : Value}
    (hw : Below wr.heap.size wr W)
    (ho : w'.ownsRow w.heap.size 54 3 v' (n + 1) (cells3 (bld g b) ++ [.int .i64 b, .int .i64 (g b - 1), .int .i64 1])) (hg : W.grownBy w' (Value.slice a n c).ownBlock) :
    ∃ a' c', v' = .slice a' (n + 1) c' ∧ RunsAt w g (b + 1) a' (n + 1) c' w' := by
  have e := bld_app h0 hj
  have hb : Below w.heap.size w w' := (h.bel.trans (hw.mono h.bel.size)).grown hg (Nat.le_trans h.bel.size hw.size) (fun k hk => (h.own.lt k hk).1)
  have hc : cells3 (bld g (b + 1)) = cells3 (bld g b) ++ [.int .i64 b, .int .i64 (g b - 1), .int .i64 1] := by rw [e, cells3_app]; rfl
  obtain ⟨G, cap, hv, _⟩ := ho.form (Nat.succ_pos n)
  subst hv
  exact ⟨_, cap, rfl, by rw [e]; simp [h.len], by rw [hc]; exact ho, hb⟩

theorem news3 (W : World) (t : TypeId) (x y z : Value) : ∀ j u, [x, y, z][j]? = some u → (W.alloc (.cells #[x, y, z] t)).cell? ((⟨W.heap.size, 0, none⟩ : Addr).add j) = some u := by
  intro j u hu
  rw [addAt, cell_of_row _ _ j _ t (0, 0) (heap_alloc_new W _)]
  simpa using hu
theorem ones3 (x y z : Int) : ∀ u ∈ [Value.int .i64 x, Value.int .i64 y, Value.int .i64 z], u.oneCell' = true := by
  intro u hu
  simp at hu
  rcases hu with rfl | rfl | rfl <;> rfl

set_option maxRecDepth 100000 in
set_option maxHeartbeats 1600000 in
theorem runs_any (cs : Array Value) (g : Nat → Int) (w : World) (hs : cs.size = 40) (hv : ∀ i : Nat, i < 40 → cs[i]? = some (.int .i64 (g i))) (h0 : ∀ s, 0 ≤ g s) (h1 : ∀ s, g s ≤ 256) :
    Calls Try.prog 22 #[.agg cs] w (Listed w (bld g 40)) := by
  obtain ⟨i0, hi, hz0, hz1, hz2⟩ := info_parts infoExt
  have HV := Lib.hid hv
  have HS := Lib.hid hs
  have H0 := Lib.hid h0
  have H1 := Lib.hid h1
  have HI : Hid ((Try.prog.info? 49).map (·.size) = some cs.size) := by show _ = _; rw [hs]; exact arrInfo
  have HO : Hid (w.heap.size ≤ (w.alloc (.cells cs 49)).heap.size) := by show _ ≤ _; simp
  have HG : Hid ((w.alloc (.cells cs 49)).heap[w.heap.size]? = some (.cells cs 49 (0, 0))) := heap_alloc_new w _
  have HB1 : Hid (Below w.heap.size w (w.alloc (.cells cs 49))) := (Below.refl _ _).alloc (Nat.le_refl _) _
  clear hs hv h0 h1
  go_enter Try.func22, Try.ntmps22
  go_wp2_with (refine wpList_load_row rfl 49 (.tmp 1) rfl w.heap.size rfl 49 cs (0, 0) _ HG.out Try.underlying49 rfl HI.out ?_)
  generalize (w.alloc (.cells cs 49)) = w1 at HB1 ⊢
  obtain ⟨bx, hbx⟩ : ∃ b, Hid (w.heap.size = b) := ⟨_, rfl⟩
  rw [hbx.out]
  clear HI HO HG
  go_loopw [3, 8] (fun v i wr => ∃ b : Nat, b ≤ 40 ∧ i = .int .i64 b ∧ ∃ a n c, v = .slice a n c ∧ Hid (RunsAt w g b a n c wr)) (fun _ i _ => 40 - (intOf i).toNat)
  case atStart => exact ⟨0, by omega, rfl, none, 0, 0, rfl, rfl, World.ownsRow_nil _ _ _ _, HB1.out⟩
  case round =>
    obtain ⟨b, hb, rfl, a, n, c, rfl, hc⟩ := hrel
    by_cases hlt : b < 40
    · have hix : ∀ W, (Instr.index 49 (.agg cs) (.int .i64 (b : Int))).run Try.prog W = .ok (.int .i64 (g b)) W := fun W => run_index_homes W cs b _ hlt (HV.out b hlt)
      go_upto_block 1 with fail
      go_cut [3] (fun v wx => ∃ a n c, v = .slice a n c ∧ Hid (RunsAt w g (b + 1) a n c wx))
      case first =>
        have hg0 := H0.out b
        have hg1 := H1.out b
        have HJ := Lib.hid (BInv.test (b := b) H0.out (bld_inv g H0.out b))
        obtain ⟨gb, hgb⟩ : ∃ x, Hid (g b = x) := ⟨_, rfl⟩
        rw [hgb.out] at hg0 hg1 hix
        by_cases h0 : gb = 0
        · have HE := Lib.hid (hc.out.skip (by rw [hgb.out]; exact h0))
          subst h0
          go_wp2
          go_meet
          exact ⟨_, _, _, rfl, HE.out⟩
        · have hz : (gb == 0) = false := beq_eq_false_iff_ne.2 h0
          have HNZ : Hid (g b ≠ 0) := by show g b ≠ 0; rw [hgb.out]; exact h0
          clear h0
          cases n with
          | zero =>
            have HJ2 : Hid (joins g b = false) := by
              have := HJ.out HNZ.out
              cases hj : joins g b with
              | false => rfl
              | true => have := (this.1 hj).1; have := hc.out.len; omega
            go_wp2_with fail
            go_quiet (fail)
            go_wp2_with (at_builtin; refine wpList_append_own _ rfl (.tmp 62) (.tmp 67) 27 rfl w.heap.size 54 i0 _ 3 24 Try.underlying27 hi hz0 hz1 hz2 rfl (by decide) _ _ _ rfl ((hc.out.drewN _).own.alloc _) ⟨wr.heap.size, 0, none⟩ 1 1 [.int .i64 b, .int .i64 (gb - 1), .int .i64 1] rfl rfl ?c1 ?c2 ?c3 ?c4 ?c5 ?_)
            case c1 => exact news3 _ _ _ _ _
            case c2 => exact ones3 _ _ _
            case c3 => unfold maxLen; omega
            case c4 => omega
            case c5 => have := hc.out.bel.size; simp; omega
            intro v3 w3 hown3 hgrow3 _
            obtain ⟨a3, c3, rfl, h3⟩ := hc.out.app HNZ.out HJ2.out ((below_drewN (Below.refl wr.heap.size wr) _).alloc (Nat.le_refl _) _) (by rw [hgb.out]; exact hown3) hgrow3
            have HR3 := Lib.hid h3
            clear hown3 hgrow3 h3
            go_wp2
            go_meet
            exact ⟨_, _, _, rfl, HR3.out⟩
          | succ m =>
            have hlen := hc.out.len
            obtain ⟨G, cap, hv, hcell⟩ : ∃ G cap, Value.slice a (m + 1) c = .slice (some ⟨G, 0, none⟩) (m + 1) cap ∧ True := by
              obtain ⟨G, cap, hv, _⟩ := hc.out.own.form (Nat.succ_pos m)
              exact ⟨G, cap, hv, trivial⟩
            injection hv with hv1 hv2 hv3
            subst hv1 hv3
            clear hcell hv2
            have hI := bld_inv g H0.out b
            have ho := hI.one m (by omega)
            have hbd : eH (bld g b) m + eN (bld g b) m ≤ 256 := hI.bd H1.out (by omega)
            have hfew := hI.few
            obtain ⟨k1, k2, k3⟩ := cells3_at (bld g b) m (by omega)
            have c0 : wr.cell? ⟨G, m * 3, none⟩ = some (.int .i64 (eF (bld g b) m)) := by rw [hc.out.own.cellAt _ (by omega)]; exact k1
            have c1 : wr.cell? ⟨G, m * 3 + 1, none⟩ = some (.int .i64 (eH (bld g b) m)) := by rw [hc.out.own.cellAt _ (by omega)]; exact k2
            have c2 : wr.cell? ⟨G, m * 3 + 2, none⟩ = some (.int .i64 (eN (bld g b) m)) := by rw [hc.out.own.cellAt _ (by omega)]; exact k3
            have f2 : wr.frozen? ⟨G, m * 3 + 2, none⟩ = false := hc.out.own.frozenAt _
            have j1 : ((m + 1 : Nat) : Int) - 1 = (m : Int) := by omega
            have HM1 : Hid (m + 1 ≤ 40) := by show m + 1 ≤ 40; omega
            have HT : Hid (joins g b = true ↔ (eF (bld g b) m + eN (bld g b) m = b ∧ eH (bld g b) m + eN (bld g b) m = gb - 1)) := by
              have := HJ.out HNZ.out
              rw [← hlen, hgb.out] at this
              show _ ↔ _
              rw [this]
              exact ⟨fun h => h.2, fun h => ⟨Nat.succ_pos m, h⟩⟩
            have HC := Lib.hid hc.out
            clear hc hI hlen k1 k2 k3 HJ
            obtain ⟨f, hf⟩ : ∃ x, Hid (eF (bld g b) m = x) := ⟨_, rfl⟩
            obtain ⟨hh, hhh⟩ : ∃ x, Hid (eH (bld g b) m = x) := ⟨_, rfl⟩
            obtain ⟨nn, hnn⟩ : ∃ x, Hid (eN (bld g b) m = x) := ⟨_, rfl⟩
            rw [hf.out, hhh.out, hnn.out] at HT
            rw [hf.out, hnn.out, hhh.out] at ho
            rw [hhh.out, hnn.out] at hbd
            rw [hf.out] at c0
            rw [hhh.out] at c1
            rw [hnn.out] at c2
            obtain ⟨o1, o2, o3, o4⟩ := ho
            have hm40 : m < 40 := by have := HM1.out; omega
            have on : nn ≤ 40 := by omega
            have hd0 : decide ((0 : Int) < (m : Int) + 1) = true := decide_eq_true (by omega)
            by_cases hjn : f + nn = b ∧ hh + nn = gb - 1
            · have HJ1 : Hid (joins g b = true) := HT.out.2 hjn
              have HE := Lib.hid ((HC.out.drewN 0).bump HNZ.out HJ1.out (nn + 1) (by rw [hnn.out]))
              have e1 : (f + nn == (b : Int)) = true := beq_iff_eq.2 hjn.1
              have e2 : (hh + nn == gb - 1) = true := beq_iff_eq.2 hjn.2
              clear hjn
              have q1 : IntKind.i64.wrap (m : Int) = m := IntWalk.i64_in _ (by omega)
              have q2 : IntKind.i64.wrap (f + nn) = f + nn := IntWalk.i64_in _ (by omega)
              have q3 : IntKind.i64.wrap (hh + nn) = hh + nn := IntWalk.i64_in _ (by omega)
              have q4 : IntKind.i64.wrap (gb - 1) = gb - 1 := IntWalk.i64_in _ (by omega)
              go_wp2_with fail
              go_quiet (fail)
              clear q1 q2 q3 q4
              go_wp2
              go_meet
              exact ⟨_, _, _, rfl, (HC.out.drewN _).bump HNZ.out HJ1.out (nn + 1) (by rw [hnn.out])⟩
            · have HJ2 : Hid (joins g b = false) := by
                cases hj : joins g b with
                | false => rfl
                | true => exact absurd (HT.out.1 hj) hjn
              rcases (show (f + nn == (b : Int)) = false ∨ ((f + nn == (b : Int)) = true ∧ (hh + nn == gb - 1) = false) by
                by_cases q : f + nn = b
                · exact Or.inr ⟨beq_iff_eq.2 q, beq_eq_false_iff_ne.2 (fun q2 => hjn ⟨q, q2⟩)⟩
                · exact Or.inl (beq_eq_false_iff_ne.2 q)) with e1 | ⟨e1, e2⟩
              · clear hjn
                have q1 : IntKind.i64.wrap (m : Int) = m := IntWalk.i64_in _ (by omega)
                have q2 : IntKind.i64.wrap (f + nn) = f + nn := IntWalk.i64_in _ (by omega)
                have q3 : IntKind.i64.wrap (hh + nn) = hh + nn := IntWalk.i64_in _ (by omega)
                have q4 : IntKind.i64.wrap (gb - 1) = gb - 1 := IntWalk.i64_in _ (by omega)
                go_wp2_with fail
                go_quiet (fail)
                clear q1 q2 q3 q4
                go_wp2_with (at_builtin; refine wpList_append_own _ rfl (.tmp 62) (.tmp 67) 27 rfl w.heap.size 54 i0 _ 3 24 Try.underlying27 hi hz0 hz1 hz2 rfl (by decide) _ _ _ rfl ((HC.out.drewN _).own.alloc _) ⟨wr.heap.size, 0, none⟩ 1 1 [.int .i64 b, .int .i64 (gb - 1), .int .i64 1] rfl rfl ?c1 ?c2 ?c3 ?c4 ?c5 ?_)
                case c1 => exact news3 _ _ _ _ _
                case c2 => exact ones3 _ _ _
                case c3 => have := HM1.out; unfold maxLen; omega
                case c4 => have := HM1.out; omega
                case c5 => have := HC.out.bel.size; simp; omega
                intro v3 w3 hown3 hgrow3 _
                obtain ⟨a3, c3, rfl, h3⟩ := HC.out.app HNZ.out HJ2.out ((below_drewN (Below.refl wr.heap.size wr) _).alloc (Nat.le_refl _) _) (by rw [hgb.out]; exact hown3) hgrow3
                have HR3 := Lib.hid h3
                clear hown3 hgrow3 h3
                go_wp2
                go_meet
                exact ⟨_, _, _, rfl, HR3.out⟩
              · clear hjn
                have q1 : IntKind.i64.wrap (m : Int) = m := IntWalk.i64_in _ (by omega)
                have q2 : IntKind.i64.wrap (f + nn) = f + nn := IntWalk.i64_in _ (by omega)
                have q3 : IntKind.i64.wrap (hh + nn) = hh + nn := IntWalk.i64_in _ (by omega)
                have q4 : IntKind.i64.wrap (gb - 1) = gb - 1 := IntWalk.i64_in _ (by omega)
                go_wp2_with fail
                go_quiet (fail)
                clear q1 q2 q3 q4
                go_wp2_with (at_builtin; refine wpList_append_own _ rfl (.tmp 62) (.tmp 67) 27 rfl w.heap.size 54 i0 _ 3 24 Try.underlying27 hi hz0 hz1 hz2 rfl (by decide) _ _ _ rfl ((HC.out.drewN _).own.alloc _) ⟨wr.heap.size, 0, none⟩ 1 1 [.int .i64 b, .int .i64 (gb - 1), .int .i64 1] rfl rfl ?c1 ?c2 ?c3 ?c4 ?c5 ?_)
                case c1 => exact news3 _ _ _ _ _
                case c2 => exact ones3 _ _ _
                case c3 => have := HM1.out; unfold maxLen; omega
                case c4 => have := HM1.out; omega
                case c5 => have := HC.out.bel.size; simp; omega
                intro v3 w3 hown3 hgrow3 _
                obtain ⟨a3, c3, rfl, h3⟩ := HC.out.app HNZ.out HJ2.out ((below_drewN (Below.refl wr.heap.size wr) _).alloc (Nat.le_refl _) _) (by rw [hgb.out]; exact hown3) hgrow3
                have HR3 := Lib.hid h3
                clear hown3 hgrow3 h3
                go_wp2
                go_meet
                exact ⟨_, _, _, rfl, HR3.out⟩
      case rest =>
        obtain ⟨a2, n2, c2, rfl, HCN⟩ := hcut
        clear hix
        go_wp2
        go_roundw
        case rel => exact ⟨b + 1, by omega, by go_num, _, _, _, rfl, HCN⟩
        case measure => simp [intOf]; omega
    · obtain rfl : b = 40 := by omega
      go_wp2
      go_ret
      refine ⟨_, rfl, own_exl (by have := hc.out.own; rw [hc.out.len] at this; rw [hc.out.len]; exact this), hc.out.bel⟩
end Go.Proofs.Ytidifimhgnjomaa
