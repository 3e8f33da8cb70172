/- Walks of the layer extent: Drop. -/
import Derived.Test.YtidifimhgnjomaaEw
import Derived.Maps.AppendAt
import Derived.Below
namespace Go.Proofs.Ytidifimhgnjomaa
set_option linter.unusedVariables false
set_option linter.unusedSimpArgs false
open Go.RowKit

theorem infoInt : (Try.prog.info? 3).map (fun i => (i.zero, i.size, i.bytes)) = some (some (.int .i64 0), 1, 8) := by kernel_rfl

/-- The homes that are freed, of the first b blocks. -/
def gone (g : Nat → Int) (f t : Int) : Nat → List Int
  | 0 => []
  | b + 1 => if (f ≤ (b : Int) ∧ (b : Int) < t) ∧ g b ≠ 0 then gone g f t b ++ [g b - 1] else gone g f t b
theorem gone_none {g : Nat → Int} {f t : Int} {b : Nat} (h : (b : Int) ≤ f) : gone g f t b = [] := by
  induction b with
  | zero => rfl
  | succ b ih => unfold gone; rw [if_neg (by omega)]; exact ih (by omega)
theorem gone_same {g : Nat → Int} {f t : Int} {b k : Nat} (h : t ≤ b ∨ (b : Int) ≤ f ∧ (b + k : Nat) ≤ f) : gone g f t (b + k) = gone g f t b := by
  induction k with
  | zero => rfl
  | succ k ih => rw [← Nat.add_assoc, gone, if_neg (by omega)]; exact ih (by omega)
theorem gone_len (g : Nat → Int) (f t : Int) (b : Nat) : (gone g f t b).length ≤ b := by
  induction b with
  | zero => exact Nat.le_refl _
  | succ b ih =>
    unfold gone
    split
    · simp; omega
    · omega

/-- A slice that the call owns, and the ints in it. -/
def IRow (w : World) (base : Nat) (v : Value) (xs : List Int) : Prop := w.ownsRow base 3 1 v xs.length (xs.map (Value.int .i64))
/-- A slice that holds the ints xs. -/
def InL (w : World) (v : Value) (xs : List Int) : Prop := ∃ a c L, v = .slice a xs.length c ∧ InAt w L 0 a xs.length c (fun i => xs.getD i 0) ∧ (0 < xs.length → ∃ cur, w.heap[L]? = some (.cells cur 3 (0, 0)))
theorem InL.below {w w' : World} {v : Value} {xs : List Int} (h : InL w v xs) (hb : Below w.heap.size w w') : InL w' v xs := by
  obtain ⟨a, c, L, h1, h2, h3⟩ := h
  exact ⟨a, c, L, h1, h2.below hb, fun hn => by
    obtain ⟨cur, hc⟩ := h3 hn
    exact ⟨cur, by rw [hb.block L (h2.lt hn)]; exact hc⟩⟩
theorem InAt.grown {w w' : World} {L off n c : Nat} {a : Option Addr} {v : Nat → Int} {q : Option Nat} (h : InAt w L off a n c v) (hg : w.grownBy w' q) (hne : 0 < n → some L ≠ q) : InAt w' L off a n c v :=
  ⟨h.1, h.2.1, fun hn => ⟨(h.2.2 hn).1, fun i hi => hg.cell ((h.2.2 hn).2 i hi) (hne hn)⟩⟩
theorem InL.grown {w w' : World} {v : Value} {xs : List Int} {B : Nat} {cs : Array Value} {t : TypeId} (h : InL w v xs) (hg : w.grownBy w' (some B)) (hB : w.heap[B]? = some (.cells cs t (0, 0))) (ht : t ≠ 3) : InL w' v xs := by
  obtain ⟨a, c, L, h1, h2, h3⟩ := h
  have hne : 0 < xs.length → some L ≠ some B := fun hn e => by
    injection e with e
    obtain ⟨cur, hc⟩ := h3 hn
    rw [e, hB] at hc
    injection hc with hc
    injection hc with _ hc
    exact ht hc
  exact ⟨a, c, L, h1, h2.grown hg hne, fun hn => by
    obtain ⟨cur, hc⟩ := h3 hn
    exact ⟨cur, by rw [hg.block L (h2.lt hn) (hne hn)]; exact hc⟩⟩
theorem InL.nil (w : World) : InL w (.slice none 0 0) [] := ⟨none, 0, 0, rfl, ⟨Nat.le_refl _, by omega, fun h => absurd h (Nat.lt_irrefl _)⟩, fun h => absurd h (Nat.lt_irrefl _)⟩
theorem IRow.inl {w : World} {base : Nat} {v : Value} {xs : List Int} (h : IRow w base v xs) : InL w v xs := by
  rcases h.2 with ⟨rfl, h0⟩ | ⟨g, cap, cur, rfl, hb, hg, hnc, hcm, hcs, htake⟩
  · exact ⟨none, 0, 0, by rw [h0], ⟨by omega, by omega, fun hn => by omega⟩, fun hn => by omega⟩
  · refine ⟨_, cap, g, rfl, ⟨hnc, by unfold maxLen at hcm; omega, fun hn => ⟨rfl, fun i hi => ?_⟩⟩, fun _ => ⟨cur, hg⟩⟩
    have hc := h.cellAt (g := g) (cap := cap) i (by omega)
    rw [Nat.zero_add, hc, List.getElem?_map, List.getElem?_eq_getElem hi]
    show _ = some (Value.int .i64 (xs.getD i 0))
    rw [List.getD_eq_getElem?_getD, List.getElem?_eq_getElem hi]
    rfl
theorem IRow.nil (w : World) (base : Nat) : IRow w base (.slice none 0 0) [] := World.ownsRow_nil _ _ _ _
theorem IRow.app {w : World} {base : Nat} {v : Value} {xs : List Int} {x : Int} (h : w.ownsRow base 3 1 v (xs.length + 1) (xs.map (Value.int .i64) ++ [.int .i64 x])) : IRow w base v (xs ++ [x]) := by
  unfold IRow
  rw [List.length_append, List.map_append]
  exact h
theorem Arr.grown {w w' : World} {b m : Nat} {t : TypeId} {v : Nat → Value} {q : Option Nat} (h : Arr w b m t v) (hg : w.grownBy w' q) (hne : some b ≠ q) : Arr w' b m t v := by
  have hl := h.lt
  obtain ⟨cs, hh, hs, hv⟩ := h
  exact ⟨cs, by rw [hg.block b hl hne]; exact hh, hs, hv⟩

open Classical in
/-- What Drop answers: the list, the homes that are freed, the error. -/
noncomputable def dropV (n : Nat) (F H N : Nat → Int) (f t : Int) : List Ext × List Int × Int :=
  if Right n F H N then
    if 0 ≤ f ∧ f ≤ t then (bld (fun s => if f ≤ (s : Int) ∧ (s : Int) < t then 0 else hm F H N n s) 40, gone (fun s => hm F H N n s) f t 40, 0)
    else ([], [], 2)
  else ([], [], 3)
def DropPost (w : World) (r : List Ext × List Int × Int) (e : Ending) (w' : World) : Prop := ∃ v u, e = .returned (.tuple #[v, u, .int .i64 r.2.2]) ∧ ExL w' v r.1 ∧ InL w' u r.2.1 ∧ Below w.heap.size w w'

/-- Where Drop's loop stands. -/
structure DropAt (w w0 : World) (g : Nat → Int) (B9 : Nat) (f t : Int) (b : Nat) (v : Value) (wr : World) : Prop where
  row : IRow wr w0.heap.size v (gone g f t b)
  arr : Arr wr B9 40 49 (fun s => .int .i64 (if f ≤ (s : Int) ∧ (s : Int) < b then 0 else g s))
  bel : Below w.heap.size w wr
  old : w.heap.size ≤ B9
  lt : B9 < w0.heap.size
  size : w0.heap.size ≤ wr.heap.size
theorem gone_skip {g : Nat → Int} {f t : Int} {b : Nat} (h : g b = 0) : gone g f t (b + 1) = gone g f t b := by rw [gone, if_neg (fun hc => hc.2 h)]
theorem gone_take {g : Nat → Int} {f t : Int} {b : Nat} (h1 : f ≤ (b : Int)) (h2 : (b : Int) < t) (h : g b ≠ 0) : gone g f t (b + 1) = gone g f t b ++ [g b - 1] := by
  rw [gone, if_pos ⟨⟨h1, h2⟩, h⟩]
theorem DropAt.skip {w w0 : World} {g : Nat → Int} {B9 : Nat} {f t : Int} {b : Nat} {v : Value} {wr : World} (h : DropAt w w0 g B9 f t b v wr) (h0 : g b = 0) : DropAt w w0 g B9 f t (b + 1) v wr := by
  refine ⟨by rw [gone_skip h0]; exact h.row, ?_, h.bel, h.old, h.lt, h.size⟩
  have e : (fun s : Nat => Value.int .i64 (if f ≤ (s : Int) ∧ (s : Int) < (b + 1 : Nat) then 0 else g s)) = (fun s : Nat => Value.int .i64 (if f ≤ (s : Int) ∧ (s : Int) < b then 0 else g s)) := by
    funext s
    congr 1
    by_cases e : s = b
    · subst e; rw [h0]; split <;> split <;> rfl
    · by_cases e2 : f ≤ (s : Int) ∧ (s : Int) < b
      · rw [if_pos e2, if_pos (by omega)]
      · rw [if_neg e2, if_neg (by omega)]
  rw [e]; exact h.arr
theorem DropAt.take {w w0 : World} {g : Nat → Int} {B9 : Nat} {f t : Int} {b : Nat} {v v' : Value} {wr W w' : World} (h : DropAt w w0 g B9 f t b v wr) (hf : f ≤ (b : Int)) (ht : (b : Int) < t) (h0 : g b ≠ 0) (hb : b < 40)
    (hw : Below wr.heap.size wr W)
    (ho : w'.ownsRow w0.heap.size 3 1 v' ((gone g f t b).length + 1) ((gone g f t b).map (Value.int .i64) ++ [.int .i64 (g b - 1)])) (hg : W.grownBy w' v.ownBlock) :
    DropAt w w0 g B9 f t (b + 1) v' (w'.setCell ⟨B9, b, none⟩ (.int .i64 0)) := by
  have hne : some B9 ≠ v.ownBlock := fun e => by
    have := (h.row.lt B9 e.symm).1
    have := h.lt
    omega
  have hA := ((h.arr.below hw).grown hg hne).set b hb (.int .i64 0)
  have hB : Below w.heap.size w w' := (h.bel.trans (hw.mono h.bel.size)).grown hg (Nat.le_trans h.bel.size hw.size) (fun k hk => Nat.le_trans (Nat.le_of_lt (Nat.lt_of_le_of_lt h.old h.lt)) (h.row.lt k hk).1)
  refine ⟨?_, ?_, hB.setCell (by exact h.old) _, h.old, h.lt, ?_⟩
  · rw [gone_take hf ht h0]
    exact IRow.app (ownsRow_setCell_below ho (by exact h.lt) _)
  · have e : (fun s : Nat => Value.int .i64 (if f ≤ (s : Int) ∧ (s : Int) < (b + 1 : Nat) then 0 else g s)) = (fun s : Nat => if s = b then Value.int .i64 0 else Value.int .i64 (if f ≤ (s : Int) ∧ (s : Int) < b then 0 else g s)) := by
      funext s
      by_cases e : s = b
      · subst e; rw [if_pos rfl, if_pos (by omega)]
      · rw [if_neg e]
        congr 1
        by_cases e2 : f ≤ (s : Int) ∧ (s : Int) < b
        · rw [if_pos e2, if_pos (by omega)]
        · rw [if_neg e2, if_neg (by omega)]
    rw [e]; exact hA
  · have h1 := h.size
    have h2 := hw.size
    have h3 := hg.size
    have : (w'.setCell ⟨B9, b, none⟩ (.int .i64 0)).heap.size = w'.heap.size := by simp
    omega
theorem DropAt.read {w w0 : World} {g : Nat → Int} {B9 : Nat} {f t : Int} {b : Nat} {v : Value} {wr : World} (h : DropAt w w0 g B9 f t b v wr) (hb : b < 40) : wr.cell? ⟨B9, b, none⟩ = some (.int .i64 (g b)) := by
  rw [h.arr.cell hb, if_neg (by omega)]

set_option maxRecDepth 100000 in
set_option maxHeartbeats 1600000 in
theorem drop_any (a : Option Addr) (n c L off : Nat) (F H N : Nat → Int) (f t : Int) (w : World) (hx : ExAt w L off a n c F H N) (hf9 : -9223372036854775808 ≤ f ∧ f ≤ 9223372036854775807) (ht9 : -9223372036854775808 ≤ t ∧ t ≤ 9223372036854775807) :
    Calls Try.prog 12 #[.slice a n c, .int .i64 f, .int .i64 t] w (DropPost w (dropV n F H N f t)) := by
  obtain ⟨i0, hi, hz0, hz1, hz2⟩ := info_parts infoInt
  have HB := Lib.hid hx
  clear hx
  by_cases hr : Right n F H N
  · have HC : Hid (chk n F H N = 0) := chk_good hr
    have HR := Lib.hid hr
    by_cases hb : 0 ≤ f ∧ f ≤ t
    · have HV : Hid (dropV n F H N f t = (bld (fun s => if f ≤ (s : Int) ∧ (s : Int) < t then 0 else hm F H N n s) 40, gone (fun s => hm F H N n s) f t 40, 0)) := by
        show _ = _; unfold dropV; rw [if_pos hr, if_pos hb]
      obtain ⟨hb0, hb1⟩ := hb
      obtain ⟨p, rfl⟩ := Int.eq_ofNat_of_zero_le hb0
      have d1 : decide (t < (p : Int)) = false := decide_eq_false (by omega)
      obtain ⟨Z, hZ⟩ : ∃ Z : Array Value, Hid (Z = Array.replicate 40 (.int .i64 0)) := ⟨_, rfl⟩
      have hz : ∀ w, (zeroValue 49).run Try.prog w = .ok (.agg Z) w := fun w => by rw [hZ.out]; exact zeroHomes w
      have HZ : Hid (Z.size = 40) := by show Z.size = 40; rw [hZ.out]; simp
      clear hr hb0
      go_enter Try.func12, Try.ntmps12
      go_upto_region 6 with (first
        | (go_at_call 11; refine (check_any _ _ _ _ _ _ _ _ _ HB.out).mono ?_; rintro e w1 ⟨rfl, hb⟩; rw [HC.out]; have HW1 := Lib.hid hb; clear hb)
        | (go_at_call 20; refine (homes_any _ _ _ _ _ _ _ _ _ (HB.out.below HW1.out) HR.out).mono ?_; rintro e w2 ⟨cs, rfl, hs, hv, hb⟩; have HW2 := Lib.hid hb; have HS := Lib.hid hs; have HCS := Lib.hid hv; have hst := run_storeCells_new (P := Try.prog) w2 49 Z cs (by rw [hs]; exact arrInfo) (HZ.out.trans hs.symm) (all_one hs hv); clear hb hv))
      have HG : Hid ((w2.alloc (.cells cs 49)).heap[w2.heap.size]? = some (.cells cs 49 (0, 0))) := heap_alloc_new w2 _
      have hW2 : w.heap.size ≤ w2.heap.size := Nat.le_trans HW1.out.size HW2.out.size
      have HB3 : Hid (Below w.heap.size w (w2.alloc (.cells cs 49))) := (HW1.out.trans (HW2.out.mono HW1.out.size)).alloc hW2 _
      have HW := Lib.hid hW2
      have HL3 : Hid (w2.heap.size < (w2.alloc (.cells cs 49)).heap.size) := by show _ < _; simp
      clear hst hz hs hW2
      generalize (w2.alloc (.cells cs 49)) = w3 at HG HB3 HL3 ⊢
      obtain ⟨B9, hB9⟩ : ∃ x, Hid (w2.heap.size = x) := ⟨_, rfl⟩
      rw [hB9.out] at HG HW HL3 ⊢
      obtain ⟨M, hM⟩ : ∃ M, (if (40 : Int) < t then (40 : Int) else t) = M := ⟨_, rfl⟩
      have HM : Hid (M ≤ 40 ∧ M ≤ t ∧ (M = 40 ∨ M = t)) := by show _ ∧ _; rw [← hM]; split <;> omega
      have HD : Hid (DropAt w w3 (fun s => hm F H N n s) B9 p t p (.slice none 0 0) w3) := by
        refine ⟨by rw [gone_none (Int.le_refl _)]; exact IRow.nil _ _, ⟨cs, HG.out, HS.out, fun i hi => ?_⟩, HB3.out, HW.out, HL3.out, Nat.le_refl _⟩
        rw [HCS.out i hi]
        show _ = some (Value.int .i64 (if (p : Int) ≤ (i : Int) ∧ (i : Int) < p then 0 else hm F H N n i))
        rw [if_neg (by omega)]
      go_wp2_with fail
      go_loopw [10, 11] (fun v i wr => ∃ b : Nat, i = .int .i64 b ∧ Hid (b = p ∨ b ≤ 40 ∧ p ≤ b ∧ (b : Int) ≤ t) ∧ Hid (DropAt w w3 (fun s => hm F H N n s) B9 p t b v wr)) (fun _ i _ => 40 - (intOf i).toNat)
      case atStart => exact ⟨p, rfl, Or.inl rfl, HD.out⟩
      case round =>
        obtain ⟨b, rfl, hbb, hd⟩ := hrel
        by_cases hlt : (b : Int) < M
        · have dlt : decide ((b : Int) < M) = true := decide_eq_true hlt
          have hlt2 : (b : Int) < 40 ∧ (b : Int) < t := by have := HM.out; omega
          clear hlt
          have hb40 : b < 40 := by omega
          have hpb : p ≤ b := by have := hbb.out; omega
          have hbt : (b : Int) < t := by omega
          have hbd := hm_bd (b : Int) HR.out.2
          have c0 := hd.out.read hb40
          have f0 := hd.out.arr.frozen b
          have HBB : Hid (b + 1 = p ∨ b + 1 ≤ 40 ∧ p ≤ b + 1 ∧ ((b + 1 : Nat) : Int) ≤ t) := by show _ ∨ _; omega
          obtain ⟨x, hx⟩ : ∃ x, Hid (hm F H N n b = x) := ⟨_, rfl⟩
          rw [hx.out] at hbd
          rw [hx.out] at c0
          by_cases hx0 : x = 0
          · have HS2 := Lib.hid (hd.out.skip (by rw [hx.out]; exact hx0))
            have d4 : (x != 0) = false := by rw [hx0]; rfl
            clear hx0 hbb hlt2 hbt
            go_wp2
            go_roundw
            case rel => exact ⟨b + 1, by go_num, HBB, HS2⟩
            case measure => simp [intOf]; omega
          · have d4 : (x != 0) = true := by simpa using hx0
            have HX0 : Hid (hm F H N n b ≠ 0) := by show _ ≠ _; rw [hx.out]; exact hx0
            have HBT := Lib.hid hbt
            clear hx0 hbb hlt2 hbt
            go_wp2_with (at_builtin; refine wpList_append_own _ rfl (.tmp 37) (.tmp 42) 22 rfl w3.heap.size 3 i0 (.int .i64 0) 1 8 Try.underlying22 hi hz0 hz1 hz2 rfl (by decide) _ _ _ rfl (hd.out.row.alloc _) ⟨wr.heap.size, 0, none⟩ 1 1 [.int .i64 (x - 1)] rfl rfl (cell_one_new _ _ _) (ints_oneCell .i64 [x - 1]) ?c3 ?c4 ?c5 ?_)
            case c3 => have := gone_len (fun s => hm F H N n s) p t b; unfold maxLen; omega
            case c4 => have := gone_len (fun s => hm F H N n s) p t b; omega
            case c5 => have := hd.out.size; simp; omega
            intro v3 w4 hown3 hgrow3 _
            have hne : some B9 ≠ Value.ownBlock u10 := fun e => by
              have h1 := (hd.out.row.lt B9 e.symm).1
              have h2 := hd.out.lt
              omega
            have hA4 := (hd.out.arr.below ((Below.refl _ _).alloc (Nat.le_refl _) (.cells #[.int .i64 (x - 1)] 3))).grown hgrow3 hne
            have c4 := hA4.cell hb40
            have f4 := hA4.frozen b
            have HT := Lib.hid (hd.out.take (by omega) HBT.out HX0.out hb40 ((Below.refl _ _).alloc (Nat.le_refl _) _) (by rw [hx.out]; exact hown3) hgrow3)
            clear hA4 hown3 hgrow3 hne c0 f0 hd
            go_wp2
            go_roundw
            case rel => exact ⟨b + 1, by go_num, HBB, HT⟩
            case measure => simp [intOf]; omega
        · have dlt : decide ((b : Int) < M) = false := decide_eq_false hlt
          have hlt2 : 40 ≤ (b : Int) ∨ t ≤ (b : Int) := by have := HM.out; omega
          have HGO : Hid (gone (fun s => hm F H N n s) p t b = gone (fun s => hm F H N n s) p t 40) := by
            show _ = _
            have hbb2 := hbb.out
            by_cases e40 : b = 40
            · rw [e40]
            by_cases e : b ≤ 40
            · obtain ⟨k, hk⟩ : ∃ k, 40 = b + k := ⟨40 - b, by omega⟩
              rw [hk]
              exact (gone_same (by omega)).symm
            · have hp1 : (b : Int) ≤ p := by omega
              have hp2 : ((40 : Nat) : Int) ≤ p := by omega
              rw [gone_none hp1, gone_none hp2]
          obtain ⟨ds, hg, hs, hv⟩ := hd.out.arr
          have HG5 := Lib.hid hg
          have HS5 := Lib.hid hs
          have HV5 : Hid (∀ i : Nat, i < 40 → ds[i]? = some (.int .i64 (if (p : Int) ≤ (i : Int) ∧ (i : Int) < t then 0 else hm F H N n i))) := fun i hi => by
            rw [hv i hi]
            show some (Value.int .i64 (if (p : Int) ≤ (i : Int) ∧ (i : Int) < b then 0 else hm F H N n i)) = _
            have hbb2 := hbb.out
            by_cases e : (p : Int) ≤ (i : Int) ∧ (i : Int) < t
            · rw [if_pos e, if_pos (by omega)]
            · rw [if_neg e, if_neg (by omega)]
          have HL : Hid (∀ s : Nat, 0 ≤ (if (p : Int) ≤ (s : Int) ∧ (s : Int) < t then 0 else hm F H N n s)) := fun s => by
            have := hm_bd (s : Int) HR.out.2
            split <;> omega
          have HU : Hid (∀ s : Nat, (if (p : Int) ≤ (s : Int) ∧ (s : Int) < t then 0 else hm F H N n s) ≤ 256) := fun s => by
            have := hm_bd (s : Int) HR.out.2
            split <;> omega
          have HROW := Lib.hid hd.out.row
          have HBE := Lib.hid hd.out.bel
          clear hlt hlt2 hg hs hv
          go_wp2_with (first
            | (refine wpList_load_row rfl 49 (.tmp 9) rfl B9 rfl 49 _ (0, 0) _ HG5.out Try.underlying49 rfl (by rw [HS5.out]; exact arrInfo) ?_)
            | (go_at_call 22; refine (runs_any _ (fun s => if (p : Int) ≤ (s : Int) ∧ (s : Int) < t then 0 else hm F H N n s) _ HS5.out HV5.out HL.out HU.out).mono ?_; rintro e w6 ⟨v, rfl, hv, hb⟩; have HV6 := Lib.hid hv; have HB6 := Lib.hid hb; clear hv hb))
          go_ret3
          exact ⟨v, _, by rw [HV.out]; rfl, by rw [HV.out]; exact HV6.out, by rw [HV.out]; show InL _ _ (gone (fun s => hm F H N n s) p t 40); rw [← HGO.out]; exact HROW.out.inl.below HB6.out, HBE.out.trans (HB6.out.mono HBE.out.size)⟩
    · have HV : Hid (dropV n F H N f t = ([], [], 2)) := by show _ = _; unfold dropV; rw [if_pos hr, if_neg hb]
      have HBn := Lib.hid hb
      clear hr hb
      go_enter Try.func12, Try.ntmps12
      go_wp2_with (go_at_call 11; refine (check_any _ _ _ _ _ _ _ _ _ HB.out).mono ?_; rintro e w1 ⟨rfl, hb⟩; rw [HC.out]; have HW1 := Lib.hid hb; clear hb)
      all_goals first
        | (go_ret3; exact ⟨_, _, by rw [HV.out]; rfl, by rw [HV.out]; exact ExL.nil _, by rw [HV.out]; exact InL.nil _, HW1.out⟩)
        | (exfalso; apply HBn.out; omega)
  · have HC : Hid (chk n F H N = 3) := chk_bad hr
    have HV : Hid (dropV n F H N f t = ([], [], 3)) := by show _ = _; unfold dropV; rw [if_neg hr]
    clear hr
    go_enter Try.func12, Try.ntmps12
    go_wp2_with (go_at_call 11; refine (check_any _ _ _ _ _ _ _ _ _ HB.out).mono ?_; rintro e w1 ⟨rfl, hb⟩; rw [HC.out]; have HW1 := Lib.hid hb; clear hb)
    go_ret3
    exact ⟨_, _, by rw [HV.out]; rfl, by rw [HV.out]; exact ExL.nil _, by rw [HV.out]; exact InL.nil _, HW1.out⟩
end Go.Proofs.Ytidifimhgnjomaa
