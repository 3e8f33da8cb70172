/- Walks of the layer extent: homes. -/
import Derived.Test.YtidifimhgnjomaaEs
import Derived.Laws.Tables
import Derived.Laws.Rows
namespace Go.Proofs.Ytidifimhgnjomaa
set_option linter.unusedVariables false
set_option linter.unusedSimpArgs false
open Go.RowKit

theorem arrInfo : (Try.prog.info? 49).map (·.size) = some 40 := by kernel_rfl

/-- A whole array out of, and into, a block. -/
theorem run_load_row {w : World} {b m : Nat} {t : TypeId} {cs : Array Value} (hg : w.heap[b]? = some (.cells cs t (0, 0))) (hs : cs.size = m) :
    (loadCellsFrom ⟨b, 0, none⟩ 0 m #[]).run Try.prog w = .ok cs w := by
  subst hs
  have := run_loadCells_list (P := Try.prog) w ⟨b, 0, none⟩ cs.toList (fun j v hv => by
    have hadd : (⟨b, 0, none⟩ : Addr).add j = ⟨b, j, none⟩ := by unfold Addr.add; split <;> simp_all
    rw [hadd, cell_of_row _ _ j cs t (0, 0) hg]
    simpa using hv)
  simpa [loadCells] using this
theorem run_store_row {w : World} {b : Nat} {t : TypeId} {ds cs : Array Value} (hg : w.heap[b]? = some (.cells ds t (0, 0))) (hi : (Try.prog.info? t).map (·.size) = some cs.size) (ho : ds.size = cs.size) (h1 : cs.all (·.oneCell') = true) :
    (storeCells ⟨b, 0, none⟩ cs.toList 0).run Try.prog w = .ok () (w.setRow b cs) := by
  have := run_storeVar_row (P := Try.prog) w b t t ds cs hg hi ho h1
  cases hq : Try.prog.info? t with
  | none => simp [hq] at hi
  | some i =>
    have hs : cs.size = i.size := by simp [hq] at hi; omega
    simpa [storeVar, sizeOf, typeInfo, hq, Value.cells, hs] using this

/-- Where the loop of homes stands. -/
structure Hms (w wr : World) (b0 b1 j : Nat) (F H N : Nat → Int) : Prop where
  bel : Below w.heap.size w wr
  new0 : w.heap.size ≤ b0
  new1 : w.heap.size ≤ b1
  ne : b0 ≠ b1
  arr0 : Arr wr b0 40 49 (fun _ => .int .i64 0)
  arr1 : Arr wr b1 40 49 (fun s => .int .i64 (hm F H N j s))
theorem Hms.below {w wr w' : World} {b0 b1 j : Nat} {F H N : Nat → Int} (h : Hms w wr b0 b1 j F H N) (hb : Below wr.heap.size wr w') : Hms w w' b0 b1 j F H N :=
  ⟨h.bel.trans (hb.mono h.bel.size), h.new0, h.new1, h.ne, h.arr0.below hb, h.arr1.below hb⟩
theorem Arr.far {w : World} {b m : Nat} {t : TypeId} {v : Nat → Value} (h : Arr w b m t v) {p : Addr} (hp : b ≠ p.block) (x : Value) : Arr (w.setCell p x) b m t v := by
  obtain ⟨cs, hh, hs, hv⟩ := h
  exact ⟨cs, by rw [heap_setCell_other w p b x hp]; exact hh, hs, hv⟩
theorem X3.far {w : World} {X : Nat} {f h n : Int} (hx : X3 w X f h n) {p : Addr} (hp : X ≠ p.block) (x : Value) : X3 (w.setCell p x) X f h n := by
  obtain ⟨h0, h1, h2⟩ := hx
  refine ⟨?_, ?_, ?_⟩
  · rw [World.cell?_setCell_far _ _ _ _ (by exact hp.symm)]; exact h0
  · rw [World.cell?_setCell_far _ _ _ _ (by exact hp.symm)]; exact h1
  · rw [World.cell?_setCell_far _ _ _ _ (by exact hp.symm)]; exact h2

/-- What homes answers: the array's cells. -/
def Homed (w : World) (g : Nat → Int) (e : Ending) (w' : World) : Prop :=
  ∃ cs : Array Value, e = .returned (.agg cs) ∧ cs.size = 40 ∧ (∀ i : Nat, i < 40 → cs[i]? = some (.int .i64 (g i))) ∧ Below w.heap.size w w'

set_option maxRecDepth 100000 in
set_option maxHeartbeats 1600000 in
theorem homes_any (a : Option Addr) (n c L off : Nat) (F H N : Nat → Int) (w : World) (h : ExAt w L off a n c F H N) (hr : Right n F H N) :
    Calls Try.prog 20 #[.slice a n c] w (Homed w (fun s => hm F H N n s)) := by
  have HB := Lib.hid h
  have hn9 : n ≤ 40 := hr.1
  have HR := Lib.hid hr
  clear h hr
  obtain ⟨Z, hZ⟩ : ∃ Z : Array Value, Hid (Z = Array.replicate 40 (.int .i64 0)) := ⟨_, rfl⟩
  have hz : ∀ w, (zeroValue 49).run Try.prog w = .ok (.agg Z) w := fun w => by rw [hZ.out]; exact zeroHomes w
  have HC : Hid (Hms w ((w.alloc (.cells Z 49)).alloc (.cells Z 49)) w.heap.size (w.heap.size + 1) 0 F H N) := by
    have hA : Arr (w.alloc (.cells Z 49)) w.heap.size 40 49 (fun _ => .int .i64 0) := Arr.new w 40 _ Z _ (by rw [hZ.out]; simp) (fun i hi => by rw [hZ.out]; simp [hi])
    have hB : Arr ((w.alloc (.cells Z 49)).alloc (.cells Z 49)) (w.alloc (.cells Z 49)).heap.size 40 49 (fun _ => .int .i64 0) := Arr.new _ 40 _ Z _ (by rw [hZ.out]; simp) (fun i hi => by rw [hZ.out]; simp [hi])
    have hs : (w.alloc (.cells Z 49)).heap.size = w.heap.size + 1 := by simp
    rw [hs] at hB
    exact ⟨((Below.refl _ _).alloc (Nat.le_refl _) _).alloc (by simp) _, Nat.le_refl _, Nat.le_succ _, by omega, hA.below ((Below.refl _ _).alloc (Nat.le_refl _) _), hB⟩
  go_enter Try.func20, Try.ntmps20
  go_wp2_with fail
  generalize ((w.alloc (.cells Z 49)).alloc (.cells Z 49)) = w1 at HC ⊢
  obtain ⟨b0, hb0⟩ : ∃ b, Hid (w.heap.size = b) := ⟨_, rfl⟩
  obtain ⟨b1, hb1⟩ : ∃ b, Hid (w.heap.size + 1 = b) := ⟨_, rfl⟩
  rw [hb1.out, hb0.out] at HC
  rw [hb1.out, hb0.out]
  clear hz hZ Z
  go_loopw [9] (fun i wr => ∃ j : Nat, j ≤ n ∧ i = .int .i64 j ∧ Hid (Hms w wr b0 b1 j F H N)) (fun i _ => n - (intOf i).toNat)
  case atStart => exact ⟨0, Nat.zero_le _, rfl, HC.out⟩
  case round =>
    obtain ⟨j, hj, rfl, hc⟩ := hrel
    by_cases hlt : j < n
    · have HBr := Lib.hid (HB.out.below hc.out.bel)
      obtain ⟨ha, hcell⟩ := HB.out.2.2 (by omega)
      subst ha
      obtain ⟨c0, c1, c2⟩ := (HBr.out.2.2 (by omega)).2 j hlt
      have ho := HR.out.2.one j hlt
      clear hcell
      obtain ⟨f, hf⟩ : ∃ f, Hid (F j = f) := ⟨_, rfl⟩
      obtain ⟨hh, hhh⟩ : ∃ hh, Hid (H j = hh) := ⟨_, rfl⟩
      obtain ⟨nn, hnn⟩ : ∃ nn, Hid (N j = nn) := ⟨_, rfl⟩
      rw [hf.out] at c0 ho
      rw [hhh.out] at c1 ho
      rw [hnn.out] at c2 ho
      obtain ⟨o1, o2, o3, o4, o5, o6⟩ := ho
      obtain ⟨q, rfl⟩ := Int.eq_ofNat_of_zero_le (show 0 ≤ nn by omega)
      obtain ⟨p, rfl⟩ := Int.eq_ofNat_of_zero_le o3
      have hq40 : q ≤ 40 := by omega
      have hpq : p + q ≤ 40 := by omega
      go_upto_block 1 with fail
      go_cut [] (fun wx => Hid (Hms w wx b0 b1 (j + 1) F H N))
      case first =>
        have hal : Below wr.heap.size wr (wr.alloc (.cells #[.int .i64 (p : Int), .int .i64 hh, .int .i64 (q : Int)] 54)) := (Below.refl _ _).alloc (Nat.le_refl _) _
        have HC2 := Lib.hid (hc.out.below hal)
        have HX2 := Lib.hid (X3.new wr p hh q 54)
        have HXb : Hid (wr.heap.size ≠ b1) := by have := hc.out.arr1.lt; show wr.heap.size ≠ b1; omega
        go_upto_block 2 with fail
        clear hal c0 c1 c2
        generalize (wr.alloc (.cells #[.int .i64 (p : Int), .int .i64 hh, .int .i64 (q : Int)] 54)) = w2 at HX2 HC2 ⊢
        obtain ⟨X, hX⟩ : ∃ b, Hid (wr.heap.size = b) := ⟨_, rfl⟩
        rw [hX.out] at HX2 HXb ⊢
        go_wp2_with fail
        go_loopw [15] (fun i wr => ∃ k : Nat, k ≤ q ∧ i = .int .i64 k ∧ Hid (Below w.heap.size w wr ∧ Arr wr b0 40 49 (fun _ => .int .i64 0) ∧ Arr wr b1 40 49 (fun s => .int .i64 (if p ≤ s ∧ s < p + k then hh + ((s : Int) - p) + 1 else hm F H N j s)) ∧ X3 wr X p hh q)) (fun i _ => q - (intOf i).toNat)
        case atStart => exact ⟨0, Nat.zero_le _, rfl, HC2.out.bel, HC2.out.arr0, by
          have e : (fun s : Nat => Value.int .i64 (if p ≤ s ∧ s < p + 0 then hh + ((s : Int) - p) + 1 else hm F H N j s)) = (fun s : Nat => Value.int .i64 (hm F H N j s)) := by funext s; rw [if_neg (by omega)]
          rw [e]; exact HC2.out.arr1, HX2.out⟩
        case round =>
          obtain ⟨k, hk, rfl, hr⟩ := hrel
          obtain ⟨x0, x1, x2⟩ := hr.out.2.2.2
          by_cases hkq : k < q
          · have hcs := hr.out.2.2.1.cell (i := p + k) (by omega)
            have hfz := hr.out.2.2.1.frozen (p + k)
            have i0 : (0 : Int) ≤ (p : Int) + (k : Int) := by omega
            have i1 : (p : Int) + (k : Int) < 40 := by omega
            have HW := Lib.hid (hr.out.2.2.1.set (p + k) (by omega) (.int .i64 (hh + (k : Int) + 1)))
            go_wp2
            go_roundw
            case rel =>
              refine ⟨k + 1, by omega, by go_num, hr.out.1.setCell (by show w.heap.size ≤ b1; exact hc.out.new1) _, hr.out.2.1.far (by exact hc.out.ne) _, ?_, hr.out.2.2.2.far (by show X ≠ b1; exact HXb.out) _⟩
              have e : (fun s : Nat => Value.int .i64 (if p ≤ s ∧ s < p + (k + 1) then hh + ((s : Int) - p) + 1 else hm F H N j s)) = (fun s : Nat => if s = p + k then Value.int .i64 (hh + (k : Int) + 1) else Value.int .i64 (if p ≤ s ∧ s < p + k then hh + ((s : Int) - p) + 1 else hm F H N j s)) := by
                funext s
                by_cases e : s = p + k
                · rw [if_pos (by omega), if_pos e]; congr 1; omega
                · rw [if_neg e]
                  congr 1
                  by_cases e2 : p ≤ s ∧ s < p + k
                  · rw [if_pos e2, if_pos (by omega)]
                  · rw [if_neg e2, if_neg (by omega)]
              rw [e]; exact HW.out
            case measure => simp [intOf]; omega
          · have hkq' : k = q := by omega
            have HE : Hid (Hms w wr b0 b1 (j + 1) F H N) := by
              subst hkq'
              refine ⟨hr.out.1, hc.out.new0, hc.out.new1, hc.out.ne, hr.out.2.1, ?_⟩
              have e : (fun s : Nat => Value.int .i64 (hm F H N (j + 1) s)) = (fun s : Nat => Value.int .i64 (if p ≤ s ∧ s < p + k then hh + ((s : Int) - p) + 1 else hm F H N j s)) := by
                funext s
                congr 1
                show (if F j ≤ (s : Int) ∧ (s : Int) < F j + N j then H j + ((s : Int) - F j) + 1 else hm F H N j s) = _
                rw [hf.out, hhh.out, hnn.out]
                by_cases e2 : p ≤ s ∧ s < p + k
                · rw [if_pos e2, if_pos (by omega)]
                · rw [if_neg e2, if_neg (by omega)]
              rw [e]; exact hr.out.2.2.1
            clear hkq'
            go_wp2
            go_meet
            exact HE.out
      case rest =>
        have HCN := Lib.hid hcut.out
        clear hcut
        go_wp2
        go_roundw
        case rel => exact ⟨j + 1, by omega, by go_num, HCN.out⟩
        case measure => simp [intOf]; omega
    · have hjn : j = n := by omega
      obtain ⟨cs, hg1, hs1, hv1⟩ := hc.out.arr1
      obtain ⟨ds, hg0, hs0, hv0⟩ := hc.out.arr0
      have HV : Hid (∀ i : Nat, i < 40 → cs[i]? = some (.int .i64 (hm F H N n i))) := fun i hi => by rw [hv1 i hi, hjn]
      have HS := Lib.hid hs1
      have HI : Hid ((Try.prog.info? 49).map (·.size) = some cs.size) := by show _ = _; rw [hs1]; exact arrInfo
      have HO : Hid (ds.size = cs.size) := hs0.trans hs1.symm
      have H1 : Hid (cs.all (·.oneCell') = true) := by
        refine Array.all_eq_true_iff_forall_mem.2 fun v hv => ?_
        obtain ⟨i, hi, rfl⟩ := Array.mem_iff_getElem.1 hv
        have := hv1 i (by omega)
        rw [Array.getElem?_eq_getElem hi] at this
        injection this with this
        rw [this]; rfl
      have HG0 := Lib.hid hg0
      have HG1 := Lib.hid hg1
      have HB0 : Hid (Below w.heap.size w (wr.setRow b0 cs)) := ⟨hc.out.bel.os, hc.out.bel.tape, hc.out.bel.output, by simp [hc.out.bel.size], fun i hi => by
        rw [setRow_other wr b0 i cs (by have := hc.out.new0; omega)]; exact hc.out.bel.block i hi⟩
      clear hv0 hv1 hs0 hs1 hg0 hg1 hjn
      go_wp2_with (first
        | (refine wpList_load_row rfl 49 (.tmp 3) rfl b1 rfl 49 cs (0, 0) _ HG1.out Try.underlying49 rfl HI.out ?_)
        | (refine wpList_store_row rfl 49 (.tmp 2) (.tmp 30) rfl b0 cs rfl rfl 49 ds HG0.out HI.out HO.out H1.out ?_))
      refine bodyPost_ret (v := .agg cs) (results_cell_row rfl _ _ b0 49 cs (0, 0) _ rfl (setRow_heap wr b0 ds cs _ _ HG0.out) Try.underlying49 rfl HI.out) rfl ?_
      exact ⟨cs, rfl, HS.out, HV.out, HB0.out⟩
end Go.Proofs.Ytidifimhgnjomaa
