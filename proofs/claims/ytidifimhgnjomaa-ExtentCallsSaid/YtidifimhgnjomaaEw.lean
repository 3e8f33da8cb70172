/- Walks of the layer extent: slices.Index, slices.Contains; Put. -/
import Derived.Test.YtidifimhgnjomaaEv
import Derived.Deep.WholeRow
namespace Go.Proofs.Ytidifimhgnjomaa
set_option linter.unusedVariables false
set_option linter.unusedSimpArgs false
open Go.RowKit

theorem quiet_left {P : Program} {f : FuncId} {args : Array Value} {w : World} {n : Nat} {v : Value}
    (h : Calls P f args (w.drewN n) fun e w' => e = .returned v ∧ w.drewN n = w') : Calls P f args (w.drewN n) fun e w'' => e = .returned v ∧ ∃ m, w'' = w.drewN m :=
  h.mono fun _ _ ⟨he, hm⟩ => ⟨he, n, hm.symm⟩

/-- What slices.Index answers: at least 0 where the number occurs. -/
def IdxPost (B : Bool) (w : World) (e : Ending) (w' : World) : Prop := ∃ r : Int, e = .returned (.int .i64 r) ∧ decide (0 ≤ r) = B ∧ w = w'

theorem index_any (a : Option Addr) (n c L off : Nat) (v : Nat → Int) (x : Int) (B : Bool) (w : World) (h : InAt w L off a n c v) (hB : B = true ↔ ∃ i, i < n ∧ v i = x) :
    Calls Try.prog 25 #[.slice a n c, .int .i64 x] w (IdxPost B w) := by
  have hn9 : n ≤ 9223372036854775807 := by have := h.1; have := h.2.1; omega
  have HB := Lib.hid h
  have HQ := Lib.hid hB
  clear h hB
  go_enter Try.func25, Try.ntmps25
  go_wp2_with fail
  go_loop [8] (fun i => ∃ k : Nat, k ≤ n ∧ i = .int .i64 k ∧ Hid (∀ i, i < k → v i ≠ x)) (fun i => n - (intOf i).toNat)
  case atStart => exact ⟨0, Nat.zero_le _, rfl, fun i hi => by omega⟩
  case round =>
    obtain ⟨k, hk, rfl, hx⟩ := hrel
    by_cases hlt : k < n
    · obtain ⟨ha, hcell⟩ := HB.out.2.2 (by omega)
      subst ha
      have c0 := hcell k hlt
      clear hcell
      by_cases e : v k = x
      · have HT : Hid (decide (0 ≤ (k : Int)) = B) := by
          show decide (0 ≤ (k : Int)) = B
          rw [HQ.out.2 ⟨k, hlt, e⟩]; exact decide_eq_true (by omega)
        rw [e] at c0
        clear e
        go_wp2
        go_ret
        exact ⟨k, rfl, HT.out, rfl⟩
      · have HX : Hid (∀ i, i < k + 1 → v i ≠ x) := fun i hi => by
          by_cases e2 : i = k
          · rw [e2]; exact e
          · exact hx.out i (by omega)
        obtain ⟨vk, hvk⟩ : ∃ y, Hid (v k = y) := ⟨_, rfl⟩
        rw [hvk.out] at c0 e
        have e' : (x == vk) = false := beq_eq_false_iff_ne.2 (fun h => e h.symm)
        clear e
        go_wp2
        go_round
        case rel => exact ⟨k + 1, by omega, by go_num, HX⟩
        case measure => simp [intOf]; omega
    · have HT : Hid (decide (0 ≤ (-1 : Int)) = B) := by
        have : k = n := by omega
        show decide (0 ≤ (-1 : Int)) = B
        cases hb : B with
        | false => rfl
        | true =>
          obtain ⟨i, hi, e⟩ := HQ.out.1 hb
          exact absurd e (hx.out i (by omega))
      go_wp2
      go_ret
      exact ⟨-1, rfl, HT.out, rfl⟩

theorem contains_any (a : Option Addr) (n c L off : Nat) (v : Nat → Int) (x : Int) (B : Bool) (w : World) (h : InAt w L off a n c v) (hB : B = true ↔ ∃ i, i < n ∧ v i = x) :
    Calls Try.prog 21 #[.slice a n c, .int .i64 x] w fun e w' => e = .returned (.bool B) ∧ w = w' := by
  have HB := Lib.hid h
  have HQ := Lib.hid hB
  clear h hB
  go_enter Try.func21, Try.ntmps21
  go_wp2_with (go_at_call 25; refine (index_any _ _ _ _ _ _ _ _ _ HB.out HQ.out).mono ?_; rintro e w' ⟨r, rfl, hr, rfl⟩; have HR := Lib.hid hr; clear hr)
  go_ret
  exact ⟨by rw [← HR.out]; rfl, rfl⟩

theorem all_one {cs : Array Value} {g : Nat → Int} (hs : cs.size = 40) (hv : ∀ i : Nat, i < 40 → cs[i]? = some (.int .i64 (g i))) : cs.all (·.oneCell') = true := by
  refine Array.all_eq_true_iff_forall_mem.2 fun v hm => ?_
  obtain ⟨i, hi, rfl⟩ := Array.mem_iff_getElem.1 hm
  have := hv i (by omega)
  rw [Array.getElem?_eq_getElem hi] at this
  injection this with this
  rw [this]; rfl

open Classical in
/-- What Put answers. -/
noncomputable def putV (n : Nat) (F H N : Nat → Int) (b h : Int) : List Ext × Int :=
  if Right n F H N then
    if (0 ≤ b ∧ b < 40) ∧ (0 ≤ h ∧ h < 256) then
      if hm F H N n b ≠ 0 ∨ ∃ s : Nat, s < 40 ∧ hm F H N n s = h + 1 then ([], 17) else (bld (fun s => if (s : Int) = b then h + 1 else hm F H N n s) 40, 0)
    else ([], 2)
  else ([], 3)
/-- A list and an error. -/
def PutPost (w : World) (r : List Ext × Int) (e : Ending) (w' : World) : Prop := ∃ v, e = .returned (.tuple #[v, .int .i64 r.2]) ∧ ExL w' v r.1 ∧ Below w.heap.size w w'
theorem ExL.nil (w : World) : ExL w (.slice none 0 0) [] := ⟨none, 0, 0, rfl, ⟨Nat.le_refl _, by omega, fun h => absurd h (Nat.lt_irrefl _)⟩, fun h => absurd h (Nat.lt_irrefl _)⟩
theorem Arr.inAt {w : World} {b m : Nat} {t : TypeId} {v : Nat → Int} (h : Arr w b m t (fun s => .int .i64 (v s))) (hm9 : m ≤ 9223372036854775807) : InAt w b 0 (some ⟨b, 0, none⟩) m m v :=
  ⟨Nat.le_refl _, hm9, fun _ => ⟨rfl, fun i hi => by rw [Nat.zero_add]; exact h.cell hi⟩⟩

set_option maxRecDepth 100000 in
set_option maxHeartbeats 1600000 in
theorem put_any (a : Option Addr) (n c L off : Nat) (F H N : Nat → Int) (b h : Int) (w : World) (hx : ExAt w L off a n c F H N) (hb9 : -9223372036854775808 ≤ b ∧ b ≤ 9223372036854775807) (hh9 : -9223372036854775808 ≤ h ∧ h ≤ 9223372036854775807) :
    Calls Try.prog 8 #[.slice a n c, .int .i64 b, .int .i64 h] w (PutPost w (putV n F H N b h)) := by
  have HB := Lib.hid hx
  clear hx
  by_cases hr : Right n F H N
  · have HC : Hid (chk n F H N = 0) := chk_good hr
    have HR := Lib.hid hr
    by_cases hb : (0 ≤ b ∧ b < 40) ∧ (0 ≤ h ∧ h < 256)
    · have HV : Hid (putV n F H N b h = if hm F H N n b ≠ 0 ∨ ∃ s : Nat, s < 40 ∧ hm F H N n s = h + 1 then ([], 17) else (bld (fun s => if (s : Int) = b then h + 1 else hm F H N n s) 40, 0)) := by
        show _ = _; unfold putV; rw [if_pos hr, if_pos hb]
      obtain ⟨⟨hb0, hb1⟩, hh0, hh1⟩ := hb
      obtain ⟨p, rfl⟩ := Int.eq_ofNat_of_zero_le hb0
      have d1 : decide ((40 : Int) ≤ (p : Int)) = false := decide_eq_false (by omega)
      have d2 : decide (h < 0) = false := decide_eq_false (by omega)
      have d3 : decide (256 ≤ h) = false := decide_eq_false (by omega)
      have hp40 : p < 40 := by omega
      obtain ⟨Z, hZ⟩ : ∃ Z : Array Value, Hid (Z = Array.replicate 40 (.int .i64 0)) := ⟨_, rfl⟩
      have hz : ∀ w, (zeroValue 49).run Try.prog w = .ok (.agg Z) w := fun w => by rw [hZ.out]; exact zeroHomes w
      have HZ : Hid (Z.size = 40) := by show Z.size = 40; rw [hZ.out]; simp
      clear hr hb0
      go_enter Try.func8, Try.ntmps8
      go_upto_region 6 with (first
        | (go_at_call 11; refine (check_any _ _ _ _ _ _ _ _ _ HB.out).mono ?_; rintro e w1 ⟨rfl, hb⟩; rw [HC.out]; have HW1 := Lib.hid hb; clear hb)
        | (go_at_call 20; refine (homes_any _ _ _ _ _ _ _ _ _ (HB.out.below HW1.out) HR.out).mono ?_; rintro e w2 ⟨cs, rfl, hs, hv, hb⟩; have HW2 := Lib.hid hb; have HS := Lib.hid hs; have HCS := Lib.hid hv; have hst := run_storeCells_new (P := Try.prog) w2 49 Z cs (by rw [hs]; exact arrInfo) (HZ.out.trans hs.symm) (all_one hs hv); clear hb hv))
      have HG : Hid ((w2.alloc (.cells cs 49)).heap[w2.heap.size]? = some (.cells cs 49 (0, 0))) := heap_alloc_new w2 _
      have hW2 : w.heap.size ≤ w2.heap.size := Nat.le_trans HW1.out.size HW2.out.size
      have HB3 : Hid (Below w.heap.size w (w2.alloc (.cells cs 49))) := (HW1.out.trans (HW2.out.mono HW1.out.size)).alloc hW2 _
      have HW := Lib.hid hW2
      clear hst hz hs hW2
      generalize (w2.alloc (.cells cs 49)) = w3 at HG HB3 ⊢
      obtain ⟨B8, hB8⟩ : ∃ x, Hid (w2.heap.size = x) := ⟨_, rfl⟩
      rw [hB8.out] at HG HW ⊢
      have hA : Arr w3 B8 40 49 (fun s => .int .i64 (hm F H N n s)) := ⟨cs, HG.out, HS.out, HCS.out⟩
      have cp : w3.cell? ⟨B8, p, none⟩ = some (.int .i64 (hm F H N n p)) := hA.cell hp40
      have hbd := hm_bd (p : Int) HR.out.2
      have fp : w3.frozen? ⟨B8, p, none⟩ = false := hA.frozen p
      have HA := Lib.hid hA
      have HIN := Lib.hid (hA.inAt (by omega))
      clear hA
      obtain ⟨x, hx⟩ : ∃ x, Hid (hm F H N n p = x) := ⟨_, rfl⟩
      rw [hx.out] at cp hbd
      by_cases hx0 : x = 0
      · have d4 : (x != 0) = false := by rw [hx0]; rfl
        by_cases hc : ∃ i : Nat, i < 40 ∧ hm F H N n i = h + 1
        · have HX : Hid (putV n F H N p h = ([], 17)) := by
            show _ = _
            rw [HV.out, if_pos (Or.inr hc)]
          have HQ : Hid (true = true ↔ ∃ i : Nat, i < 40 ∧ hm F H N n i = h + 1) := ⟨fun _ => hc, fun _ => rfl⟩
          clear hc hx0
          go_wp2_with (go_at_call 21; refine (contains_any _ _ _ _ _ _ _ true _ HIN.out HQ.out).mono ?_; rintro e w4 ⟨rfl, rfl⟩)
          go_ret2
          exact ⟨_, by rw [HX.out]; rfl, by rw [HX.out]; exact ExL.nil _, HB3.out⟩
        · have HX : Hid (putV n F H N p h = (bld (fun s => if (s : Int) = p then h + 1 else hm F H N n s) 40, 0)) := by
            show _ = _
            rw [HV.out, if_neg (by rintro (h1 | h1); exact h1 (by rw [hx.out]; exact hx0); exact hc h1)]
          have HQ : Hid (false = true ↔ ∃ i : Nat, i < 40 ∧ hm F H N n i = h + 1) := ⟨fun h => absurd h (by decide), fun h => absurd h hc⟩
          have HG4 : Hid ((w3.setCell ⟨B8, p, none⟩ (.int .i64 (h + 1))).heap[B8]? = some (.cells (cs.setIfInBounds p (.int .i64 (h + 1))) 49 (0, 0))) := heap_setCell_same w3 B8 p cs _ _ HG.out
          have HS4 : Hid ((cs.setIfInBounds p (.int .i64 (h + 1))).size = 40) := by show _ = _; simp [HS.out]
          have HC4 : Hid (∀ i : Nat, i < 40 → (cs.setIfInBounds p (.int .i64 (h + 1)))[i]? = some (.int .i64 (if (i : Int) = p then h + 1 else hm F H N n i))) := fun i hi => by
            by_cases e : i = p
            · subst e; simp [HS.out, hi]
            · rw [Array.getElem?_setIfInBounds, if_neg (Ne.symm e), if_neg (by omega)]; exact HCS.out i hi
          have HB4 : Hid (Below w.heap.size w (w3.setCell ⟨B8, p, none⟩ (.int .i64 (h + 1)))) := HB3.out.setCell (by exact HW.out) _
          have HL : Hid (∀ s : Nat, 0 ≤ (if (s : Int) = p then h + 1 else hm F H N n s)) := fun s => by
            have := hm_bd (s : Int) HR.out.2
            split <;> omega
          have HU : Hid (∀ s : Nat, (if (s : Int) = p then h + 1 else hm F H N n s) ≤ 256) := fun s => by
            have := hm_bd (s : Int) HR.out.2
            split <;> omega
          clear hc hx0
          go_upto_region 9 with (go_at_call 21; refine (contains_any _ _ _ _ _ _ _ false _ HIN.out HQ.out).mono ?_; rintro e w4 ⟨rfl, rfl⟩)
          clear cp fp HG HIN HA
          generalize (w3.setCell ⟨B8, p, none⟩ (.int .i64 (h + 1))) = w5 at HG4 HB4 ⊢
          go_wp2_with (first
            | (refine wpList_load_row rfl 49 (.tmp 8) rfl B8 rfl 49 _ (0, 0) _ HG4.out Try.underlying49 rfl (by rw [HS4.out]; exact arrInfo) ?_)
            | (go_at_call 22; refine (runs_any _ (fun s => if (s : Int) = p then h + 1 else hm F H N n s) _ HS4.out HC4.out HL.out HU.out).mono ?_; rintro e w6 ⟨v, rfl, hv, hb⟩; have HV6 := Lib.hid hv; have HB6 := Lib.hid hb; clear hv hb))
          go_ret2
          exact ⟨v, by rw [HX.out]; rfl, by rw [HX.out]; exact HV6.out, HB4.out.trans (HB6.out.mono HB4.out.size)⟩
      · have HX : Hid (putV n F H N p h = ([], 17)) := by
          show _ = _
          rw [HV.out, if_pos (Or.inl (by rw [hx.out]; exact hx0))]
        have d4 : (x != 0) = true := by simpa using hx0
        clear hx0
        go_wp2
        go_ret2
        exact ⟨_, by rw [HX.out]; rfl, by rw [HX.out]; exact ExL.nil _, HB3.out⟩
    · have HV : Hid (putV n F H N b h = ([], 2)) := by show _ = _; unfold putV; rw [if_pos hr, if_neg hb]
      have HBn := Lib.hid hb
      clear hr hb
      go_enter Try.func8, Try.ntmps8
      go_wp2_with (go_at_call 11; refine (check_any _ _ _ _ _ _ _ _ _ HB.out).mono ?_; rintro e w1 ⟨rfl, hb⟩; rw [HC.out]; have HW1 := Lib.hid hb; clear hb)
      all_goals first
        | (go_ret2; exact ⟨_, by rw [HV.out]; rfl, by rw [HV.out]; exact ExL.nil _, HW1.out⟩)
        | (exfalso; apply HBn.out; omega)
  · have HC : Hid (chk n F H N = 3) := chk_bad hr
    have HV : Hid (putV n F H N b h = ([], 3)) := by show _ = _; unfold putV; rw [if_neg hr]
    clear hr
    go_enter Try.func8, Try.ntmps8
    go_wp2_with (go_at_call 11; refine (check_any _ _ _ _ _ _ _ _ _ HB.out).mono ?_; rintro e w1 ⟨rfl, hb⟩; rw [HC.out]; have HW1 := Lib.hid hb; clear hb)
    go_ret2
    exact ⟨_, by rw [HV.out]; rfl, by rw [HV.out]; exact ExL.nil _, HW1.out⟩
end Go.Proofs.Ytidifimhgnjomaa
