/- Walks of the layer inode: attributes in memory; xattr.Check. -/
import Derived.Test.YtebnekpccdcnmaaIb
import Derived.Deep.DeepCutAuto
import Derived.Deep.CutBlock
import Derived.Deep.QuietTactic
import Derived.BigQuiet
import Derived.IntWalk
namespace Go.Proofs.Ytebnekpccdcnmaa
set_option linter.unusedVariables false
set_option linter.unusedSimpArgs false
open Go.RowKit

/-- n attributes lie in a slice: the name, and the value's slice, of each. -/
def XaAt (w : World) (L off : Nat) (a : Option Addr) (n c : Nat) (N : Nat → ByteArray) (VA : Nat → Option Addr) (VN VC : Nat → Nat) : Prop :=
  n ≤ c ∧ c ≤ 9223372036854775807 ∧ (0 < n → a = some ⟨L, off, none⟩ ∧ ∀ i, i < n → w.cell? ⟨L, off + i * 2, none⟩ = some (.string (N i)) ∧ w.cell? ⟨L, off + i * 2 + 1, none⟩ = some (.slice (VA i) (VN i) (VC i)))
theorem XaAt.lt {w : World} {L off n c : Nat} {a : Option Addr} {N : Nat → ByteArray} {VA : Nat → Option Addr} {VN VC : Nat → Nat} (h : XaAt w L off a n c N VA VN VC) (hn : 0 < n) : L < w.heap.size :=
  World.block_lt_of_cell? w _ ((h.2.2 hn).2 0 hn).1
theorem XaAt.below {w w' : World} {L off n c : Nat} {a : Option Addr} {N : Nat → ByteArray} {VA : Nat → Option Addr} {VN VC : Nat → Nat} (h : XaAt w L off a n c N VA VN VC) (hb : Below w.heap.size w w') : XaAt w' L off a n c N VA VN VC :=
  ⟨h.1, h.2.1, fun hn => ⟨(h.2.2 hn).1, fun i hi => by
    obtain ⟨h1, h2⟩ := (h.2.2 hn).2 i hi
    rw [hb.cell (p := ⟨L, off + i * 2, none⟩) (h.lt hn), hb.cell (p := ⟨L, off + i * 2 + 1, none⟩) (h.lt hn)]
    exact ⟨h1, h2⟩⟩⟩
/-- Are the first j right? -/
def XGood (j : Nat) (N : Nat → ByteArray) (VN : Nat → Nat) : Prop := ∀ i, i < j → oneX (N i) (VN i) = true ∧ ∀ i', i' + 1 = i → Op.bytesLess (N i').toList (N i).toList = true
theorem XGood.zero (N : Nat → ByteArray) (VN : Nat → Nat) : XGood 0 N VN := fun i hi => absurd hi (Nat.not_lt_zero _)
theorem XGood.next {j : Nat} {N : Nat → ByteArray} {VN : Nat → Nat} (h : XGood j N VN) (h1 : oneX (N j) (VN j) = true) (h2 : ∀ i', i' + 1 = j → Op.bytesLess (N i').toList (N j).toList = true) : XGood (j + 1) N VN := by
  intro i hi
  by_cases e : i = j
  · subst e; exact ⟨h1, h2⟩
  · exact h i (by omega)
theorem XGood.bad {n j : Nat} {N : Nat → ByteArray} {VN : Nat → Nat} (hj : j < n) (h1 : oneX (N j) (VN j) = false) : ¬ XGood n N VN := fun h => by
  have := (h j hj).1; rw [h1] at this; cases this
theorem XGood.bad2 {n j : Nat} {N : Nat → ByteArray} {VN : Nat → Nat} (hj : j + 1 < n) (h1 : Op.bytesLess (N j).toList (N (j + 1)).toList = false) : ¬ XGood n N VN := fun h => by
  have := (h (j + 1) hj).2 j rfl; rw [h1] at this; cases this
open Classical in
/-- Is the list right? -/
noncomputable def xrgt (n : Nat) (N : Nat → ByteArray) (VN : Nat → Nat) : Bool := if n ≤ 4 ∧ XGood n N VN then true else false
theorem xrgt_bad {n : Nat} {N : Nat → ByteArray} {VN : Nat → Nat} (h : ¬ (n ≤ 4 ∧ XGood n N VN)) : xrgt n N VN = false := by unfold xrgt; rw [if_neg h]
theorem xrgt_good {n : Nat} {N : Nat → ByteArray} {VN : Nat → Nat} (h : n ≤ 4 ∧ XGood n N VN) : xrgt n N VN = true := by unfold xrgt; rw [if_pos h]

set_option maxRecDepth 100000 in
set_option maxHeartbeats 1600000 in
theorem xcheck_any (a : Option Addr) (n c L off : Nat) (N : Nat → ByteArray) (VA : Nat → Option Addr) (VN VC : Nat → Nat) (w : World) (h : XaAt w L off a n c N VA VN VC) :
    Calls Try.prog 23 #[.slice a n c] w fun e w' => e = .returned (.int .i64 (if xrgt n N VN = true then 0 else 3)) ∧ Below w.heap.size w w' := by
  have HB := Lib.hid h
  have hn9 : n ≤ 9223372036854775807 := by have := h.1; have := h.2.1; omega
  clear h
  obtain ⟨R, hR⟩ : ∃ R : Int, Hid ((if xrgt n N VN = true then (0 : Int) else 3) = R) := ⟨_, rfl⟩
  rw [hR.out]
  by_cases h4 : 4 < n
  · have HX : Hid (R = 3) := by show _ = _; rw [← hR.out, xrgt_bad (fun h => by have := h.1; omega)]; rfl
    go_enter Try.func23, Try.ntmps23
    go_wp2
    go_ret
    exact ⟨by rw [HX.out]; rfl, Below.refl _ _⟩
  · have HN4 : Hid (n ≤ 4) := by show n ≤ 4; omega
    go_enter Try.func23, Try.ntmps23
    go_wp2_with fail
    go_loopw [10] (fun i wr => ∃ j : Nat, j ≤ n ∧ i = .int .i64 j ∧ Hid (Below w.heap.size w wr) ∧ Hid (XGood j N VN)) (fun i _ => n - (intOf i).toNat)
    case atStart => exact ⟨0, Nat.zero_le _, rfl, Below.refl _ _, XGood.zero N VN⟩
    case round =>
      obtain ⟨j, hj, rfl, hc, hg⟩ := hrel
      by_cases hlt : j < n
      · have HBr := Lib.hid (HB.out.below hc.out)
        obtain ⟨ha, hcell⟩ := HBr.out.2.2 (by omega)
        subst ha
        obtain ⟨c0, c1⟩ := hcell j hlt
        obtain ⟨p, hp⟩ : ∃ p, Hid (N j = p) := ⟨_, rfl⟩
        obtain ⟨vn, hvn⟩ : ∃ x, Hid (VN j = x) := ⟨_, rfl⟩
        obtain ⟨va, hva⟩ : ∃ x, Hid (VA j = x) := ⟨_, rfl⟩
        obtain ⟨vc, hvc⟩ : ∃ x, Hid (VC j = x) := ⟨_, rfl⟩
        rw [hp.out] at c0
        rw [hvn.out, hva.out, hvc.out] at c1
        cases ho : oneX p vn with
        | false =>
          have HX : Hid (R = 3) := by show _ = _; rw [← hR.out, xrgt_bad (fun h => XGood.bad hlt (by rw [hp.out, hvn.out]; exact ho) h.2)]; rfl
          have ho' : ∀ w : World, Calls Try.prog 48 #[.string p, .slice va vn vc] w fun e w' => e = .returned (.bool false) ∧ w' = w := fun w => (oneX_any p va vn vc w).mono fun e w' h => ⟨by rw [h.1, ho], h.2.symm⟩
          have HO := Lib.hid ho'
          clear hcell ho ho'
          go_wp2_with fail
          go_quiet (first | (go_at_call 48; exact Calls.quiet_of_same (HO.out _)))
          go_wp2
          go_ret
          exact ⟨by rw [HX.out]; rfl, below_drewN (hc.out.alloc hc.out.size _) _⟩
        | true =>
          have ho' : ∀ w : World, Calls Try.prog 48 #[.string p, .slice va vn vc] w fun e w' => e = .returned (.bool true) ∧ w' = w := fun w => (oneX_any p va vn vc w).mono fun e w' h => ⟨by rw [h.1, ho], h.2.symm⟩
          have HO := Lib.hid ho'
          have HO1 := Lib.hid ho
          clear ho ho'
          rcases (show j = 0 ∨ ∃ i, Hid (i + 1 = j) from by
            cases j with
            | zero => exact Or.inl rfl
            | succ i => exact Or.inr ⟨i, rfl⟩) with rfl | ⟨i, hij⟩
          · have HG1 : Hid (XGood (0 + 1) N VN) := hg.out.next (by rw [hp.out, hvn.out]; exact HO1.out) (fun i hi => by omega)
            clear hcell
            rw [Nat.zero_mul, Nat.add_zero] at c0 c1
            go_wp2_with fail
            go_quiet (first | (go_at_call 48; exact Calls.quiet_of_same (HO.out _)))
            go_wp2
            go_roundw
            case rel => exact ⟨0 + 1, by omega, by go_num, below_drewN (hc.out.alloc hc.out.size _) _, HG1⟩
            case measure => simp [intOf]; omega
          · have hij' := hij.out
            obtain ⟨d0, _⟩ := hcell i (by omega)
            obtain ⟨p', hp'⟩ : ∃ p, Hid (N i = p) := ⟨_, rfl⟩
            rw [hp'.out] at d0
            have j0 : 0 < j := by omega
            have j1 : (j : Int) - 1 = (i : Int) := by omega
            have j2 : (i : Int) < (n : Int) := by omega
            have hj1 : j + 1 ≤ n := by omega
            have d1 : (wr.alloc (.cells #[.string p, .slice va vn vc] 60)).cell? ⟨L, off + i * 2, none⟩ = some (.string p') := by
              rw [((Below.refl wr.heap.size wr).alloc (Nat.le_refl _) _).cell (p := ⟨L, off + i * 2, none⟩) (World.block_lt_of_cell? wr _ d0)]; exact d0
            have j4 : IntKind.i64.wrap (i : Int) = (i : Int) := IntWalk.i64_in _ (by omega)
            clear hij'
            clear hcell
            cases hb : Op.bytesLess p'.toList p.toList with
            | true =>
              have HG1 : Hid (XGood (j + 1) N VN) := hg.out.next (by rw [hp.out, hvn.out]; exact HO1.out) (fun i' hi => by
                have := hij.out
                obtain rfl : i' = i := by omega
                rw [hp.out, hp'.out]; exact hb)
              go_wp2_with fail
              go_quiet (first | (go_at_call 48; exact Calls.quiet_of_same (HO.out _)))
              go_wp2
              go_roundw
              case rel => exact ⟨j + 1, hj1, by go_num, below_drewN (hc.out.alloc hc.out.size _) _, HG1⟩
              case measure => simp [intOf]; omega
            | false =>
              have HX : Hid (R = 3) := by show _ = _; rw [← hR.out, xrgt_bad (fun h => XGood.bad2 (j := i) (by rw [hij.out]; exact hlt) (by rw [hij.out, hp.out, hp'.out]; exact hb) h.2)]; rfl
              go_wp2_with fail
              go_quiet (first | (go_at_call 48; exact Calls.quiet_of_same (HO.out _)))
              go_wp2
              go_ret
              exact ⟨by rw [HX.out]; rfl, below_drewN (hc.out.alloc hc.out.size _) _⟩
      · obtain rfl : j = n := by omega
        have HX : Hid (R = 0) := by show _ = _; rw [← hR.out, xrgt_good ⟨HN4.out, hg.out⟩]; rfl
        go_wp2
        go_ret
        exact ⟨by rw [HX.out]; rfl, hc.out⟩
end Go.Proofs.Ytebnekpccdcnmaa
