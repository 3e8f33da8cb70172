/- Walks of the reference of the layer inode: nothing; of attributes: One. -/
import Derived.Test.YtebnekpccdcnmaaIe
namespace Go.Proofs.Ytebnekpccdcnmaa
set_option linter.unusedVariables false
set_option linter.unusedSimpArgs false
open Go.RowKit

/-- Has it nothing? -/
def noneB (m u g l s : Int) (t0 t1 : Nat) (ln : ByteArray) (xn en : Nat) : Bool :=
  m == 0 && (u == 0 && (g == 0 && (l == 0 && (s == 0 && ((t0 : Int) == 0 && ((t1 : Int) == 0 && (ln.toList.isEmpty && ((xn : Int) == 0 && (en : Int) == 0))))))))
set_option maxRecDepth 100000 in
theorem nothing_any (k m u g l s : Int) (t0 t1 : Nat) (ln : ByteArray) (xa ea : Option Addr) (xn xc en ec : Nat) (w : World) :
    Calls Try.prog 25 #[(Ino.mk k m u g l s t0 t1 ln xa xn xc ea en ec).val] w fun e w' => e = .returned (.bool (noneB m u g l s t0 t1 ln xn en)) ∧ Below w.heap.size w w' := by
  unfold Ino.val
  dsimp only
  have hf := run_bits
  obtain ⟨R, hR⟩ : ∃ R, Hid (noneB m u g l s t0 t1 ln xn en = R) := ⟨_, rfl⟩
  rw [hR.out]
  go_enter Try.func25, Try.ntmps25
  go_wp2
  all_goals (go_ret; refine ⟨ret_bool rfl ?_, (Below.refl _ _).alloc (Nat.le_refl _) _⟩)
  all_goals (rw [← hR.out]; unfold noneB; clear hf; simp [*])

theorem idx_mem (c : UInt8) : ∀ l : List UInt8, (0 ≤ Lib.indexByte l c) ↔ c ∈ l
  | [] => by simp [Lib.indexByte]
  | b :: l => by
    unfold Lib.indexByte
    have ih := idx_mem c l
    have hge := Lib.indexByte_ge l c
    by_cases e : b = c
    · subst e; simp
    · have hb : (b == c) = false := by simpa using e
      rw [hb]
      simp only [Bool.false_eq_true, if_false, List.mem_cons]
      by_cases h1 : Lib.indexByte l c = -1
      · have : (Lib.indexByte l c == -1) = true := beq_iff_eq.2 h1
        rw [if_pos this]
        constructor
        · intro h; omega
        · rintro (h | h)
          · exact absurd h.symm e
          · have := ih.2 h; omega
      · have : ¬ (Lib.indexByte l c == -1) = true := fun h => h1 (beq_iff_eq.1 h)
        rw [if_neg this]
        constructor
        · intro h; exact Or.inr (ih.1 (by omega))
        · rintro (h | h)
          · exact absurd h.symm e
          · have := ih.2 h; omega
theorem data_at (s : ByteArray) (k : Nat) (h : k < s.size) : s.data.toList[k]? = some s[k] := by
  obtain ⟨⟨l⟩⟩ := s
  exact List.getElem?_eq_getElem h
/-- cloisterref16.One -/
theorem refOne_any (nm : ByteArray) (a : Option Addr) (n c : Nat) (w : World) : Calls Try.prog 52 #[.string nm, .slice a n c] w fun e w' => e = .returned (.bool (oneX nm n)) ∧ w' = w := by
  obtain ⟨R, hR⟩ : ∃ R, Hid (oneX nm n = R) := ⟨_, rfl⟩
  rw [hR.out]
  by_cases h : 1 ≤ nm.size ∧ nm.size ≤ 12 ∧ n ≤ 40
  · obtain ⟨h1, h2, h3⟩ := h
    have d1 : decide ((nm.size : Int) < 1) = false := decide_eq_false (by omega)
    have d2 : decide ((12 : Int) < (nm.size : Int)) = false := decide_eq_false (by omega)
    have d3 : decide ((40 : Int) < (n : Int)) = false := decide_eq_false (by omega)
    have HRR : Hid (R = !decide (0 ≤ Lib.indexByte nm.data.toList 0)) := by
      show _ = _
      rw [← hR.out]; unfold oneX
      rw [decide_eq_true (show (1 : Int) ≤ (nm.size : Int) by omega), decide_eq_true (show (nm.size : Int) ≤ 12 by omega), decide_eq_true (show (n : Int) ≤ 40 by omega)]
      simp
    clear h1 h3
    go_enter Try.func52, Try.ntmps52
    go_wp2_with fail
    go_loop [5] (fun i => ∃ q : Nat, q ≤ nm.size ∧ i = .int .i64 q ∧ Hid (∀ j b, j < q → nm.data.toList[j]? = some b → b ≠ 0)) (fun i => nm.size - (intOf i).toNat)
    case atStart => exact ⟨0, Nat.zero_le _, rfl, fun j b hj => by omega⟩
    case round =>
      obtain ⟨q, hq, rfl, hg⟩ := hrel
      by_cases hlq : q < nm.size
      · have HAT := Lib.hid (data_at nm q hlq)
        cases h0 : ((nm[q].toNat : Int) == 0) with
        | true =>
          have HX : Hid (R = false) := by
            have e0 : nm[q] = 0 := UInt8.toNat_inj.1 (by have := beq_iff_eq.1 h0; show nm[q].toNat = 0; omega)
            have hm : (0 : UInt8) ∈ nm.data.toList := by
              have := HAT.out; rw [e0] at this
              exact List.mem_of_getElem? this
            show _ = _
            rw [HRR.out, decide_eq_true ((idx_mem 0 _).2 hm)]; rfl
          go_wp2
          go_ret
          exact ⟨by rw [HX.out]; rfl, rfl⟩
        | false =>
          have HG : Hid (∀ j b, j < q + 1 → nm.data.toList[j]? = some b → b ≠ 0) := fun j b hj hb => by
            by_cases e : j = q
            · subst e
              rw [HAT.out] at hb
              injection hb with hb
              subst hb
              exact fun e => by rw [e] at h0; exact absurd h0 (by decide)
            · exact hg.out j b (by omega) hb
          go_wp2
          go_round
          case rel => exact ⟨q + 1, by omega, by go_num, HG⟩
          case measure => simp [intOf]; omega
      · have HX : Hid (R = true) := by
          show _ = _
          rw [HRR.out]
          have : ¬ (0 ≤ Lib.indexByte nm.data.toList 0) := fun h => by
            obtain ⟨j, hj⟩ := List.mem_iff_getElem?.1 ((idx_mem 0 _).1 h)
            have hjl := (List.getElem?_eq_some_iff.1 hj).1
            have hl : nm.data.toList.length = nm.size := rfl
            exact hg.out j 0 (by omega) hj rfl
          rw [decide_eq_false this]; rfl
        go_wp2
        go_ret
        exact ⟨by rw [HX.out]; rfl, rfl⟩
  · have HX : Hid (R = false) := by
      show _ = _
      rw [← hR.out]; unfold oneX
      simp
      intros; omega
    rcases (show nm.size < 1 ∨ (1 ≤ nm.size ∧ 12 < nm.size) ∨ (1 ≤ nm.size ∧ nm.size ≤ 12 ∧ 40 < n) by omega) with h1 | ⟨h1, h2⟩ | ⟨h1, h2, h3⟩
    · have d1 : decide ((nm.size : Int) < 1) = true := decide_eq_true (by omega)
      clear h h1
      go_enter Try.func52, Try.ntmps52
      go_wp2
      go_ret
      exact ⟨by rw [HX.out]; rfl, rfl⟩
    · have d1 : decide ((nm.size : Int) < 1) = false := decide_eq_false (by omega)
      have d2 : decide ((12 : Int) < (nm.size : Int)) = true := decide_eq_true (by omega)
      clear h h1 h2
      go_enter Try.func52, Try.ntmps52
      go_wp2
      go_ret
      exact ⟨by rw [HX.out]; rfl, rfl⟩
    · have d1 : decide ((nm.size : Int) < 1) = false := decide_eq_false (by omega)
      have d2 : decide ((12 : Int) < (nm.size : Int)) = false := decide_eq_false (by omega)
      have d3 : decide ((40 : Int) < (n : Int)) = true := decide_eq_true (by omega)
      clear h h1 h2 h3
      go_enter Try.func52, Try.ntmps52
      go_wp2
      go_ret
      exact ⟨by rw [HX.out]; rfl, rfl⟩
end Go.Proofs.Ytebnekpccdcnmaa
