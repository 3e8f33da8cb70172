/- Walks of the layer alloc: Count, Groups, places, tally, on either side. -/
import Derived.Test.YteonlidamonbgaaAp
import Derived.Lib.Hide
import Derived.Deep.AppendLies
namespace Go.Proofs.Yteonlidamonbgaa
set_option linter.unusedVariables false
set_option linter.unusedSimpArgs false
open Go.RowKit Fl

/-- A slice of n places: f i of each. -/
def BlF (w : World) (L off : Nat) (a : Option Addr) (n c : Nat) (f : Nat → Bool) : Prop :=
  n ≤ c ∧ c ≤ 9223372036854775807 ∧ (0 < n → a = some ⟨L, off, none⟩ ∧ ∀ i, i < n → w.cell? ⟨L, off + i, none⟩ = some (.bool (f i)))
theorem BlF.lt {w : World} {L off n c : Nat} {a : Option Addr} {f : Nat → Bool} (h : BlF w L off a n c f) (hn : 0 < n) : L < w.heap.size :=
  World.block_lt_of_cell? w _ ((h.2.2 hn).2 0 hn)
theorem BlF.below {w w' : World} {L off n c : Nat} {a : Option Addr} {f : Nat → Bool} (h : BlF w L off a n c f) (hb : Below w.heap.size w w') : BlF w' L off a n c f :=
  ⟨h.1, h.2.1, fun hn => ⟨(h.2.2 hn).1, fun i hi => by rw [hb.cell (p := ⟨L, off + i, none⟩) (h.lt hn)]; exact (h.2.2 hn).2 i hi⟩⟩
theorem BlF.grown {w w' : World} {L off n c : Nat} {a : Option Addr} {f : Nat → Bool} {R : Option Nat} (h : BlF w L off a n c f) (hb : w.grownBy w' R) (hR : 0 < n → some L ≠ R) : BlF w' L off a n c f :=
  ⟨h.1, h.2.1, fun hn => ⟨(h.2.2 hn).1, fun i hi => by rw [hb.cell_far ⟨L, off + i, none⟩ (h.lt hn) (hR hn)]; exact (h.2.2 hn).2 i hi⟩⟩
theorem BlF.part {w : World} {L off n c : Nat} {a : Option Addr} {f : Nat → Bool} (h : BlF w L off a n c f) (k m : Nat) (hk : k + m ≤ n) (hm : 0 < m) : BlF w L (off + k) (a.map fun x => x.add k) m (c - k) (fun i => f (k + i)) := by
  obtain ⟨h1, h2, h3⟩ := h
  refine ⟨by omega, by omega, fun _ => ?_⟩
  obtain ⟨rfl, h4⟩ := h3 (by omega)
  refine ⟨?_, fun i hi => ?_⟩
  · simp only [Option.map_some]
    congr 1
    unfold Addr.add
    by_cases e : k = 0 <;> simp [e]
  · rw [Nat.add_assoc]; exact h4 (k + i) (by omega)

theorem count_any (a : Option Addr) (n c L off : Nat) (f : Nat → Bool) (w : World) (h : BlF w L off a n c f) :
    Calls Try.prog 8 #[.slice a n c] w fun e w' => e = .returned (.int .i64 (cntTo f 0 n)) ∧ w = w' := by
  have HB := Lib.hid h
  have hn9 : n ≤ 9223372036854775807 := by have := h.1; have := h.2.1; omega
  clear h
  go_enter Try.func8, Try.ntmps8
  go_wp2
  go_loop [3, 8] (fun v i => ∃ k q : Nat, k ≤ n ∧ q ≤ k ∧ i = .int .i64 k ∧ v = .int .i64 q ∧ Hid (q = cntTo f 0 k)) (fun _ i => n - (intOf i).toNat)
  case atStart => exact ⟨0, 0, Nat.zero_le _, Nat.le_refl _, rfl, rfl, rfl⟩
  case round =>
    obtain ⟨k, q, hk, hqk, rfl, rfl, hq⟩ := hrel
    by_cases hlt : k < n
    · obtain ⟨rfl, hcell⟩ := HB.out.2.2 (by omega)
      have hc := hcell k hlt
      clear hcell
      have HS : Hid (cntTo f 0 (k + 1) = cntTo f 0 k + (f k).toNat) := by show cntTo f 0 (k + 1) = _; rw [cntTo, Nat.zero_add]
      cases hf : f k
      · rw [hf] at hc HS
        have HF := Lib.hid hf
        clear hf
        go_wp2
        go_round
        case rel => exact ⟨k + 1, q, by omega, by omega, by go_num, rfl, by rw [HS.out]; exact hq.out⟩
        case measure => simp [intOf]; omega
      · rw [hf] at hc HS
        have HF := Lib.hid hf
        clear hf
        go_wp2
        go_round
        case rel => exact ⟨k + 1, q + 1, by omega, by omega, by go_num, by go_num, by rw [HS.out, ← hq.out]; rfl⟩
        case measure => simp [intOf]; omega
    · have hkn : k = n := by omega
      go_wp2
      go_ret
      exact ⟨by rw [hq.out, hkn]; rfl, rfl⟩

theorem refCount_any (a : Option Addr) (n c L off : Nat) (f : Nat → Bool) (w : World) (h : BlF w L off a n c f) :
    Calls Try.prog 15 #[.slice a n c] w fun e w' => e = .returned (.int .i64 (cntTo f 0 n)) ∧ w = w' := by
  have HB := Lib.hid h
  have hn9 : n ≤ 9223372036854775807 := by have := h.1; have := h.2.1; omega
  clear h
  go_enter Try.func15, Try.ntmps15
  go_wp2
  go_loop [3, 4] (fun v i => ∃ k q : Nat, k ≤ n ∧ q ≤ k ∧ i = .int .i64 k ∧ v = .int .i64 q ∧ Hid (q = cntTo f 0 k)) (fun _ i => n - (intOf i).toNat)
  case atStart => exact ⟨0, 0, Nat.zero_le _, Nat.le_refl _, rfl, rfl, rfl⟩
  case round =>
    obtain ⟨k, q, hk, hqk, rfl, rfl, hq⟩ := hrel
    by_cases hlt : k < n
    · obtain ⟨rfl, hcell⟩ := HB.out.2.2 (by omega)
      have hc := hcell k hlt
      clear hcell
      have HS : Hid (cntTo f 0 (k + 1) = cntTo f 0 k + (f k).toNat) := by show cntTo f 0 (k + 1) = _; rw [cntTo, Nat.zero_add]
      cases hf : f k
      · rw [hf] at hc HS
        have HF := Lib.hid hf
        clear hf
        go_wp2
        go_round
        case rel => exact ⟨k + 1, q, by omega, by omega, by go_num, rfl, by rw [HS.out]; exact hq.out⟩
        case measure => simp [intOf]; omega
      · rw [hf] at hc HS
        have HF := Lib.hid hf
        clear hf
        go_wp2
        go_round
        case rel => exact ⟨k + 1, q + 1, by omega, by omega, by go_num, by go_num, by rw [HS.out, ← hq.out]; rfl⟩
        case measure => simp [intOf]; omega
    · have hkn : k = n := by omega
      go_wp2
      go_ret
      exact ⟨by rw [hq.out, hkn]; rfl, rfl⟩

theorem groups_any (a : Option Addr) (n c : Nat) (w : World) (hn : n ≤ 140737488351232) :
    Calls Try.prog 10 #[.slice a n c] w fun e w' => e = .returned (.int .i64 ((n + 7) / 8 : Nat)) ∧ w = w' := by
  go_enter Try.func10, Try.ntmps10
  go_wp2
  go_ret
  refine ⟨?_, rfl⟩
  show Ending.returned (Value.int .i64 (((n : Int) + 8 - 1) / 8)) = _
  congr 2
  omega

theorem refGroups_any (a : Option Addr) (n c : Nat) (w : World) (hn : n ≤ 140737488351232) :
    Calls Try.prog 14 #[.slice a n c] w fun e w' => e = .returned (.int .i64 ((n + 7) / 8 : Nat)) ∧ w = w' := by
  go_enter Try.func14, Try.ntmps14
  go_wp2
  go_loop [3] (fun i => ∃ k : Nat, k ≤ (n + 7) / 8 ∧ i = .int .i64 k) (fun i => (n + 7) / 8 - (intOf i).toNat)
  case atStart => exact ⟨0, Nat.zero_le _, rfl⟩
  case round =>
    obtain ⟨k, hk, rfl⟩ := hrel
    by_cases hlt : 8 * k < n
    · have hk9 : k ≤ 17592186043904 := by omega
      go_wp2
      go_round
      case rel => exact ⟨k + 1, by omega, by go_num⟩
      case measure => simp [intOf]; omega
    · have hkn : k = (n + 7) / 8 := by omega
      have hk9 : k ≤ 17592186043904 := by omega
      have HK := Lib.hid hkn
      clear hkn hk
      go_wp2
      go_ret
      exact ⟨by rw [HK.out]; rfl, rfl⟩

theorem places_any (a : Option Addr) (n c L off g : Nat) (f : Nat → Bool) (w : World) (h : BlF w L off a n c f) (hn : n ≤ 140737488351232) (hg : 8 * g < n) :
    Calls Try.prog 19 #[.slice a n c, .int .i64 g] w fun e w' => (∃ c', e = .returned (.slice (some ⟨L, off + 8 * g, none⟩) (gsz n g) c') ∧ BlF w L (off + 8 * g) (some ⟨L, off + 8 * g, none⟩) (gsz n g) c' (fun i => f (8 * g + i))) ∧ w = w' := by
  obtain ⟨h1, h2⟩ := gsz_pos hg
  have hp := h.part (8 * g) (gsz n g) h2 h1
  have ha := (h.2.2 (by omega)).1
  have hc := h.1
  subst ha
  have e1 : (Option.map (fun x : Addr => x.add (8 * g)) (some ⟨L, off, none⟩)) = some ⟨L, off + 8 * g, none⟩ := (hp.2.2 h1).1
  rw [e1] at hp
  have HP := Lib.hid hp
  have HE := Lib.hid e1
  have hg9 : g ≤ 17592186043904 := by omega
  have b1 : (g : Int) * 8 ≤ (n : Int) := by omega
  clear h hp e1
  by_cases hm : n ≤ 8 * g + 8
  · have hs : gsz n g = n - 8 * g := by unfold gsz; omega
    go_enter Try.func19, Try.ntmps19
    go_wp2
    go_ret
    refine ⟨⟨c - 8 * g, ?_, HP.out⟩, rfl⟩
    rw [hs, Nat.mul_comm 8 g]; rfl
  · have hs : gsz n g = 8 := by unfold gsz; omega
    have b2 : ((g : Int) + 1) * 8 ≤ (n : Int) := by omega
    have b3 : ((g : Int) + 1) * 8 ≤ (c : Int) := by omega
    go_enter Try.func19, Try.ntmps19
    go_wp2
    go_ret
    refine ⟨⟨c - 8 * g, ?_, HP.out⟩, rfl⟩
    show Ending.returned (Value.slice (some ⟨L, off + g * 8, none⟩) ((g + 1) * 8 - g * 8) (c - g * 8)) = _
    rw [hs, Nat.mul_comm 8 g, show (g + 1) * 8 - g * 8 = 8 by omega]

/-- cloisterref14.tally -/
theorem tally_any (a : Option Addr) (n c L off g : Nat) (f : Nat → Bool) (w : World) (h : BlF w L off a n c f) (hn : n ≤ 140737488351232) (hg : 8 * g < n) :
    Calls Try.prog 21 #[.slice a n c, .int .i64 g] w fun e w' => (∃ r, e = .returned (.tuple #[.int .i64 (nn f n g), .int .i64 (uu f n g), .int .i64 r]) ∧ FstIs f (8 * g) (8 * g + gsz n g) r) ∧ w = w' := by
  have HB := Lib.hid h
  have HGS := Lib.hid (gsz_pos hg)
  have hg9 : g ≤ 17592186043904 := by omega
  obtain ⟨m, hm⟩ : ∃ m, Hid (gsz n g = m) := ⟨_, rfl⟩
  have hm8 : m ≤ 8 := by rw [← hm.out]; exact gsz_le n g
  have hmn : 8 * g + m ≤ n := by rw [← hm.out]; exact HGS.out.2
  have HMX : Hid (m = 8 ∨ 8 * g + m = n) := by have := hm.out; unfold gsz at this; show _ ∨ _; omega
  have ha := (h.2.2 (by omega)).1
  subst ha
  have hcell := Lib.hid (h.2.2 (by omega)).2
  clear h
  go_enter Try.func21, Try.ntmps21
  go_wp2
  go_loop [7, 8, 9, 10] (fun v u x i => ∃ k q : Nat, ∃ r : Int, k ≤ m ∧ q ≤ k ∧ i = .int .i64 (8 * (g : Int) + (k : Int)) ∧ v = .int .i64 q ∧ u = .int .i64 ((k - q : Nat) : Int) ∧ x = .int .i64 r ∧ Hid (q = cntTo f (8 * g) k ∧ FstIs f (8 * g) (8 * g + k) r)) (fun _ _ _ i => m - (intOf i - 8 * (g : Int)).toNat)
  case atStart => exact ⟨0, 0, -1, Nat.zero_le _, Nat.le_refl _, by simp, rfl, rfl, rfl, rfl, Or.inl ⟨rfl, fun t h1 h2 => absurd h2 (by omega)⟩⟩
  case round =>
    obtain ⟨k, q, r, hk, hqk, rfl, rfl, rfl, rfl, hq⟩ := hrel
    by_cases hlt : k < m
    · have b1 : 8 * (g : Int) + (k : Int) < 8 * (g : Int) + 8 := by omega
      have b2 : 8 * (g : Int) + (k : Int) < (n : Int) := by omega
      have hc : w.cell? ⟨L, off + (8 * g + k), none⟩ = some (.bool (f (8 * g + k))) := hcell.out _ (by omega)
      have HS : Hid (cntTo f (8 * g) (k + 1) = cntTo f (8 * g) k + (f (8 * g + k)).toNat) := by show cntTo f _ (k + 1) = _; rw [cntTo]
      cases hf : f (8 * g + k)
      · rw [hf] at hc HS
        have HF := Lib.hid hf
        clear hf
        go_wp2
        go_round
        case rel => exact ⟨k + 1, q, r, by omega, by omega, by simp; omega, rfl, by simp; omega, rfl, by rw [HS.out, ← hq.out.1]; rfl, hq.out.2.next_no HF.out⟩
        case measure => simp [intOf]; omega
      · rw [hf] at hc HS
        have HF := Lib.hid hf
        clear hf
        rcases hq.out.2.some_pos with hr | hr
        · subst hr
          go_wp2
          go_round
          case rel => exact ⟨k + 1, q + 1, (8 * g + k : Nat), by omega, by omega, by simp; omega, by go_num, by simp, by simp, by rw [HS.out, ← hq.out.1]; rfl, hq.out.2.next_first rfl (by omega) HF.out⟩
          case measure => simp [intOf]; omega
        · have hr' : ¬ r < 0 := by omega
          have HR : Hid (r ≠ -1) := by show r ≠ -1; omega
          clear hr
          go_wp2
          go_round
          case rel => exact ⟨k + 1, q + 1, r, by omega, by omega, by simp; omega, by go_num, by simp, rfl, by rw [HS.out, ← hq.out.1]; rfl, hq.out.2.next_have HR.out⟩
          case measure => simp [intOf]; omega
    · have hkm : k = m := by omega
      subst hkm
      have HE1 : Hid (q = nn f n g) := by show q = nn f n g; unfold nn; rw [hm.out]; exact hq.out.1
      have HE2 : Hid (k - q = uu f n g) := by show k - q = uu f n g; unfold uu; rw [hm.out, ← HE1.out]
      have HE3 := Lib.hid hq.out.2
      rw [← hm.out] at HE3
      clear hq
      rcases HMX.out with h8 | h8
      · have b1 : ¬ k < 8 := by omega
        clear hm HMX hmn h8
        go_wp2
        go_ret3
        exact ⟨⟨r, by rw [← HE1.out, ← HE2.out]; rfl, HE3.out⟩, rfl⟩
      · have b1 : decide (8 * (g : Int) + (k : Int) < (n : Int)) = false := decide_eq_false (by omega)
        clear hm HMX hmn h8
        by_cases h88 : k < 8
        · have b2 : decide (8 * (g : Int) + (k : Int) < 8 * (g : Int) + 8) = true := decide_eq_true (by omega)
          go_wp2
          go_ret3
          exact ⟨⟨r, by rw [← HE1.out, ← HE2.out]; rfl, HE3.out⟩, rfl⟩
        · have b2 : decide (8 * (g : Int) + (k : Int) < 8 * (g : Int) + 8) = false := decide_eq_false (by omega)
          go_wp2
          go_ret3
          exact ⟨⟨r, by rw [← HE1.out, ← HE2.out]; rfl, HE3.out⟩, rfl⟩
end Go.Proofs.Yteonlidamonbgaa
