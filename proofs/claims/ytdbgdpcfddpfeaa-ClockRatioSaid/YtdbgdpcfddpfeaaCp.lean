/- The walks over the layer clock: the references' order, later, from, tick, ratio. -/
import Derived.Test.YtdbgdpcfddpfeaaCo
namespace Go.Proofs.Ytdbgdpcfddpfeaa
set_option linter.unusedVariables false
open Go.RowKit Fl

theorem rank_w (a : Nat) (w : World) (ha : Hid (W a)) (r : Int) (h : Hid (rankW a = r)) : Calls Try.prog 29 #[.int .u64 a] w fun e w' => e = .returned (.int .i64 r) ∧ w = w' := by
  rw [← h.out]; exact rank_any a w ha

/-- cloisterref05.Order -/
theorem refOrder_any (a b : Nat) (w : World) (ha : Hid (W a)) (hb : Hid (W b)) : Calls Try.prog 21 #[.float .f64 a, .float .f64 b] w fun e w' => e = .returned (.int .i64 (ordW a b)) ∧ w = w' := by
  have hf := run_bits
  cases h1 : nanW a <;> cases h2 : nanW b
  · by_cases c1 : rankW a < rankW b
    · have H : Hid (ordW a b = -1) := by unfold ordW Hid; rw [if_neg (by simp [h1]), if_neg (by simp [h2]), if_pos c1]
      have H1 : Hid (nanW a = false) := h1
      have H2 : Hid (nanW b = false) := h2
      clear h1 h2
      obtain ⟨ra, R1⟩ : ∃ r, Hid (rankW a = r) := ⟨_, rfl⟩
      obtain ⟨rb, R2⟩ : ∃ r, Hid (rankW b = r) := ⟨_, rfl⟩
      rw [R1.out, R2.out] at c1
      go_enter Try.func21, Try.ntmps21
      go_wp2_with (first | (go_at_call 25; first | (refine (refNaN_w a _ ha false H1).mono ?_; rintro e w' ⟨rfl, rfl⟩) | (refine (refNaN_w b _ hb false H2).mono ?_; rintro e w' ⟨rfl, rfl⟩)) | (go_at_call 29; first | ((with_reducible refine (rank_w a _ ha _ R1).mono ?_); rintro e w' ⟨rfl, rfl⟩) | ((with_reducible refine (rank_w b _ hb _ R2).mono ?_); rintro e w' ⟨rfl, rfl⟩)))
      go_ret
      exact ret_eq (congrArg (Value.int .i64) H.out.symm)
    · by_cases c2 : rankW b < rankW a
      · have H : Hid (ordW a b = 1) := by unfold ordW Hid; rw [if_neg (by simp [h1]), if_neg (by simp [h2]), if_neg c1, if_pos c2]
        have H1 : Hid (nanW a = false) := h1
        have H2 : Hid (nanW b = false) := h2
        clear h1 h2
        obtain ⟨ra, R1⟩ : ∃ r, Hid (rankW a = r) := ⟨_, rfl⟩
        obtain ⟨rb, R2⟩ : ∃ r, Hid (rankW b = r) := ⟨_, rfl⟩
        rw [R1.out, R2.out] at c1
        rw [R1.out, R2.out] at c2
        go_enter Try.func21, Try.ntmps21
        go_wp2_with (first | (go_at_call 25; first | (refine (refNaN_w a _ ha false H1).mono ?_; rintro e w' ⟨rfl, rfl⟩) | (refine (refNaN_w b _ hb false H2).mono ?_; rintro e w' ⟨rfl, rfl⟩)) | (go_at_call 29; first | ((with_reducible refine (rank_w a _ ha _ R1).mono ?_); rintro e w' ⟨rfl, rfl⟩) | ((with_reducible refine (rank_w b _ hb _ R2).mono ?_); rintro e w' ⟨rfl, rfl⟩)))
        go_ret
        exact ret_eq (congrArg (Value.int .i64) H.out.symm)
      · have H : Hid (ordW a b = 0) := by unfold ordW Hid; rw [if_neg (by simp [h1]), if_neg (by simp [h2]), if_neg c1, if_neg c2]
        have H1 : Hid (nanW a = false) := h1
        have H2 : Hid (nanW b = false) := h2
        clear h1 h2
        obtain ⟨ra, R1⟩ : ∃ r, Hid (rankW a = r) := ⟨_, rfl⟩
        obtain ⟨rb, R2⟩ : ∃ r, Hid (rankW b = r) := ⟨_, rfl⟩
        rw [R1.out, R2.out] at c1
        rw [R1.out, R2.out] at c2
        go_enter Try.func21, Try.ntmps21
        go_wp2_with (first | (go_at_call 25; first | (refine (refNaN_w a _ ha false H1).mono ?_; rintro e w' ⟨rfl, rfl⟩) | (refine (refNaN_w b _ hb false H2).mono ?_; rintro e w' ⟨rfl, rfl⟩)) | (go_at_call 29; first | ((with_reducible refine (rank_w a _ ha _ R1).mono ?_); rintro e w' ⟨rfl, rfl⟩) | ((with_reducible refine (rank_w b _ hb _ R2).mono ?_); rintro e w' ⟨rfl, rfl⟩)))
        go_ret
        exact ret_eq (congrArg (Value.int .i64) H.out.symm)
  · have H : Hid (ordW a b = -1) := by unfold ordW Hid; rw [if_neg (by simp [h1]), if_pos h2]
    have H1 : Hid (nanW a = false) := h1
    have H2 : Hid (nanW b = true) := h2
    clear h1 h2
    obtain ⟨ra, R1⟩ : ∃ r, Hid (rankW a = r) := ⟨_, rfl⟩
    obtain ⟨rb, R2⟩ : ∃ r, Hid (rankW b = r) := ⟨_, rfl⟩
    go_enter Try.func21, Try.ntmps21
    go_wp2_with (first | (go_at_call 25; first | (refine (refNaN_w a _ ha false H1).mono ?_; rintro e w' ⟨rfl, rfl⟩) | (refine (refNaN_w b _ hb true H2).mono ?_; rintro e w' ⟨rfl, rfl⟩)) | (go_at_call 29; first | ((with_reducible refine (rank_w a _ ha _ R1).mono ?_); rintro e w' ⟨rfl, rfl⟩) | ((with_reducible refine (rank_w b _ hb _ R2).mono ?_); rintro e w' ⟨rfl, rfl⟩)))
    go_ret
    exact ret_eq (congrArg (Value.int .i64) H.out.symm)
  · have H : Hid (ordW a b = 1) := by unfold ordW Hid; rw [if_pos h1, if_neg (by simp [h2])]
    have H1 : Hid (nanW a = true) := h1
    have H2 : Hid (nanW b = false) := h2
    clear h1 h2
    obtain ⟨ra, R1⟩ : ∃ r, Hid (rankW a = r) := ⟨_, rfl⟩
    obtain ⟨rb, R2⟩ : ∃ r, Hid (rankW b = r) := ⟨_, rfl⟩
    go_enter Try.func21, Try.ntmps21
    go_wp2_with (first | (go_at_call 25; first | (refine (refNaN_w a _ ha true H1).mono ?_; rintro e w' ⟨rfl, rfl⟩) | (refine (refNaN_w b _ hb false H2).mono ?_; rintro e w' ⟨rfl, rfl⟩)) | (go_at_call 29; first | ((with_reducible refine (rank_w a _ ha _ R1).mono ?_); rintro e w' ⟨rfl, rfl⟩) | ((with_reducible refine (rank_w b _ hb _ R2).mono ?_); rintro e w' ⟨rfl, rfl⟩)))
    go_ret
    exact ret_eq (congrArg (Value.int .i64) H.out.symm)
  · have H : Hid (ordW a b = 0) := by unfold ordW Hid; rw [if_pos h1, if_pos h2]
    have H1 : Hid (nanW a = true) := h1
    have H2 : Hid (nanW b = true) := h2
    clear h1 h2
    obtain ⟨ra, R1⟩ : ∃ r, Hid (rankW a = r) := ⟨_, rfl⟩
    obtain ⟨rb, R2⟩ : ∃ r, Hid (rankW b = r) := ⟨_, rfl⟩
    go_enter Try.func21, Try.ntmps21
    go_wp2_with (first | (go_at_call 25; first | (refine (refNaN_w a _ ha true H1).mono ?_; rintro e w' ⟨rfl, rfl⟩) | (refine (refNaN_w b _ hb true H2).mono ?_; rintro e w' ⟨rfl, rfl⟩)) | (go_at_call 29; first | ((with_reducible refine (rank_w a _ ha _ R1).mono ?_); rintro e w' ⟨rfl, rfl⟩) | ((with_reducible refine (rank_w b _ hb _ R2).mono ?_); rintro e w' ⟨rfl, rfl⟩)))
    go_ret
    exact ret_eq (congrArg (Value.int .i64) H.out.symm)

theorem ordW_cases (a b : Nat) : ordW a b = -1 ∨ ordW a b = 0 ∨ ordW a b = 1 := by
  unfold ordW; split
  · split <;> simp
  · split
    · simp
    · split
      · simp
      · split <;> simp

/-- clock.Later -/
theorem later_any (a b : Nat) (w : World) : Calls Try.prog 22 #[.float .f64 a, .float .f64 b] w fun e w' => e = .returned (.float .f64 (laterW a b)) ∧ w = w' := by
  by_cases h : 0 < ordW a b
  · have H : Hid (laterW a b = formW a) := by unfold laterW Hid; rw [if_pos h]
    go_enter Try.func22, Try.ntmps22
    go_wp2_with (first | (go_at_call 19; refine (order_any _ _ _).mono ?_; rintro e w' ⟨rfl, rfl⟩) | (go_at_call 27; refine (form_any _ _).mono ?_; rintro e w' ⟨rfl, rfl⟩))
    go_ret
    exact ret_eq (congrArg (Value.float .f64) H.out.symm)
  · have H : Hid (laterW a b = formW b) := by unfold laterW Hid; rw [if_neg h]
    go_enter Try.func22, Try.ntmps22
    go_wp2_with (first | (go_at_call 19; refine (order_any _ _ _).mono ?_; rintro e w' ⟨rfl, rfl⟩) | (go_at_call 27; refine (form_any _ _).mono ?_; rintro e w' ⟨rfl, rfl⟩))
    go_ret
    exact ret_eq (congrArg (Value.float .f64) H.out.symm)

/-- cloisterref05.Later -/
theorem refLater_any (a b : Nat) (w : World) (ha : Hid (W a)) (hb : Hid (W b)) : Calls Try.prog 23 #[.float .f64 a, .float .f64 b] w fun e w' => e = .returned (.int .u64 (laterW a b)) ∧ w = w' := by
  by_cases h : 0 < ordW a b
  · have H : Hid (laterW a b = formW a) := by unfold laterW Hid; rw [if_pos h]
    have h1 : ordW a b = 1 := by have := ordW_cases a b; omega
    have hb1 : (ordW a b == 1) = true := by rw [h1]; rfl
    clear h h1
    go_enter Try.func23, Try.ntmps23
    go_wp2_with (first | (go_at_call 21; refine (refOrder_any _ _ _ ha hb).mono ?_; rintro e w' ⟨rfl, rfl⟩) | (go_at_call 17; refine (refBits_any _ _ ha).mono ?_; rintro e w' ⟨rfl, rfl⟩))
    go_ret
    refine ret_eq ?_
    rw [H.out]; rfl
  · have H : Hid (laterW a b = formW b) := by unfold laterW Hid; rw [if_neg h]
    have hb1 : (ordW a b == 1) = false := by rcases ordW_cases a b with h1 | h1 | h1 <;> rw [h1] <;> first | rfl | omega
    clear h
    go_enter Try.func23, Try.ntmps23
    go_wp2_with (first | (go_at_call 21; refine (refOrder_any _ _ _ ha hb).mono ?_; rintro e w' ⟨rfl, rfl⟩) | (go_at_call 17; refine (refBits_any _ _ hb).mono ?_; rintro e w' ⟨rfl, rfl⟩))
    go_ret
    refine ret_eq ?_
    rw [H.out]; rfl

/-- clock.From: bits that are of a form are read. -/
theorem from_good (a : Nat) (w : World) (ha : Hid (formW a = a)) : Calls Try.prog 15 #[.int .u64 a] w fun e w' => e = .returned (.tuple #[.float .f64 a, .int .i64 0]) ∧ w = w' := by
  have hf := run_frombits
  have hq : (((formW a : Nat) : Int) != (a : Int)) = false := by rw [ha.out]; simp
  go_enter Try.func15, Try.ntmps15
  go_wp2_with (go_at_call 16; refine (bits_any _ _).mono ?_; rintro e w' ⟨rfl, rfl⟩)
  go_ret2
  exact ⟨rfl, rfl⟩
theorem from_bad (a : Nat) (w : World) (ha : Hid (formW a ≠ a)) : Calls Try.prog 15 #[.int .u64 a] w fun e w' => e = .returned (.tuple #[.float .f64 0, .int .i64 12]) ∧ w = w' := by
  have hf := run_frombits
  have hq : (((formW a : Nat) : Int) != (a : Int)) = true := by have := ha.out; rw [bne_iff_ne]; omega
  go_enter Try.func15, Try.ntmps15
  go_wp2_with (go_at_call 16; refine (bits_any _ _).mono ?_; rintro e w' ⟨rfl, rfl⟩)
  go_ret2
  exact ⟨rfl, rfl⟩
end Go.Proofs.Ytdbgdpcfddpfeaa
