/- Walks of the layer alloc: Score on either side, near. -/
import Derived.Test.YteonlidamonbgaaAw
import Derived.WalkMore
import Derived.Deep.LoopGhost
namespace Go.Proofs.Yteonlidamonbgaa
set_option linter.unusedVariables false
set_option linter.unusedSimpArgs false
open Go.RowKit Fl

theorem valid_iff {n g : Nat} : g < (n + 7) / 8 ↔ 8 * g < n := by omega

/-- alloc.Score -/
theorem score_any (a : Option Addr) (n c L off g : Nat) (f : Nat → Bool) (w : World) (h : BlF w L off a n c f) (hn : n ≤ 140737488351232) (hg : 8 * g < n) :
    Calls Try.prog 9 #[.slice a n c, .int .i64 g] w fun e w' => e = .returned (.tuple #[.float .f64 (scoreG f n g), .int .i64 0]) ∧ Below w.heap.size w w' := by
  have HB := Lib.hid h
  have HN := Lib.hid hn
  have HG := Lib.hid hg
  have hgv : g < (n + 7) / 8 := valid_iff.2 hg
  have hs := nu_sum f n g
  have hl := gsz_le n g
  have HS : Hid (cntTo (fun i => f (8 * g + i)) 0 (gsz n g) = nn f n g) := cntTo_shift f (8 * g) (gsz n g)
  obtain ⟨q, hq⟩ : ∃ q, Hid (nn f n g = q) := ⟨_, rfl⟩
  obtain ⟨u, hu⟩ : ∃ u, Hid (uu f n g = u) := ⟨_, rfl⟩
  rw [hq.out, hu.out] at hs
  have HM : Hid (gsz n g = q + u) := hs.symm
  have RT : ∀ w, Calls Try.prog 20 #[.int .i64 q, .int .i64 u] w fun x w' => x = .returned (.float .f64 (scoreG f n g)) ∧ Below w.heap.size w w' := fun w => by
    have := ratio_any (q : Int) (u : Int) w
    unfold scoreG
    rw [hq.out, hu.out]
    exact this
  have hl2 : q + u ≤ 8 := by rw [hs]; exact hl
  have hsub : (q : Int) + (u : Int) - (q : Int) = (u : Int) := by omega
  clear hs hl h hn hg
  obtain ⟨G, hG⟩ : ∃ G, Hid ((n + 7) / 8 = G) := ⟨_, rfl⟩
  rw [hG.out] at hgv
  go_enter Try.func9, Try.ntmps9
  go_wp2_with (first
    | (go_at_call 10; refine (groups_any _ _ _ _ HN.out).mono ?_; rintro e w' ⟨rfl, rfl⟩; rw [hG.out])
    | (go_at_call 19; refine (places_any _ n c L off g f _ HB.out HN.out HG.out).mono ?_; rintro e w' ⟨⟨c', rfl, hp⟩, rfl⟩; have HP := Lib.hid hp; clear hp; rw [HM.out] at HP ⊢)
    | (go_at_call 8; refine (count_any _ _ _ L (off + 8 * g) _ _ HP.out).mono ?_; rintro e w' ⟨rfl, rfl⟩; have hh := HS.out; rw [HM.out, hq.out] at hh; rw [hh]; clear hh)
    | (go_at_call 20; refine (RT _).mono ?_; rintro e w1 ⟨rfl, h1⟩; have H1 := Lib.hid h1; clear h1))
  go_ret2
  exact ⟨rfl, H1.out⟩
theorem score_bad (a : Option Addr) (n c : Nat) (g : Int) (w : World) (hn : n ≤ 140737488351232) (hg : ¬ (0 ≤ g ∧ 8 * g < n)) :
    Calls Try.prog 9 #[.slice a n c, .int .i64 g] w fun e w' => e = .returned (.tuple #[.float .f64 0, .int .i64 2]) ∧ w = w' := by
  have HN := Lib.hid hn
  obtain ⟨G, hG⟩ : ∃ G, Hid ((n + 7) / 8 = G) := ⟨_, rfl⟩
  by_cases h0 : g < 0
  · clear hg hn
    go_enter Try.func9, Try.ntmps9
    go_wp2_with (go_at_call 10; refine (groups_any _ _ _ _ HN.out).mono ?_; rintro e w' ⟨rfl, rfl⟩; rw [hG.out])
    go_ret2
    exact ⟨rfl, rfl⟩
  · have h1 : decide ((G : Int) ≤ g) = true := decide_eq_true (by have := hG.out; omega)
    clear hg hn
    go_enter Try.func9, Try.ntmps9
    go_wp2_with (go_at_call 10; refine (groups_any _ _ _ _ HN.out).mono ?_; rintro e w' ⟨rfl, rfl⟩; rw [hG.out])
    go_ret2
    exact ⟨rfl, rfl⟩

/-- cloisterref14.Score -/
theorem refScore_any (a : Option Addr) (n c L off g : Nat) (f : Nat → Bool) (w : World) (h : BlF w L off a n c f) (hn : n ≤ 140737488351232) (hg : 8 * g < n) :
    Calls Try.prog 12 #[.slice a n c, .int .i64 g] w fun e w' => e = .returned (.tuple #[.int .u64 (scoreG f n g), .int .i64 0]) ∧ Below w.heap.size w w' := by
  have HB := Lib.hid h
  have HN := Lib.hid hn
  have HG := Lib.hid hg
  have hgv : g < (n + 7) / 8 := valid_iff.2 hg
  obtain ⟨q, hq⟩ : ∃ q, Hid (nn f n g = q) := ⟨_, rfl⟩
  obtain ⟨u, hu⟩ : ∃ u, Hid (uu f n g = u) := ⟨_, rfl⟩
  have RT : ∀ w, Calls Try.prog 22 #[.int .i64 q, .int .i64 u] w fun x w' => x = .returned (.int .u64 (scoreG f n g)) ∧ Below w.heap.size w w' := fun w => by
    have := refRatio_any (q : Int) (u : Int) w
    unfold scoreG
    rw [hq.out, hu.out]
    exact this
  clear h hn hg
  obtain ⟨G, hG⟩ : ∃ G, Hid ((n + 7) / 8 = G) := ⟨_, rfl⟩
  rw [hG.out] at hgv
  go_enter Try.func12, Try.ntmps12
  go_wp2_with (first
    | (go_at_call 14; refine (refGroups_any _ _ _ _ HN.out).mono ?_; rintro e w' ⟨rfl, rfl⟩; rw [hG.out])
    | (go_at_call 21; refine (tally_any _ n c L off g f _ HB.out HN.out HG.out).mono ?_; rintro e w' ⟨⟨r, rfl, hp⟩, rfl⟩; clear hp; rw [hq.out, hu.out])
    | (go_at_call 22; refine (RT _).mono ?_; rintro e w1 ⟨rfl, h1⟩; have H1 := Lib.hid h1; clear h1))
  go_ret2
  exact ⟨rfl, H1.out⟩
theorem refScore_bad (a : Option Addr) (n c : Nat) (g : Int) (w : World) (hn : n ≤ 140737488351232) (hg : ¬ (0 ≤ g ∧ 8 * g < n)) :
    Calls Try.prog 12 #[.slice a n c, .int .i64 g] w fun e w' => e = .returned (.tuple #[.int .u64 0, .int .i64 2]) ∧ w = w' := by
  have HN := Lib.hid hn
  obtain ⟨G, hG⟩ : ∃ G, Hid ((n + 7) / 8 = G) := ⟨_, rfl⟩
  by_cases h0 : g < 0
  · clear hg hn
    go_enter Try.func12, Try.ntmps12
    go_wp2_with (go_at_call 14; refine (refGroups_any _ _ _ _ HN.out).mono ?_; rintro e w' ⟨rfl, rfl⟩; rw [hG.out])
    go_ret2
    exact ⟨rfl, rfl⟩
  · have h1 : decide ((G : Int) ≤ g) = true := decide_eq_true (by have := hG.out; omega)
    clear hg hn
    go_enter Try.func12, Try.ntmps12
    go_wp2_with (go_at_call 14; refine (refGroups_any _ _ _ _ HN.out).mono ?_; rintro e w' ⟨rfl, rfl⟩; rw [hG.out])
    go_ret2
    exact ⟨rfl, rfl⟩

/-- A free place near j: the first one of its group from j on; else the group's first one. -/
def NearIs (f : Nat → Bool) (n j : Nat) (r : Int) : Prop :=
  ∃ p, FstIs f j (8 * (j / 8) + gsz n (j / 8)) p ∧ ((p ≠ -1 ∧ r = p) ∨ (p = -1 ∧ FstIs f (8 * (j / 8)) (8 * (j / 8) + gsz n (j / 8)) r))
def NearOf (f : Nat → Bool) (n : Nat) (goal r : Int) : Prop := (¬ (0 ≤ goal ∧ goal < n) ∧ r = -1) ∨ ∃ j : Nat, goal = j ∧ j < n ∧ NearIs f n j r
theorem NearOf.one {f : Nat → Bool} {n : Nat} {goal r s : Int} (h : NearOf f n goal r) (k : NearOf f n goal s) : r = s := by
  rcases h with ⟨h, rfl⟩ | ⟨j, rfl, hj, p, h1, h2⟩ <;> rcases k with ⟨k, rfl⟩ | ⟨i, ki, hi, p', k1, k2⟩
  · rfl
  · omega
  · omega
  · obtain rfl : j = i := by omega
    obtain rfl := h1.one k1
    rcases h2 with ⟨a, rfl⟩ | ⟨a, h2⟩ <;> rcases k2 with ⟨b, rfl⟩ | ⟨b, k2⟩
    · rfl
    · exact absurd b a
    · exact absurd a b
    · exact h2.one k2

theorem near_any (a : Option Addr) (n c L off : Nat) (f : Nat → Bool) (goal : Int) (w : World) (h : BlF w L off a n c f) (hn : n ≤ 140737488351232) :
    Calls Try.prog 17 #[.slice a n c, .int .i64 goal] w fun e w' => (∃ r, e = .returned (.int .i64 r) ∧ NearOf f n goal r) ∧ w = w' := by
  by_cases hv : 0 ≤ goal ∧ goal < n
  · obtain ⟨j, rfl⟩ := Int.eq_ofNat_of_zero_le hv.1
    have hj : j < n := by omega
    have HJ := Lib.hid hj
    have HB := Lib.hid h
    have HN := Lib.hid hn
    obtain ⟨g, hg⟩ : ∃ g, Hid (j / 8 = g) := ⟨_, rfl⟩
    obtain ⟨m, hm⟩ : ∃ m, Hid (gsz n g = m) := ⟨_, rfl⟩
    have hq : (j : Int) / 8 = (g : Int) := by have := hg.out; omega
    have hg8 : 8 * g < n := by have := hg.out; omega
    have HG := Lib.hid hg8
    have hm8 : m ≤ 8 := by rw [← hm.out]; exact gsz_le n g
    have hg9 : g ≤ 17592186043904 := by omega
    clear hg8 h hn hv
    go_enter Try.func17, Try.ntmps17
    go_wp2
    go_step3
    go_wp2
    go_step3
    go_wp2_with (go_at_call 19; refine (places_any _ n c L off g f _ HB.out HN.out HG.out).mono ?_; rintro e w' ⟨⟨c', rfl, hp⟩, rfl⟩; have HP := Lib.hid hp; clear hp; rw [hm.out] at HP ⊢)
    have HJG : Hid (8 * g ≤ j ∧ j < 8 * g + m) := by
      have h1 := hg.out; have h2 := hm.out; have h3 := HJ.out; unfold gsz at h2; show _ ∧ _; omega
    go_loop [6, 24] (fun x i => ∃ k : Nat, ∃ r : Int, k ≤ m ∧ i = .int .i64 k ∧ x = .int .i64 r ∧ Hid (FstIs f (8 * g) (8 * g + k) r ∧ FstIs f j (8 * g + k) (-1))) (fun _ i => m - (intOf i).toNat)
    case atStart => exact ⟨0, -1, Nat.zero_le _, rfl, rfl, Or.inl ⟨rfl, fun t h1 h2 => absurd h2 (by omega)⟩, Or.inl ⟨rfl, fun t h1 h2 => absurd h2 (by have := HJG.out; omega)⟩⟩
    case round =>
      obtain ⟨k, r, hk, rfl, rfl, hr⟩ := hrel
      by_cases hlt : k < m
      · have hc : w.cell? ⟨L, off + 8 * g + k, none⟩ = some (.bool (f (8 * g + k))) := (HP.out.2.2 (by omega)).2 k hlt
        cases hf : f (8 * g + k)
        · rw [hf] at hc
          have HF := Lib.hid hf
          clear hf
          go_wp2
          go_round
          case rel => exact ⟨k + 1, r, by omega, by go_num, rfl, hr.out.1.next_no HF.out, hr.out.2.next_no HF.out⟩
          case measure => simp [intOf]; omega
        · rw [hf] at hc
          have HF := Lib.hid hf
          clear hf
          by_cases hge : j ≤ 8 * g + k
          · have b1 : decide ((j : Int) ≤ (g : Int) * 8 + (k : Int)) = true := decide_eq_true (by omega)
            have HE : Hid (NearIs f n j ((g : Int) * 8 + (k : Int))) := by
              refine ⟨(8 * g + k : Nat), ?_, Or.inl ⟨by omega, by simp; omega⟩⟩
              rw [hg.out, hm.out]
              have := hr.out.2.next_first rfl hge HF.out
              rcases this with ⟨e, _⟩ | ⟨i, e, e1, e2, e3, e4⟩
              · omega
              · exact Or.inr ⟨i, e, e1, by omega, e3, e4⟩
            clear hge
            go_wp2
            try rw [Exit.noGoto_ret]
            go_ret
            exact ⟨⟨_, rfl, Or.inr ⟨j, rfl, HJ.out, HE.out⟩⟩, rfl⟩
          · have b1 : decide ((j : Int) ≤ (g : Int) * 8 + (k : Int)) = false := decide_eq_false (by omega)
            have HGE : Hid (8 * g + k < j) := by show 8 * g + k < j; omega
            clear hge
            rcases hr.out.1.some_pos with hr1 | hr1
            · subst hr1
              go_wp2
              go_round
              case rel => exact ⟨k + 1, (8 * g + k : Nat), by omega, by go_num, by simp; omega, hr.out.1.next_first rfl (by omega) HF.out, Or.inl ⟨rfl, fun t h1 h2 => absurd h2 (by have := HGE.out; omega)⟩⟩
              case measure => simp [intOf]; omega
            · have hr' : ¬ r < 0 := by omega
              have HR : Hid (r ≠ -1) := by show r ≠ -1; omega
              clear hr1
              go_wp2
              go_round
              case rel => exact ⟨k + 1, r, by omega, by go_num, rfl, hr.out.1.next_have HR.out, Or.inl ⟨rfl, fun t h1 h2 => absurd h2 (by have := HGE.out; omega)⟩⟩
              case measure => simp [intOf]; omega
      · have hkm : k = m := by omega
        have HE : Hid (NearIs f n j r) := by
          refine ⟨-1, ?_, Or.inr ⟨rfl, ?_⟩⟩
          · rw [hg.out, hm.out, ← hkm]; exact hr.out.2
          · rw [hg.out, hm.out, ← hkm]; exact hr.out.1
        clear hkm
        go_wp2
        try rw [Exit.noGoto_ret]
        go_ret
        exact ⟨⟨_, rfl, Or.inr ⟨j, rfl, HJ.out, HE.out⟩⟩, rfl⟩
  · have HV := Lib.hid hv
    by_cases h0 : goal < 0
    · clear hv h hn
      go_enter Try.func17, Try.ntmps17
      go_wp2
      go_step3
      go_wp2
      try rw [Exit.noGoto_ret]
      go_ret
      exact ⟨⟨_, rfl, Or.inl ⟨HV.out, rfl⟩⟩, rfl⟩
    · have h1 : decide ((n : Int) ≤ goal) = true := decide_eq_true (by omega)
      clear hv h hn
      go_enter Try.func17, Try.ntmps17
      go_wp2
      go_step3
      go_wp2
      try rw [Exit.noGoto_ret]
      go_ret
      exact ⟨⟨_, rfl, Or.inl ⟨HV.out, rfl⟩⟩, rfl⟩
end Go.Proofs.Yteonlidamonbgaa
