/- Walks of the layer alloc: the reference's Pick. -/
import Derived.Test.YteonlidamonbgaaAy
namespace Go.Proofs.Yteonlidamonbgaa
set_option linter.unusedVariables false
set_option linter.unusedSimpArgs false
open Go.RowKit Fl

theorem none_all {f : Nat → Bool} {n : Nat} (h : cntTo f 0 n = 0) : ∀ t, t < n → f t = false := fun t ht => cntTo_zero.1 h t (Nat.zero_le _) (by omega)
theorem all_groups {f : Nat → Bool} {n : Nat} (h : ∀ t, t < n → f t = false) : ∀ c, c < (n + 7) / 8 → nn f n c = 0 := fun c hc => by
  unfold nn; rw [cntTo_zero]
  intro t h1 h2
  exact h t (by unfold gsz at h2; omega)
theorem groups_all {f : Nat → Bool} {n : Nat} (h : ∀ c, c < (n + 7) / 8 → nn f n c = 0) : cntTo f 0 n = 0 := by
  rw [cntTo_zero]
  intro t _ ht
  have := h (t / 8) (by omega)
  unfold nn at this
  rw [cntTo_zero] at this
  exact this t (by omega) (by unfold gsz; omega)
theorem none_near {f : Nat → Bool} {n : Nat} {goal : Int} (h : ∀ t, t < n → f t = false) : NearOf f n goal (-1) := by
  by_cases hv : 0 ≤ goal ∧ goal < n
  · obtain ⟨j, rfl⟩ := Int.eq_ofNat_of_zero_le hv.1
    exact Or.inr ⟨j, rfl, by omega, -1, Or.inl ⟨rfl, fun t h1 h2 => h t (by unfold gsz at h2; omega)⟩, Or.inr ⟨rfl, Or.inl ⟨rfl, fun t h1 h2 => h t (by unfold gsz at h2; omega)⟩⟩⟩
  · exact Or.inl ⟨hv, rfl⟩

/-- Where the reference's loop over the groups stands. -/
def RRel (f : Nat → Bool) (n g : Nat) (b q u : Value) : Prop :=
  ∃ (r : Int) (x y : Nat), b = .int .i64 r ∧ q = .int .i64 x ∧ u = .int .i64 y ∧ x ≤ 8 ∧ y ≤ 8 ∧ ((r = -1 ∧ x = 0 ∧ y = 1 ∧ ∀ c, c < g → nn f n c = 0) ∨ (0 ≤ r ∧ ∃ bb, BestAt f n g bb r ∧ x = nn f n bb ∧ y = uu f n bb))

set_option maxRecDepth 100000 in
set_option maxHeartbeats 1600000 in
/-- cloisterref14.Pick -/
theorem refPick_any (a : Option Addr) (n c L off : Nat) (f : Nat → Bool) (goal : Int) (w : World) (h : BlF w L off a n c f) (hn : n ≤ 140737488351232) :
    Calls Try.prog 11 #[.slice a n c, .int .i64 goal] w fun e w' => (∃ r d, e = .returned (.tuple #[.int .i64 r, .int .i64 d]) ∧ PickIs f n goal r d) ∧ w = w' := by
  have HB := Lib.hid h
  have HN := Lib.hid hn
  obtain ⟨T, hT⟩ : ∃ T, Hid (cntTo f 0 n = T) := ⟨_, rfl⟩
  by_cases hT0 : T = 0
  · have HA := Lib.hid (none_all (hT.out.trans hT0))
    subst hT0
    clear h hn
    go_enter Try.func11, Try.ntmps11
    go_wp2_with (go_at_call 15; refine (refCount_any _ _ _ _ _ _ _ HB.out).mono ?_; rintro e w' ⟨rfl, rfl⟩; rw [hT.out])
    go_ret2
    exact ⟨⟨_, _, rfl, -1, none_near HA.out, Or.inr ⟨rfl, -1, Or.inl ⟨rfl, all_groups HA.out⟩, Or.inl ⟨rfl, rfl, rfl⟩⟩⟩, rfl⟩
  · have HT0 := Lib.hid hT0
    have hTb : ((T : Int) == 0) = false := by rw [beq_eq_false_iff_ne]; omega
    obtain ⟨G, hG⟩ : ∃ G, Hid ((n + 7) / 8 = G) := ⟨_, rfl⟩
    have hG9 : G ≤ 17592186043905 := by have := hG.out; omega
    clear hT0 h
    go_enter Try.func11, Try.ntmps11
    go_upto_region 3 with (go_at_call 15; refine (refCount_any _ _ _ _ _ _ _ HB.out).mono ?_; rintro e w' ⟨rfl, rfl⟩; rw [hT.out])
    go_cut [27] (fun v wx => v = .bool (decide (0 ≤ goal ∧ goal < n)) ∧ wx = w)
    case first =>
      by_cases h0 : 0 ≤ goal
      · have hd0 : decide (0 ≤ goal) = true := decide_eq_true h0
        by_cases h1 : goal < n
        · have HX : Hid (decide (0 ≤ goal ∧ goal < n) = true) := decide_eq_true ⟨h0, h1⟩
          have hd1 : decide (goal < (n : Int)) = true := decide_eq_true h1
          clear h0 h1
          go_wp2
          go_meet
          exact ⟨by rw [HX.out], rfl⟩
        · have HX : Hid (decide (0 ≤ goal ∧ goal < n) = false) := decide_eq_false (by omega)
          have hd1 : decide (goal < (n : Int)) = false := decide_eq_false h1
          clear h0 h1
          go_wp2
          go_meet
          exact ⟨by rw [HX.out], rfl⟩
      · have HX : Hid (decide (0 ≤ goal ∧ goal < n) = false) := decide_eq_false (by omega)
        have hd0 : decide (0 ≤ goal) = false := decide_eq_false h0
        clear h0
        go_wp2
        go_meet
        exact ⟨by rw [HX.out], rfl⟩
    case rest =>
      obtain ⟨rfl, rfl⟩ := hcut
      generalize hgd : decide (0 ≤ goal ∧ goal < n) = gd
      have HGD := Lib.hid hgd
      clear hgd
      go_upto_if 27 with fail
      go_cut [] (fun wx => wx = wc ∧ NearOf f n goal (-1))
      case first =>
        by_cases hv : 0 ≤ goal ∧ goal < n
        · have hdv : decide (0 ≤ goal ∧ goal < n) = true := decide_eq_true hv
          obtain rfl : gd = true := HGD.out.symm.trans hdv
          clear HGD
          obtain ⟨j, rfl⟩ := Int.eq_ofNat_of_zero_le hv.1
          have hj : j < n := by omega
          have HJ := Lib.hid hj
          obtain ⟨g, hg⟩ : ∃ g, Hid (j / 8 = g) := ⟨_, rfl⟩
          obtain ⟨m, hm⟩ : ∃ m, Hid (gsz n g = m) := ⟨_, rfl⟩
          have hq : (j : Int) / 8 = (g : Int) := by have := hg.out; omega
          have HG : Hid (8 * g < n) := by have := hg.out; show 8 * g < n; omega
          have HMX : Hid (8 * g ≤ j ∧ j < 8 * g + m ∧ 8 * g + m ≤ n ∧ (m = 8 ∨ 8 * g + m = n) ∧ m ≤ 8) := by
            have h1 := hg.out; have h2 := hm.out; unfold gsz at h2; show _ ∧ _; omega
          clear hv hdv
          go_wp2_with fail
          go_loop [6] (fun i => ∃ k : Nat, j ≤ k ∧ k ≤ 8 * g + m ∧ i = .int .i64 k ∧ Hid (FstIs f j k (-1))) (fun i => 8 * g + m - (intOf i).toNat)
          case atStart => exact ⟨j, Nat.le_refl _, by have := HMX.out; omega, rfl, Or.inl ⟨rfl, fun t h1 h2 => absurd h2 (by omega)⟩⟩
          case round =>
            obtain ⟨k, hk1, hk2, rfl, hr⟩ := hrel
            by_cases hlt : k < 8 * g + m
            · have hkn : k < n := by have := HMX.out; omega
              have hkq : (k : Int) / 8 = (g : Int) := by have := HMX.out; omega
              have hc : wc.cell? ⟨L, off + k, none⟩ = some (.bool (f k)) := (HB.out.2.2 (by omega)).2 k hkn
              obtain rfl : a = some ⟨L, off, none⟩ := (HB.out.2.2 (by omega)).1
              cases hf : f k
              · rw [hf] at hc
                have HF := Lib.hid hf
                clear hf
                go_wp2
                go_round
                case rel => exact ⟨k + 1, by omega, by omega, by go_num, hr.out.next_no HF.out⟩
                case measure => simp [intOf]; omega
              · rw [hf] at hc
                have HF := Lib.hid hf
                clear hf
                have HE : Hid (PickIs f n j k 0) := by
                  refine ⟨k, Or.inr ⟨j, rfl, HJ.out, k, ?_, Or.inl ⟨by omega, rfl⟩⟩, Or.inl ⟨by omega, rfl, rfl⟩⟩
                  rw [hg.out, hm.out]
                  rcases hr.out.next_first rfl hk1 HF.out with ⟨e, _⟩ | ⟨i, e, e1, e2, e3, e4⟩
                  · omega
                  · exact Or.inr ⟨i, e, e1, by omega, e3, e4⟩
                go_wp2
                go_ret2
                exact ⟨⟨_, _, rfl, HE.out⟩, rfl⟩
            · have hke : k = 8 * g + m := by omega
              have HN1 : Hid (FstIs f j (8 * (j / 8) + gsz n (j / 8)) (-1)) := by show FstIs _ _ _ _; rw [hg.out, hm.out, ← hke]; exact hr.out
              have hcond : ¬ k < n ∨ (k < n ∧ ((k : Int) / 8 == (g : Int)) = false ∧ ¬ ((k : Int) / 8 = (g : Int)) ∧ (k / 8 == g) = false ∧ ¬ (k / 8 = g)) := by
                by_cases hkn : (k : Int) < (n : Int)
                · exact Or.inr ⟨by omega, by rw [beq_eq_false_iff_ne]; have := HMX.out; omega, by have := HMX.out; omega, by rw [beq_eq_false_iff_ne]; have := HMX.out; omega, by have := HMX.out; omega⟩
                · exact Or.inl (by omega)
              clear hke hk2 hlt
              obtain ⟨r, hrr⟩ := FstIs.exists f (8 * g) (8 * g + gsz n g)
              have HRR := Lib.hid hrr
              have HNR : Hid (NearOf f n j r) := Or.inr ⟨j, rfl, HJ.out, -1, HN1.out, Or.inr ⟨rfl, by rw [hg.out]; exact hrr⟩⟩
              have TL : ∀ w', BlF w' L off a n c f → Calls Try.prog 21 #[.slice a n c, .int .i64 g] w' fun e w'' => e = .returned (.tuple #[.int .i64 (nn f n g), .int .i64 (uu f n g), .int .i64 r]) ∧ w' = w'' := fun w' hb =>
                (tally_any a n c L off g f w' hb HN.out HG.out).mono fun e w'' ⟨⟨r', he, hr'⟩, hw⟩ => ⟨by rw [he, hr'.one HRR.out], hw⟩
              rcases hrr.some_pos with hr1 | hr1
              · subst hr1
                clear hrr
                rcases hcond with hc1 | ⟨hc1, hc2, hc3, hc4, hc5⟩
                all_goals
                  go_wp2_with (go_at_call 21; refine (TL _ HB.out).mono ?_; rintro e w' ⟨rfl, rfl⟩)
                  go_meet
                  exact ⟨rfl, HNR.out⟩
              · have HR1 := Lib.hid hr1
                clear hrr
                rcases hcond with hc1 | ⟨hc1, hc2, hc3, hc4, hc5⟩
                all_goals
                  go_wp2_with (go_at_call 21; refine (TL _ HB.out).mono ?_; rintro e w' ⟨rfl, rfl⟩)
                  go_ret2
                  exact ⟨⟨_, _, rfl, r, HNR.out, Or.inl ⟨HR1.out, rfl, rfl⟩⟩, rfl⟩
        · have hdv : decide (0 ≤ goal ∧ goal < n) = false := decide_eq_false hv
          obtain rfl : gd = false := HGD.out.symm.trans hdv
          have HV := Lib.hid hv
          clear hv hdv
          go_wp2
          go_meet
          exact ⟨rfl, Or.inl ⟨HV.out, rfl⟩⟩
      case rest =>
        obtain ⟨rfl, hnear⟩ := hcut
        have HNR := Lib.hid hnear
        clear hnear
        have hQ : T ≠ 0 := HT0.out
        clear HGD hn
        go_wp2_with fail
        go_loop [10, 11, 12, 13] (fun b q u i => ∃ g : Nat, g ≤ G ∧ i = .int .i64 g ∧ RRel f n g b q u) (fun _ _ _ i => G - (intOf i).toNat)
        case atStart => exact ⟨0, Nat.zero_le _, rfl, -1, 0, 1, rfl, rfl, rfl, by omega, by omega, Or.inl ⟨rfl, rfl, rfl, fun c hc => absurd hc (Nat.not_lt_zero _)⟩⟩
        case round =>
          obtain ⟨g, hg, rfl, r, x, y, rfl, rfl, rfl, hx8, hy8, hr⟩ := hrel
          have HR := Lib.hid hr
          by_cases hlt : g < G
          · have HV : Hid (8 * g < n) := by have := hG.out; show 8 * g < n; omega
            obtain ⟨s, hs⟩ := FstIs.exists f (8 * g) (8 * g + gsz n g)
            have HS := Lib.hid hs
            obtain ⟨q, hq⟩ : ∃ q, Hid (nn f n g = q) := ⟨_, rfl⟩
            obtain ⟨u, hu⟩ : ∃ u, Hid (uu f n g = u) := ⟨_, rfl⟩
            have hq8 : q ≤ 8 := by rw [← hq.out]; exact (nu_le f n g).1
            have hu8 : u ≤ 8 := by rw [← hu.out]; exact (nu_le f n g).2
            have m1 : x * u ≤ 64 := Nat.mul_le_mul hx8 hu8
            have m2 : q * y ≤ 64 := Nat.mul_le_mul hq8 hy8
            have p1 : (0 : Int) ≤ (x : Int) * (u : Int) := Int.mul_nonneg (by omega) (by omega)
            have p2 : (x : Int) * (u : Int) ≤ 64 := by rw [← Int.natCast_mul]; omega
            have p3 : (0 : Int) ≤ (q : Int) * (y : Int) := Int.mul_nonneg (by omega) (by omega)
            have p4 : (q : Int) * (y : Int) ≤ 64 := by rw [← Int.natCast_mul]; omega
            have TL : ∀ w', BlF w' L off a n c f → Calls Try.prog 21 #[.slice a n c, .int .i64 g] w' fun e w'' => e = .returned (.tuple #[.int .i64 q, .int .i64 u, .int .i64 s]) ∧ w' = w'' := fun w' hb =>
              (tally_any a n c L off g f w' hb HN.out HV.out).mono fun e w'' ⟨⟨r', he, hr'⟩, hw⟩ => ⟨by rw [he, hr'.one HS.out, hq.out, hu.out], hw⟩
            clear m1 m2
            rcases hs.some_pos with hs1 | hs1
            · subst hs1
              have HZ : Hid (nn f n g = 0) := hs.none_iff.1 rfl
              clear hs hr p1 p2 p3 p4
              go_wp2_with (first
                | (go_at_call 14; refine (refGroups_any _ _ _ _ HN.out).mono ?_; rintro e w' ⟨rfl, rfl⟩; rw [hG.out])
                | (go_at_call 21; refine (TL _ HB.out).mono ?_; rintro e w' ⟨rfl, rfl⟩))
              go_round
              case rel =>
                refine ⟨g + 1, by omega, by go_num, r, x, y, rfl, rfl, rfl, hx8, hy8, ?_⟩
                rcases HR.out with ⟨h1, h2, h3, h4⟩ | ⟨h1, bb, h2, h3, h4⟩
                · exact Or.inl ⟨h1, h2, h3, zero_step h4 HZ.out⟩
                · exact Or.inr ⟨h1, bb, h2.skip (Or.inl HZ.out), h3, h4⟩
              case measure => simp [intOf]; omega
            · have HS1 := Lib.hid hs1
              have hs1' : ¬ s < 0 := by omega
              have HNE : Hid (s ≠ -1) := by show s ≠ -1; omega
              rcases hr with ⟨hr1, hr2, hr3, hr4⟩ | ⟨hr1, bb, hr2, hr3, hr4⟩
              · subst hr1
                subst hr2
                subst hr3
                have HB4 := Lib.hid hr4
                clear hs hr4 HR p1 p2 p3 p4
                go_wp2_with (first
                  | (go_at_call 14; refine (refGroups_any _ _ _ _ HN.out).mono ?_; rintro e w' ⟨rfl, rfl⟩; rw [hG.out])
                  | (go_at_call 21; refine (TL _ HB.out).mono ?_; rintro e w' ⟨rfl, rfl⟩))
                go_round
                case rel => exact ⟨g + 1, by omega, by go_num, s, q, u, rfl, rfl, rfl, hq8, hu8, Or.inr ⟨HS1.out, g, best_first HB4.out HS.out HNE.out, hq.out.symm, hu.out.symm⟩⟩
                case measure => simp [intOf]; omega
              · have HR1 := Lib.hid hr1
                have hr1' : ¬ r < 0 := by omega
                have HBB := Lib.hid hr2
                have H3 := Lib.hid hr3
                have H4 := Lib.hid hr4
                by_cases hgt : gt f n g bb
                · have hgt' : x * u < q * y := by unfold gt at hgt; rw [hq.out, hu.out, ← hr3, ← hr4] at hgt; exact hgt
                  have hd : decide ((x : Int) * (u : Int) < (q : Int) * (y : Int)) = true := decide_eq_true (by rw [← Int.natCast_mul, ← Int.natCast_mul]; omega)
                  have hy0 : 0 < y := by
                    rcases Nat.eq_zero_or_pos y with e | e
                    · subst e; simp at hgt'
                    · exact e
                  have HGT := Lib.hid hgt
                  clear hs hgt hgt' hr1 hr2 hr3 hr4 HR
                  go_wp2_with (first
                    | (go_at_call 14; refine (refGroups_any _ _ _ _ HN.out).mono ?_; rintro e w' ⟨rfl, rfl⟩; rw [hG.out])
                    | (go_at_call 21; refine (TL _ HB.out).mono ?_; rintro e w' ⟨rfl, rfl⟩))
                  go_round
                  case rel => exact ⟨g + 1, by omega, by go_num, s, q, u, rfl, rfl, rfl, hq8, hu8, Or.inr ⟨HS1.out, g, HBB.out.turn HS.out HNE.out HGT.out, hq.out.symm, hu.out.symm⟩⟩
                  case measure => simp [intOf]; omega
                · have hgt' : ¬ x * u < q * y := by unfold gt at hgt; rw [hq.out, hu.out, ← hr3, ← hr4] at hgt; exact hgt
                  have hd : decide ((x : Int) * (u : Int) < (q : Int) * (y : Int)) = false := decide_eq_false (by rw [← Int.natCast_mul, ← Int.natCast_mul]; omega)
                  have HGT := Lib.hid hgt
                  clear hs hgt hgt' hr1 hr2 hr3 hr4 HR
                  go_wp2_with (first
                    | (go_at_call 14; refine (refGroups_any _ _ _ _ HN.out).mono ?_; rintro e w' ⟨rfl, rfl⟩; rw [hG.out])
                    | (go_at_call 21; refine (TL _ HB.out).mono ?_; rintro e w' ⟨rfl, rfl⟩))
                  go_round
                  case rel => exact ⟨g + 1, by omega, by go_num, r, x, y, rfl, rfl, rfl, hx8, hy8, Or.inr ⟨HR1.out, bb, HBB.out.skip (Or.inr HGT.out), H3.out, H4.out⟩⟩
                  case measure => simp [intOf]; omega
          · have hgG : g = G := by omega
            have HGG := Lib.hid hgG
            clear hgG
            rcases hr with ⟨hr1, hr2, hr3, hr4⟩ | ⟨hr1, bb, hr2, hr3, hr4⟩
            · exact absurd (hT.out.symm.trans (groups_all (by rw [hG.out, ← HGG.out]; exact hr4))) hQ
            · have HR1 := Lib.hid hr1
              have HBB := Lib.hid hr2
              clear hr1 hr2 hr3 hr4 HR
              go_wp2_with (go_at_call 14; refine (refGroups_any _ _ _ _ HN.out).mono ?_; rintro e w' ⟨rfl, rfl⟩; rw [hG.out])
              go_ret2
              exact ⟨⟨_, _, rfl, -1, HNR.out, Or.inr ⟨rfl, r, Or.inr ⟨bb, by rw [hG.out, ← HGG.out]; exact HBB.out⟩, Or.inr ⟨HR1.out, rfl, rfl⟩⟩⟩, rfl⟩
end Go.Proofs.Yteonlidamonbgaa
