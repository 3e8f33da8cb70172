/- Walks of the layer alloc: Pick. -/
import Derived.Test.YteonlidamonbgaaAx
import Derived.Deep.DeepCutAuto
import Derived.Deep.CutBlock
namespace Go.Proofs.Yteonlidamonbgaa
set_option linter.unusedVariables false
set_option linter.unusedSimpArgs false
open Go.RowKit Fl

theorem NearOf.exists (f : Nat → Bool) (n : Nat) (goal : Int) : ∃ p, NearOf f n goal p := by
  by_cases hv : 0 ≤ goal ∧ goal < n
  · obtain ⟨j, rfl⟩ := Int.eq_ofNat_of_zero_le hv.1
    obtain ⟨p, hp⟩ := FstIs.exists f j (8 * (j / 8) + gsz n (j / 8))
    by_cases hp1 : p = -1
    · obtain ⟨r, hr⟩ := FstIs.exists f (8 * (j / 8)) (8 * (j / 8) + gsz n (j / 8))
      exact ⟨r, Or.inr ⟨j, rfl, by omega, p, hp, Or.inr ⟨hp1, hr⟩⟩⟩
    · exact ⟨p, Or.inr ⟨j, rfl, by omega, p, hp, Or.inl ⟨hp1, rfl⟩⟩⟩
  · exact ⟨-1, Or.inl ⟨hv, rfl⟩⟩
theorem NearOf.some_pos {f : Nat → Bool} {n : Nat} {goal p : Int} (h : NearOf f n goal p) : p = -1 ∨ 0 ≤ p := by
  rcases h with ⟨_, rfl⟩ | ⟨j, _, _, q, h1, h2⟩
  · exact Or.inl rfl
  · rcases h2 with ⟨_, rfl⟩ | ⟨_, h2⟩
    · exact h1.some_pos
    · exact h2.some_pos
theorem near_val (a : Option Addr) (n c L off : Nat) (f : Nat → Bool) (goal p : Int) (w : World) (h : BlF w L off a n c f) (hn : n ≤ 140737488351232) (hp : NearOf f n goal p) :
    Calls Try.prog 17 #[.slice a n c, .int .i64 goal] w fun e w' => e = .returned (.int .i64 p) ∧ w = w' :=
  (near_any a n c L off f goal w h hn).mono fun e w' ⟨⟨r, he, hr⟩, hw⟩ => ⟨by rw [he, hr.one hp], hw⟩

/-- What Pick comes to: near the goal; else in the best group. -/
def PickIs (f : Nat → Bool) (n : Nat) (goal r e : Int) : Prop :=
  ∃ p, NearOf f n goal p ∧ ((0 ≤ p ∧ r = p ∧ e = 0) ∨ (p = -1 ∧ ∃ b, Best f n ((n + 7) / 8) b ∧ ((b = -1 ∧ r = 0 ∧ e = 5) ∨ (0 ≤ b ∧ r = b ∧ e = 0))))
theorem PickIs.one {f : Nat → Bool} {n : Nat} {goal r e s d : Int} (h : PickIs f n goal r e) (k : PickIs f n goal s d) : r = s ∧ e = d := by
  obtain ⟨p, h1, h2⟩ := h
  obtain ⟨q, k1, k2⟩ := k
  obtain rfl := h1.one k1
  rcases h2 with ⟨a, rfl, rfl⟩ | ⟨a, b, h3, h4⟩ <;> rcases k2 with ⟨b', rfl, rfl⟩ | ⟨b', c, k3, k4⟩
  · exact ⟨rfl, rfl⟩
  · omega
  · omega
  · obtain rfl := h3.one k3
    omega

/-- Where the loop over the groups stands. -/
def PRel (w wr : World) (f : Nat → Bool) (n g : Nat) (b s : Value) : Prop :=
  ∃ (r : Int) (x : Nat), b = .int .i64 r ∧ s = .float .f64 x ∧ Below w.heap.size w wr ∧ ((r = -1 ∧ ∀ c, c < g → nn f n c = 0) ∨ (0 ≤ r ∧ ∃ bb, BestAt f n g bb r ∧ x = scoreG f n bb))
theorem zero_step {f : Nat → Bool} {n g : Nat} (h : ∀ c, c < g → nn f n c = 0) (h2 : nn f n g = 0) : ∀ c, c < g + 1 → nn f n c = 0 := fun c hc => by
  by_cases e : c = g
  · rw [e]; exact h2
  · exact h c (by omega)
theorem fst_found {f : Nat → Bool} {n g k m : Nat} (hm : gsz n g = m) (h : ∀ t, 8 * g ≤ t → t < 8 * g + k → f t = false) (hk : k < m) (hf : f (8 * g + k) = true) : FstIs f (8 * g) (8 * g + gsz n g) ((g : Int) * 8 + (k : Int)) :=
  Or.inr ⟨8 * g + k, by simp; omega, by omega, by omega, hf, h⟩
theorem none_found {f : Nat → Bool} {n g m : Nat} (hm : gsz n g = m) (h : ∀ t, 8 * g ≤ t → t < 8 * g + m → f t = false) : nn f n g = 0 := by
  unfold nn; rw [cntTo_zero, hm]; exact h

set_option maxHeartbeats 800000 in
/-- alloc.Pick -/
theorem pick_any (a : Option Addr) (n c L off : Nat) (f : Nat → Bool) (goal : Int) (w : World) (h : BlF w L off a n c f) (hn : n ≤ 140737488351232) :
    Calls Try.prog 7 #[.slice a n c, .int .i64 goal] w fun e w' => ∃ r d, e = .returned (.tuple #[.int .i64 r, .int .i64 d]) ∧ PickIs f n goal r d ∧ Below w.heap.size w w' := by
  have HB := Lib.hid h
  have HN := Lib.hid hn
  obtain ⟨p, hp⟩ := NearOf.exists f n goal
  have HP := Lib.hid hp
  rcases hp.some_pos with hp1 | hp1
  · subst hp1
    clear h hp
    obtain ⟨G, hG⟩ : ∃ G, Hid ((n + 7) / 8 = G) := ⟨_, rfl⟩
    have hG9 : G ≤ 17592186043905 := by have := hG.out; omega
    clear hn
    go_enter Try.func7, Try.ntmps7
    go_wp2_with (go_at_call 17; refine (near_val _ _ _ _ _ _ _ _ _ HB.out HN.out HP.out).mono ?_; rintro e w' ⟨rfl, rfl⟩)
    go_step3
    go_wp2_with (go_at_call 17; refine (near_val _ _ _ _ _ _ _ _ _ HB.out HN.out HP.out).mono ?_; rintro e w' ⟨rfl, rfl⟩)
    go_step3
    go_wp2_with (go_at_call 10; refine (groups_any _ _ _ _ HN.out).mono ?_; rintro e w' ⟨rfl, rfl⟩; rw [hG.out])
    go_loopw [7, 8, 22] (fun b s i wr => ∃ g : Nat, g ≤ G ∧ i = .int .i64 g ∧ PRel w wr f n g b s) (fun _ _ i _ => G - (intOf i).toNat)
    case atStart => exact ⟨0, Nat.zero_le _, rfl, -1, 0, rfl, rfl, Below.refl _ _, Or.inl ⟨rfl, fun c hc => absurd hc (Nat.not_lt_zero _)⟩⟩
    case round =>
      obtain ⟨g, hg, rfl, r, x, rfl, rfl, hbel, hr⟩ := hrel
      have HR := Lib.hid hr
      have HBel := Lib.hid hbel
      clear hbel
      by_cases hlt : g < G
      · have HV : Hid (8 * g < n) := by have := hG.out; show 8 * g < n; omega
        obtain ⟨m, hm⟩ : ∃ m, Hid (gsz n g = m) := ⟨_, rfl⟩
        have hm8 : m ≤ 8 := by rw [← hm.out]; exact gsz_le n g
        obtain ⟨sg, hsg⟩ : ∃ sg, Hid (scoreG f n g = sg) := ⟨_, rfl⟩
        go_upto_block 1 with fail
        go_cut [7, 8] (fun b s wx => PRel w wx f n (g + 1) b s)
        case first =>
          have HBr := Lib.hid (HB.out.below HBel.out)
          clear HB
          rcases hr with ⟨hr1, hr2⟩ | ⟨hr1, bb, hbb, hx⟩
          · subst hr1
            have HR2 := Lib.hid hr2
            clear hr2 HR
            go_wp2_with (first
              | (go_at_call 9; refine (score_any a n c L off g f _ HBr.out HN.out HV.out).mono ?_; rintro e w1 ⟨rfl, h1⟩; rw [hsg.out]; have H1 := Lib.hid h1; have HB1 := Lib.hid (HBr.out.below h1); clear h1)
              | (go_at_call 19; refine (places_any _ n c L off g f _ HB1.out HN.out HV.out).mono ?_; rintro e w' ⟨⟨c', rfl, hp⟩, rfl⟩; have HPL := Lib.hid hp; clear hp; rw [hm.out] at HPL ⊢))
            go_loop [7, 8, 43] (fun b s i => ∃ k : Nat, k ≤ m ∧ i = .int .i64 k ∧ b = .int .i64 (-1) ∧ s = .float .f64 x ∧ Hid (∀ t, 8 * g ≤ t → t < 8 * g + k → f t = false)) (fun _ _ i => m - (intOf i).toNat)
            case atStart => exact ⟨0, Nat.zero_le _, rfl, rfl, rfl, fun t h1 h2 => absurd h2 (by omega)⟩
            case round =>
              obtain ⟨k, hk, rfl, rfl, rfl, hz⟩ := hrel
              by_cases hkm : k < m
              · have hc : w1.cell? ⟨L, off + 8 * g + k, none⟩ = some (.bool (f (8 * g + k))) := (HPL.out.2.2 (by omega)).2 k hkm
                cases hf : f (8 * g + k)
                · rw [hf] at hc
                  have HF := Lib.hid hf
                  clear hf
                  go_wp2
                  go_round
                  case rel => exact ⟨k + 1, by omega, by go_num, rfl, rfl, fun t h1 h2 => by
                    by_cases e : t = 8 * g + k
                    · rw [e]; exact HF.out
                    · exact hz.out t h1 (by omega)⟩
                  case measure => simp [intOf]; omega
                · rw [hf] at hc
                  have HFS := Lib.hid (fst_found hm.out hz.out hkm hf)
                  clear hf
                  go_wp2
                  go_meet
                  refine ⟨_, _, rfl, rfl, HBel.out.trans (H1.out.mono HBel.out.size), Or.inr ⟨by omega, g, best_first HR2.out HFS.out (by omega), hsg.out.symm⟩⟩
              · have hke : k = m := by omega
                have HZ := Lib.hid (none_found hm.out (by rw [← hke]; exact hz.out))
                clear hke
                go_wp2
                go_meet
                exact ⟨_, _, rfl, rfl, HBel.out.trans (H1.out.mono HBel.out.size), Or.inl ⟨rfl, zero_step HR2.out HZ.out⟩⟩
          · have HX := Lib.hid hx
            have HBB := Lib.hid hbb
            have HR1 := Lib.hid hr1
            have hbv : 8 * bb < n := by have := hbb.lt; have := HV.out; omega
            have hos := ord_score (f := f) HV.out hbv
            rw [hsg.out, ← hx] at hos
            obtain ⟨o, ho⟩ : ∃ o, Hid (ordW sg x = o) := ⟨_, rfl⟩
            rw [ho.out] at hos
            by_cases hgt : gt f n g bb
            · have ho1 : ¬ o ≤ 0 := fun h => hos.1 h hgt
              have HGT := Lib.hid hgt
              clear hos hgt hx hbb HR hbv
              go_wp2_with (first
                | (go_at_call 9; refine (score_any a n c L off g f _ HBr.out HN.out HV.out).mono ?_; rintro e w1 ⟨rfl, h1⟩; rw [hsg.out]; have H1 := Lib.hid h1; have HB1 := Lib.hid (HBr.out.below h1); clear h1)
                | (go_at_call 19; refine (places_any _ n c L off g f _ HB1.out HN.out HV.out).mono ?_; rintro e w' ⟨⟨c', rfl, hp⟩, rfl⟩; have HPL := Lib.hid hp; clear hp; rw [hm.out] at HPL ⊢)
                | (go_at_call 18; refine (order_any _ _ _).mono ?_; rintro e w' ⟨rfl, rfl⟩; rw [ho.out]))
              go_loop [7, 8, 43] (fun b s i => ∃ k : Nat, k ≤ m ∧ i = .int .i64 k ∧ b = .int .i64 r ∧ s = .float .f64 x ∧ Hid (∀ t, 8 * g ≤ t → t < 8 * g + k → f t = false)) (fun _ _ i => m - (intOf i).toNat)
              case atStart => exact ⟨0, Nat.zero_le _, rfl, rfl, rfl, fun t h1 h2 => absurd h2 (by omega)⟩
              case round =>
                obtain ⟨k, hk, rfl, rfl, rfl, hz⟩ := hrel
                by_cases hkm : k < m
                · have hc : w1.cell? ⟨L, off + 8 * g + k, none⟩ = some (.bool (f (8 * g + k))) := (HPL.out.2.2 (by omega)).2 k hkm
                  cases hf : f (8 * g + k)
                  · rw [hf] at hc
                    have HF := Lib.hid hf
                    clear hf
                    go_wp2
                    go_round
                    case rel => exact ⟨k + 1, by omega, by go_num, rfl, rfl, fun t h1 h2 => by
                      by_cases e : t = 8 * g + k
                      · rw [e]; exact HF.out
                      · exact hz.out t h1 (by omega)⟩
                    case measure => simp [intOf]; omega
                  · rw [hf] at hc
                    have HFS := Lib.hid (fst_found hm.out hz.out hkm hf)
                    clear hf
                    go_wp2
                    go_meet
                    refine ⟨_, _, rfl, rfl, HBel.out.trans (H1.out.mono HBel.out.size), Or.inr ⟨by omega, g, HBB.out.turn HFS.out (by omega) HGT.out, hsg.out.symm⟩⟩
                · have hke : k = m := by omega
                  have HZ := Lib.hid (none_found hm.out (by rw [← hke]; exact hz.out))
                  clear hke
                  go_wp2
                  go_meet
                  exact ⟨_, _, rfl, rfl, HBel.out.trans (H1.out.mono HBel.out.size), Or.inr ⟨HR1.out, bb, HBB.out.skip (Or.inl HZ.out), HX.out⟩⟩
            · have ho1 : o ≤ 0 := hos.2 hgt
              have HGT := Lib.hid hgt
              clear hos hgt hx hbb HR hbv
              go_wp2_with (first
                | (go_at_call 9; refine (score_any a n c L off g f _ HBr.out HN.out HV.out).mono ?_; rintro e w1 ⟨rfl, h1⟩; rw [hsg.out]; have H1 := Lib.hid h1; have HB1 := Lib.hid (HBr.out.below h1); clear h1)
                | (go_at_call 19; refine (places_any _ n c L off g f _ HB1.out HN.out HV.out).mono ?_; rintro e w' ⟨⟨c', rfl, hp⟩, rfl⟩; have HPL := Lib.hid hp; clear hp; rw [hm.out] at HPL ⊢)
                | (go_at_call 18; refine (order_any _ _ _).mono ?_; rintro e w' ⟨rfl, rfl⟩; rw [ho.out]))
              go_meet
              exact ⟨_, _, rfl, rfl, HBel.out.trans (H1.out.mono HBel.out.size), Or.inr ⟨HR1.out, bb, HBB.out.skip (Or.inr HGT.out), HX.out⟩⟩
        case rest =>
          go_wp2
          go_roundw
          case rel => exact ⟨g + 1, by omega, by go_num, hcut⟩
          case measure => simp [intOf]; omega
      · have hgG : g = G := by omega
        have HGG := Lib.hid hgG
        rcases hr with ⟨hr1, hr2⟩ | ⟨hr1, hr2⟩
        · subst hr1
          clear hgG
          go_wp2
          try rw [Exit.noGoto_ret]
          go_ret2
          exact ⟨_, _, rfl, ⟨-1, HP.out, Or.inr ⟨rfl, -1, Or.inl ⟨rfl, by rw [hG.out, ← HGG.out]; exact hr2⟩, Or.inl ⟨rfl, rfl, rfl⟩⟩⟩, HBel.out⟩
        · have hr1' : ¬ r < 0 := by omega
          obtain ⟨bb, hbb, _⟩ := hr2
          have HBB := Lib.hid hbb
          have HR1 := Lib.hid hr1
          clear hgG hr1 hbb
          go_wp2
          try rw [Exit.noGoto_ret]
          go_ret2
          exact ⟨_, _, rfl, ⟨-1, HP.out, Or.inr ⟨rfl, r, Or.inr ⟨bb, by rw [hG.out, ← HGG.out]; exact HBB.out⟩, Or.inr ⟨HR1.out, rfl, rfl⟩⟩⟩, HBel.out⟩
  · have HP1 := Lib.hid hp1
    clear h hp
    go_enter Try.func7, Try.ntmps7
    go_wp2_with (go_at_call 17; refine (near_val _ _ _ _ _ _ _ _ _ HB.out HN.out HP.out).mono ?_; rintro e w' ⟨rfl, rfl⟩)
    go_step3
    go_wp2_with (go_at_call 17; refine (near_val _ _ _ _ _ _ _ _ _ HB.out HN.out HP.out).mono ?_; rintro e w' ⟨rfl, rfl⟩)
    try rw [Exit.noGoto_ret]
    go_ret2
    exact ⟨_, _, rfl, ⟨p, HP.out, Or.inl ⟨HP1.out, rfl, rfl⟩⟩, Below.refl _ _⟩
end Go.Proofs.Yteonlidamonbgaa
