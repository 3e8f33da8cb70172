/- AllocGoal: the walk. -/
import Derived.Test.YteonlidamonbgaaAh
namespace Go.Proofs.Yteonlidamonbgaa
set_option linter.unusedVariables false
set_option linter.unusedSimpArgs false
open Go.ChangeShapes Go.WideShapes Go.ChangeAt Go.RowKit Fl

theorem goal_in (goal : Int) (n : Nat) (h : 0 < n) (hn : n ≤ 140737488351232) : ∃ j : Nat, wrap64 ((IntKind.u64.wrap goal).tmod (n : Int)) = (j : Int) ∧ j < n := by
  have h1 : 0 ≤ IntKind.u64.wrap goal := by rw [IntKind.wrap_u64]; omega
  obtain ⟨u, hu⟩ := Int.eq_ofNat_of_zero_le h1
  rw [hu]
  have e : ((u : Int).tmod (n : Int)) = ((u % n : Nat) : Int) := rfl
  have hlt := Nat.mod_lt u h
  refine ⟨u % n, ?_, hlt⟩
  rw [e]
  unfold wrap64
  omega

theorem pick_best (a : Option Addr) (n c L off : Nat) (f : Nat → Bool) (w : World) (h : BlF w L off a n c f) (hn : n ≤ 140737488351232) (t : Nat) (ht : t < n) (hf : f t = true) :
    Calls Try.prog 7 #[.slice a n c, .int .i64 (-1)] w fun e w' => ∃ bb s : Nat, e = .returned (.tuple #[.int .i64 s, .int .i64 0]) ∧ (BestAt f n ((n + 7) / 8) bb s ∧ s < n ∧ f s = true ∧ s / 8 = bb) ∧ Below w.heap.size w w' :=
  (pick_any a n c L off f (-1) w h hn).mono fun e w' ⟨r, d, he, hp, hb⟩ => by
    have hd : d = 0 := by
      refine Classical.byContradiction fun hne => ?_
      have := none_all (hp.full hne).2 t ht
      rw [this] at hf; cases hf
    obtain ⟨bb, hbb⟩ := hp.best hd
    obtain ⟨s, hs, h1, h2, h3⟩ := hbb.place
    subst hd
    subst hs
    exact ⟨bb, s, he, ⟨hbb, h1, h2, h3⟩, hb⟩

set_option maxRecDepth 100000 in
set_option maxHeartbeats 1600000 in
theorem goal_walk (a : Option Addr) (n c L off : Nat) (f : Nat → Bool) (goal : Int) (w : World) (h : BlF w L off a n c f) (hc : a = none → c = 0) (hlen : n ≤ 140737488351232) (hgw : (Lit.int .i64 goal).wf = true) :
    Calls Try.prog 3 #[.slice a n c, .int .i64 goal] w fun e w' => e = .returned (.bool true) ∧ Below w.heap.size w w' := by
  have HN := Lib.hid hlen
  have HB := Lib.hid h
  have hn9 : n ≤ 9223372036854775807 := by omega
  clear hc h
  by_cases h0 : n = 0
  · subst h0
    clear hn9 hlen
    go_enter Try.func3, Try.ntmps3
    go_upto_region 2 with (go_at_call 6; refine (fixed_any _).mono ?_; rintro e w1 ⟨rfl, hb⟩; have HW1 := Lib.hid hb; clear hb)
    go_wp2_with (go_at_call 6; refine (fixed_any _).mono ?_; rintro e w2 ⟨rfl, hb⟩; have HW2 := Lib.hid (HW1.out.trans (hb.mono HW1.out.size)); clear hb)
    go_ret
    exact ⟨rfl, HW2.out⟩
  · have hn0 : ((n : Int) == 0) = false := by rw [beq_eq_false_iff_ne]; omega
    have hnn : ¬ n = 0 := h0
    have hnp : (0 : Int) < (n : Int) := by omega
    clear h0
    go_enter Try.func3, Try.ntmps3
    go_upto_region 3 with (go_at_call 6; refine (fixed_any _).mono ?_; rintro e w1 ⟨rfl, hb⟩; have HW1 := Lib.hid hb; have HB1 := Lib.hid (HB.out.below hb); clear hb)
    go_upto_region 4 with fail
    obtain ⟨j, hj, hjn⟩ := goal_in goal n (by omega) HN.out
    rw [hj]
    have HJ := Lib.hid hjn
    clear hj hgw
    obtain ⟨g, hg⟩ : ∃ g, Hid (j / 8 = g) := ⟨_, rfl⟩
    obtain ⟨m, hm⟩ : ∃ m, Hid (gsz n g = m) := ⟨_, rfl⟩
    have HG : Hid (8 * g < n) := by have := hg.out; show 8 * g < n; omega
    have hm8 : m ≤ 8 := by rw [← hm.out]; exact gsz_le n g
    have HMX : Hid (8 * g + m ≤ n ∧ (m = 8 ∨ 8 * g + m = n)) := by have := hm.out; have h2 := HG.out; unfold gsz at this; show _ ∧ _; omega
    obtain ⟨G, hG⟩ : ∃ G, Hid ((n + 7) / 8 = G) := ⟨_, rfl⟩
    have hG9 : G ≤ 17592186043905 := by have := hG.out; omega
    have hjq : (j : Int) / 8 = (g : Int) := by have := hg.out; omega
    have hg9 : g ≤ 17592186043904 := by have := HG.out; omega
    go_upto_region 5 with (go_at_call 7; refine (pick_any _ n _ L off f j _ HB1.out HN.out).mono ?_; rintro e w2 ⟨r, d, rfl, hp, hb⟩; have HP := Lib.hid hp; have HB2 := Lib.hid (HB1.out.below hb); have HW2 := Lib.hid (HW1.out.trans (hb.mono HW1.out.size)); clear hp hb)
    by_cases hd0 : d = 0
    · obtain ⟨t, ht, htn, hft⟩ := HP.out.place hd0
      subst hd0
      subst ht
      have hb := (HB2.out.2.2 (by omega)).1
      subst hb
      have hct : w2.cell? ⟨L, off + t, none⟩ = some (.bool (f t)) := (HB2.out.2.2 (by omega)).2 t htn
      rw [hft] at hct
      have HN1 := Lib.hid (HP.out.near rfl HJ.out)
      rw [hg.out] at HN1
      have HT := Lib.hid htn
      have HF := Lib.hid hft
      clear hft
      go_upto_block 0 with fail
      go_cut [7] (fun v wx => v = .bool (decide (0 < nn f n g)) ∧ wx = w2)
      case first =>
        go_wp2_with fail
        go_loop [7, 8] (fun v i => ∃ k : Nat, ∃ b : Bool, k ≤ m ∧ i = .int .i64 ((g : Int) * 8 + (k : Int)) ∧ v = .bool b ∧ Hid (b = decide (0 < cntTo f (8 * g) k))) (fun _ i => m - (intOf i - (g : Int) * 8).toNat)
        case atStart => exact ⟨0, false, Nat.zero_le _, by simp, rfl, rfl⟩
        case round =>
          obtain ⟨k, b, hk, rfl, rfl, hb⟩ := hrel
          by_cases hkm : k < m
          · have b1 : (g : Int) * 8 + (k : Int) < (n : Int) := by have := HMX.out; omega
            have b2 : k < 8 := by omega
            have hck : w2.cell? ⟨L, off + (g * 8 + k), none⟩ = some (.bool (f (8 * g + k))) := by rw [Nat.mul_comm g 8]; exact (HB2.out.2.2 (by omega)).2 _ (by have := HMX.out; omega)
            have HS : Hid (cntTo f (8 * g) (k + 1) = cntTo f (8 * g) k + (f (8 * g + k)).toNat) := by show cntTo f _ (k + 1) = _; rw [cntTo]
            have HNX : Hid ((b || f (8 * g + k)) = decide (0 < cntTo f (8 * g) (k + 1))) := by
              show _ = _
              rw [HS.out, hb.out]
              cases f (8 * g + k) <;> simp
            generalize f (8 * g + k) = t at hck HNX
            have hmin : min (n : Int) ((g : Int) * 8 + 8) = (g : Int) * 8 + (m : Int) ∧ (g : Int) * 8 + (k : Int) < min (n : Int) ((g : Int) * 8 + 8) := by have := HMX.out; omega
            have hmin2 := hmin.2
            clear hmin
            cases b
            · rw [Bool.false_or] at HNX
              go_wp2
              go_round
              case rel => exact ⟨k + 1, t, by omega, by simp; omega, rfl, HNX.out⟩
              case measure => simp [intOf]; omega
            · rw [Bool.true_or] at HNX
              go_wp2
              go_round
              case rel => exact ⟨k + 1, true, by omega, by simp; omega, rfl, HNX.out⟩
              case measure => simp [intOf]; omega
          · have hkm' : k = m := by omega
            have HE : Hid (b = decide (0 < nn f n g)) := by show b = _; unfold nn; rw [hm.out, ← hkm']; exact hb.out
            have hmin : ¬ (g : Int) * 8 + (k : Int) < min (n : Int) ((g : Int) * 8 + 8) := by have := HMX.out; omega
            go_wp2
            all_goals
              go_meet
              exact ⟨by rw [HE.out], rfl⟩
      case rest =>
        obtain ⟨rfl, rfl⟩ := hcut
        obtain ⟨tg, htg⟩ : ∃ tg, Hid (t / 8 = tg) := ⟨_, rfl⟩
        have hq : (t : Int) / 8 = (tg : Int) := by have := htg.out; omega
        have htn' : (t : Int) < (n : Int) := by omega
        have ht0 : (0 : Int) ≤ (t : Int) := by omega
        have HNE : Hid (decide (0 < nn f n g) = decide (tg = g)) := decide_eq_decide.2 (by rw [← htg.out]; exact HN1.out.symm)
        rw [HNE.out]
        generalize hnb : decide (tg = g) = nb
        have HNB := Lib.hid hnb
        clear hnb HNE
        go_upto_region 12 with fail
        go_cut [78] (fun v wx => v = .bool false ∧ wx = wc)
        case first =>
          by_cases htgg : tg = g
          · subst htgg
            obtain rfl : nb = true := HNB.out.symm.trans (decide_eq_true rfl)
            clear HNB
            go_wp2
            go_meet
            exact ⟨rfl, rfl⟩
          · obtain rfl : nb = false := HNB.out.symm.trans (decide_eq_false htgg)
            clear HNB
            have hd2 : ((tg : Int) == (g : Int)) = false := by rw [beq_eq_false_iff_ne]; omega
            go_wp2
            go_meet
            exact ⟨rfl, rfl⟩
        case rest =>
          obtain ⟨rfl, rfl⟩ := hcut
          go_upto_region 15 with (go_at_call 7; refine (pick_best _ n _ L off f _ HB2.out HN.out t HT.out HF.out).mono ?_; rintro e w3 ⟨bb, s, rfl, hbs, hb⟩; have HBS := Lib.hid hbs; have HB3 := Lib.hid (HB2.out.below hb); have HW3 := Lib.hid (HW2.out.trans (hb.mono HW2.out.size)); clear hbs hb)
          have hsn : (s : Int) < (n : Int) := by have := HBS.out.2.1; omega
          have hs0 : (0 : Int) ≤ (s : Int) := by omega
          have hcs : w3.cell? ⟨L, off + s, none⟩ = some (.bool true) := by rw [← HBS.out.2.2.1]; exact (HB3.out.2.2 (by omega)).2 s (by omega)
          have hsq : (s : Int) / 8 = (bb : Int) := by have := HBS.out.2.2.2; omega
          have HBV : Hid (8 * bb < n) := by have := HBS.out.2.2.2; show 8 * bb < n; omega
          obtain ⟨sb, hsb⟩ : ∃ sb, Hid (scoreG f n bb = sb) := ⟨_, rfl⟩
          go_upto_region 18 with (go_at_call 9; refine (score_any _ n _ L off bb f _ HB3.out HN.out HBV.out).mono ?_; rintro e w4 ⟨rfl, hb⟩; rw [hsb.out]; have HB4 := Lib.hid (HB3.out.below hb); have HW4 := Lib.hid (HW3.out.trans (hb.mono HW3.out.size)); clear hb)
          go_wp2_with (go_at_call 10; refine (groups_any _ _ _ _ HN.out).mono ?_; rintro e w' ⟨rfl, rfl⟩; rw [hG.out])
          go_loopw [102] (fun i wr => ∃ k : Nat, k ≤ G ∧ i = .int .i64 k ∧ Hid (Below w4.heap.size w4 wr)) (fun i _ => G - (intOf i).toNat)
          case atStart => exact ⟨0, Nat.zero_le _, rfl, Below.refl _ _⟩
          case round =>
            obtain ⟨k, hk, rfl, hb⟩ := hrel
            by_cases hkG : k < G
            · have HV : Hid (8 * k < n) := by have := hG.out; show 8 * k < n; omega
              obtain ⟨sk, hsk⟩ : ∃ sk, Hid (scoreG f n k = sk) := ⟨_, rfl⟩
              have htop := top_score HBS.out.1 HV.out
              rw [hsk.out, hsb.out] at htop
              go_wp2_with (go_at_call 9; refine (score_any _ n _ L off k f _ (HB4.out.below hb.out) HN.out HV.out).mono ?_; rintro e w5 ⟨rfl, hb5⟩; rw [hsk.out]; have HW5 := Lib.hid (hb.out.trans (hb5.mono hb.out.size)); clear hb5)
              go_roundw
              case rel => exact ⟨k + 1, by omega, by go_num, HW5.out⟩
              case measure => simp [intOf]; omega
            · go_wp2
              go_ret
              exact ⟨rfl, HW4.out.trans (hb.out.mono HW4.out.size)⟩
    · obtain ⟨rfl, hcn⟩ := HP.out.full hd0
      have HC := Lib.hid hcn
      clear hd0 hcn
      go_wp2_with (go_at_call 8; refine (count_any _ _ _ _ _ _ _ HB2.out).mono ?_; rintro e w' ⟨rfl, rfl⟩; rw [HC.out])
      go_ret
      exact ⟨rfl, HW2.out⟩
end Go.Proofs.Yteonlidamonbgaa
