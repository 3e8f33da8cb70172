/- Walks of the reference of the layer inode: Put; bytes. -/
import Derived.Test.YtebnekpccdcnmaaKa
import Derived.Test.YtebnekpccdcnmaaIi
namespace Go.Proofs.Ytebnekpccdcnmaa
set_option linter.unusedVariables false
set_option linter.unusedSimpArgs false
open Go.RowKit

/-- cloisterref04.Put -/
theorem put_any (v m : Nat) (w : World) (hm1 : 1 ≤ m) (hm8 : m ≤ 8) (hv : v / 256 ^ m = 0) (hv64 : v < 18446744073709551616) :
    Calls Try.prog 49 #[.int .u64 v, .int .i64 m] w fun e w' => ∃ s, e = .returned s ∧ Made Try.prog 5 w s w' (beB v m) := by
  have HN : Hid (∀ w, Calls Try.prog 59 #[.int .u64 v, .int .i64 m] w (OkMade Try.prog 5 w 0 (beB v m))) := fun w => (refNumber_loop v m w hm1 hm8 hv64).mono fun e w' h => by
    rcases h with h | h
    · exact h.2
    · exact absurd hv h.1
  clear hv hv64 hm1 hm8
  go_enter Try.func49, Try.ntmps49
  go_wp2_with (go_at_call 59; refine (HN.out _).mono ?_; rintro e w2 ⟨s, rfl, hm⟩; have HM := Lib.hid hm; clear hm)
  go_ret
  exact ⟨s, rfl, HM.out⟩
theorem small_div (v m : Nat) (hm : m ≤ 8) (h : v < 2 ^ (8 * m)) : v / 256 ^ m = 0 := by
  have e : (256 : Nat) ^ m = 2 ^ (8 * m) := by rw [Nat.pow_mul]
  rw [e]
  exact Nat.div_eq_of_lt h
theorem Own.app {w0 w w2 : World} {v : Value} {xs ys : List Int} {L off n c : Nat} {ad : Addr} (h : Own w0 w v xs) (hb : Below w.heap.size w w2) (hy : BtsAt w2 L off (.slice (some ad) n c) ys) (hne : ys ≠ []) (hlen : xs.length + ys.length ≤ 20000) :
    ∃ a' l' c' w', (Builtin.append_ #[32, 32] 32 #[v, .slice (some ad) n c]).run Try.prog w2 = .ok (.slice a' l' c') w' ∧ Own w0 w' (.slice a' l' c') (xs ++ ys) := by
  obtain ⟨v', w', hr, ho, _⟩ := (h.below hb).append hy hne hlen
  obtain ⟨⟨a', l', c', rfl⟩, _⟩ := id ho
  exact ⟨a', l', c', w', hr, ho⟩
/-- append(b, made...) -/
theorem Own.made {w0 w w2 : World} {v s : Value} {xs ys : List Int} (h : Own w0 w v xs) (hm : Made Try.prog 5 w s w2 ys) (hr : ∀ x ∈ ys, 0 ≤ x ∧ x < 256) (hne : ys ≠ []) (hlen : xs.length + ys.length ≤ 20000) :
    ∃ a' l' c' w', (Builtin.append_ #[32, 32] 32 #[v, s]).run Try.prog w2 = .ok (.slice a' l' c') w' ∧ Own w0 w' (.slice a' l' c') (xs ++ ys) := by
  obtain ⟨⟨g, cc, rfl⟩, ho, hb⟩ := hm
  exact h.app hb (BtsAt.of_own ho hr).1 hne hlen
theorem Own.of_made {w w2 : World} {s : Value} {ys : List Int} (hm : Made Try.prog 5 w s w2 ys) : Own w w2 s ys := by
  obtain ⟨⟨g, cc, rfl⟩, ho, hb⟩ := hm
  exact ⟨⟨_, _, _, rfl⟩, ho, hb⟩
theorem lit1_bts (w : World) (x : Int) (hx : 0 ≤ x ∧ x < 256) : BtsAt (w.alloc (.cells #[.int .u8 x] 5)) w.heap.size 0 (.slice (some ⟨w.heap.size, 0, none⟩) 1 1) [x] := by
  refine ⟨_, 1, rfl, Nat.le_refl _, by unfold maxLen; omega, fun v hv => ?_, fun _ => ⟨rfl, fun i hi => ?_⟩⟩
  · simp only [List.mem_cons, List.not_mem_nil, or_false] at hv
    subst hv; exact hx
  · obtain rfl : i = 0 := by simp at hi; omega
    exact cell_of_row _ _ 0 _ _ (0, 0) (heap_alloc_new w (.cells #[.int .u8 x] 5))
theorem lit3_bts (w : World) (x y z : Int) (hx : 0 ≤ x ∧ x < 256) (hy : 0 ≤ y ∧ y < 256) (hz : 0 ≤ z ∧ z < 256) : BtsAt (w.alloc (.cells #[.int .u8 x, .int .u8 y, .int .u8 z] 5)).drew w.heap.size 0 (.slice (some ⟨w.heap.size, 0, none⟩) 3 3) [x, y, z] := by
  refine ⟨_, 3, rfl, Nat.le_refl _, by unfold maxLen; omega, fun v hv => ?_, fun _ => ⟨rfl, fun i hi => ?_⟩⟩
  · simp only [List.mem_cons, List.not_mem_nil, or_false] at hv
    rcases hv with rfl | rfl | rfl <;> assumption
  · have hn := heap_alloc_new w (.cells #[.int .u8 x, .int .u8 y, .int .u8 z] 5)
    rw [Nat.zero_add]
    refine (cell_of_row _ _ i _ _ (0, 0) hn).trans ?_
    match i, hi with
    | 0, _ | 1, _ | 2, _ => rfl
theorem Own.one {w0 w : World} {v : Value} {xs : List Int} (h : Own w0 w v xs) (x : Int) (hx : 0 ≤ x ∧ x < 256) (hlen : xs.length + 1 ≤ 20000) :
    ∃ a' l' c' w', (Builtin.append_ #[32, 32] 32 #[v, .slice (some ⟨w.heap.size, 0, none⟩) 1 1]).run Try.prog (w.alloc (.cells #[.int .u8 x] 5)) = .ok (.slice a' l' c') w' ∧ Own w0 w' (.slice a' l' c') (xs ++ [x]) :=
  h.app ((Below.refl _ _).alloc (Nat.le_refl _) _) (lit1_bts w x hx) (by simp) hlen
theorem Own.three {w0 w : World} {v : Value} {xs : List Int} (h : Own w0 w v xs) (x y z : Int) (hx : 0 ≤ x ∧ x < 256) (hy : 0 ≤ y ∧ y < 256) (hz : 0 ≤ z ∧ z < 256) (hlen : xs.length + 3 ≤ 20000) :
    ∃ a' l' c' w', (Builtin.append_ #[32, 32] 32 #[v, .slice (some ⟨w.heap.size, 0, none⟩) 3 3]).run Try.prog (w.alloc (.cells #[.int .u8 x, .int .u8 y, .int .u8 z] 5)).drew = .ok (.slice a' l' c') w' ∧ Own w0 w' (.slice a' l' c') (xs ++ [x, y, z]) :=
  h.app (((Below.refl _ _).alloc (Nat.le_refl _) _).drew) (lit3_bts w x y z hx hy hz) (by simp) hlen
theorem beB_one (n : Nat) (h : n < 256) : beB n 1 = [(n : Int)] := by
  simp [beB, List.range_succ]
  omega
theorem beB_ne (v m : Nat) (h : 1 ≤ m) : beB v m ≠ [] := by intro e; have := beB_len v m; rw [e] at this; simp at this; omega
theorem textB_ne (s : ByteArray) (m : Nat) : textB s m ≠ [] := by unfold textB; simp

set_option maxRecDepth 100000 in
set_option maxHeartbeats 4000000 in
theorem bytes_any (k m u g l s : Nat) (t0 t1 : Nat) (ln : ByteArray) (xa ea : Option Addr) (xn xc en ec L off L' off' : Nat) (F H N : Nat → Int) (XN : Nat → ByteArray) (VA : Nat → Option Addr) (VN VC : Nat → Nat) (VB : Nat → List Int) (w : World)
    (h : ExAt w L off ea en ec F H N) (hx : XaAt w L' off' xa xn xc XN VA VN VC) (hv : ∀ i, i < xn → ∃ VL VO, BtsAt w VL VO (.slice (VA i) (VN i) (VC i)) (VB i)) (hw0 : W t0) (hw1 : W t1)
    (hfit : Fits k m u g l s t0 t1 ln xn en F H N XN VN) :
    Calls Try.prog 24 #[(Ino.mk k m u g l s t0 t1 ln xa xn xc ea en ec).val] w fun e w' => ∃ v, e = .returned v ∧ Bts w' w.heap.size v (payL k m u g l s t0 t1 ln xn en F H N XN VB) ∧ Below w.heap.size w w' := by
  unfold Ino.val
  dsimp only
  have hal : Below w.heap.size w (w.alloc (.cells #[.int .i64 k, .int .i64 m, .int .i64 u, .int .i64 g, .int .i64 l, .int .i64 s, .float .f64 t0, .float .f64 t1, .string ln, .slice xa xn xc, .slice ea en ec] 31)) := (Below.refl _ _).alloc (Nat.le_refl _) _
  have HW1 := Lib.hid hal
  have HI := Lib.hid (InoAt.new w k m u g l s t0 t1 ln xa xn xc ea en ec)
  have HE1 := Lib.hid (h.below hal)
  have HX1 := Lib.hid (hx.below hal)
  have HV1 : Hid (∀ i, i < xn → ∃ VL VO, BtsAt (w.alloc (.cells #[.int .i64 k, .int .i64 m, .int .i64 u, .int .i64 g, .int .i64 l, .int .i64 s, .float .f64 t0, .float .f64 t1, .string ln, .slice xa xn xc, .slice ea en ec] 31)) VL VO (.slice (VA i) (VN i) (VC i)) (VB i)) := fun i hi => by
    obtain ⟨VL, VO, hb⟩ := hv i hi
    exact ⟨VL, VO, hb.below hal⟩
  have HFIT := Lib.hid hfit
  have HT : Hid (∀ i, W (tv t0 t1 i)) := fun i => by unfold tv; split <;> assumption
  have HTB : Hid (∀ i (w : World), Calls Try.prog 26 #[.float .f64 (tv t0 t1 i)] w fun e w' => e = .returned (.int .u64 (formW (tv t0 t1 i))) ∧ w = w') := fun i w => refBits_any _ w (HT.out i)
  have HP : Hid (∀ (i : Nat) (w : World), Calls Try.prog 49 #[.int .u64 (fv k m u g l s i), .int .i64 (nb i)] w fun e w' => ∃ s', e = .returned s' ∧ Made Try.prog 5 w s' w' (beB (fv k m u g l s i) (nb i))) := fun i w => by
    obtain ⟨hf1, hf2, hf3, hf4⟩ := fv_fits hfit i
    exact put_any _ _ w hf3 hf4 (small_div _ _ hf4 hf1) (by omega)
  obtain ⟨f1, f2, f3, f4, f5, f6, _⟩ := hfit
  clear h hx hv hw0 hw1 hal
  go_enter Try.func24, Try.ntmps24
  go_upto_region 1 with fail
  generalize (w.alloc (.cells #[.int .i64 k, .int .i64 m, .int .i64 u, .int .i64 g, .int .i64 l, .int .i64 s, .float .f64 t0, .float .f64 t1, .string ln, .slice xa xn xc, .slice ea en ec] 31)) = w1 at HW1 HI HE1 HX1 HV1 ⊢
  obtain ⟨X, hX⟩ : ∃ X, Hid (w.heap.size = X) := ⟨_, rfl⟩
  rw [hX.out] at HI HW1 ⊢
  obtain ⟨c0, c1, c2, c3, c4, c5, _⟩ := HI.out.cells
  have k64 : IntKind.u64.wrap (k : Int) = (k : Int) := IntWalk.u64_in _ (by omega)
  have m64 : IntKind.u64.wrap (m : Int) = (m : Int) := IntWalk.u64_in _ (by omega)
  have u64 : IntKind.u64.wrap (u : Int) = (u : Int) := IntWalk.u64_in _ (by omega)
  have g64 : IntKind.u64.wrap (g : Int) = (g : Int) := IntWalk.u64_in _ (by omega)
  have l64 : IntKind.u64.wrap (l : Int) = (l : Int) := IntWalk.u64_in _ (by omega)
  have s64 : IntKind.u64.wrap (s : Int) = (s : Int) := IntWalk.u64_in _ (by omega)
  go_upto_region 2 with (go_at_call 49; refine (HP.out 0 _).mono ?_; rintro e w2 ⟨v2, rfl, hm2⟩; have HO2 := Lib.hid (Own.of_made hm2); have HI2 := Lib.hid (HI.out.below HO2.out.2.2); clear hm2)
  obtain ⟨⟨a2, l2, cc2, rfl⟩, _⟩ := id HO2.out
  clear c0 c1 c2 c3 c4 c5 k64
  obtain ⟨c0, c1, c2, c3, c4, c5, _⟩ := HI2.out.cells
  go_upto_region 3 with (first
    | (go_at_call 49; refine (HP.out 1 _).mono ?_; rintro e w3x ⟨v3, rfl, hm3⟩; obtain ⟨a3, l3, cc3, w3, hrun, ho⟩ := HO2.out.made hm3 (beB_range _ _) (beB_ne _ _ (by decide)) (by simp only [List.length_append, beB_len]; decide); have HRUN := Lib.hid hrun; have HO3 := Lib.hid ho; have HI3 := Lib.hid (HI.out.below ho.2.2); clear hm3 hrun ho)
    | (at_builtin; refine wpList_append_run _ rfl _ _ _ _ rfl _ _ rfl rfl HRUN.out ?_))
  clear HRUN HO2 HI2 c0 c1 c2 c3 c4 c5 m64
  obtain ⟨c0, c1, c2, c3, c4, c5, _⟩ := HI3.out.cells
  go_upto_region 4 with (first
    | (go_at_call 49; refine (HP.out 2 _).mono ?_; rintro e w4x ⟨v4, rfl, hm4⟩; obtain ⟨a4, l4, cc4, w4, hrun, ho⟩ := HO3.out.made hm4 (beB_range _ _) (beB_ne _ _ (by decide)) (by simp only [List.length_append, beB_len]; decide); have HRUN := Lib.hid hrun; have HO4 := Lib.hid ho; have HI4 := Lib.hid (HI.out.below ho.2.2); clear hm4 hrun ho)
    | (at_builtin; refine wpList_append_run _ rfl _ _ _ _ rfl _ _ rfl rfl HRUN.out ?_))
  clear HRUN HO3 HI3 c0 c1 c2 c3 c4 c5 u64
  obtain ⟨c0, c1, c2, c3, c4, c5, _⟩ := HI4.out.cells
  go_upto_region 5 with (first
    | (go_at_call 49; refine (HP.out 3 _).mono ?_; rintro e w5x ⟨v5, rfl, hm5⟩; obtain ⟨a5, l5, cc5, w5, hrun, ho⟩ := HO4.out.made hm5 (beB_range _ _) (beB_ne _ _ (by decide)) (by simp only [List.length_append, beB_len]; decide); have HRUN := Lib.hid hrun; have HO5 := Lib.hid ho; have HI5 := Lib.hid (HI.out.below ho.2.2); clear hm5 hrun ho)
    | (at_builtin; refine wpList_append_run _ rfl _ _ _ _ rfl _ _ rfl rfl HRUN.out ?_))
  clear HRUN HO4 HI4 c0 c1 c2 c3 c4 c5 g64
  obtain ⟨c0, c1, c2, c3, c4, c5, _⟩ := HI5.out.cells
  go_upto_region 6 with (first
    | (go_at_call 49; refine (HP.out 4 _).mono ?_; rintro e w6x ⟨v6, rfl, hm6⟩; obtain ⟨a6, l6, cc6, w6, hrun, ho⟩ := HO5.out.made hm6 (beB_range _ _) (beB_ne _ _ (by decide)) (by simp only [List.length_append, beB_len]; decide); have HRUN := Lib.hid hrun; have HO6 := Lib.hid ho; have HI6 := Lib.hid (HI.out.below ho.2.2); clear hm6 hrun ho)
    | (at_builtin; refine wpList_append_run _ rfl _ _ _ _ rfl _ _ rfl rfl HRUN.out ?_))
  clear HRUN HO5 HI5 c0 c1 c2 c3 c4 c5 l64
  obtain ⟨c0, c1, c2, c3, c4, c5, _⟩ := HI6.out.cells
  go_upto_region 7 with (first
    | (go_at_call 49; refine (HP.out 5 _).mono ?_; rintro e w7x ⟨v7, rfl, hm7⟩; obtain ⟨a7, l7, cc7, w7, hrun, ho⟩ := HO6.out.made hm7 (beB_range _ _) (beB_ne _ _ (by decide)) (by simp only [List.length_append, beB_len]; decide); have HRUN := Lib.hid hrun; have HO7 := Lib.hid ho; have HI7 := Lib.hid (HI.out.below ho.2.2); clear hm7 hrun ho)
    | (at_builtin; refine wpList_append_run _ rfl _ _ _ _ rfl _ _ rfl rfl HRUN.out ?_))
  clear HRUN HO6 HI6 c0 c1 c2 c3 c4 c5 s64
  obtain ⟨c0, c1, c2, c3, c4, c5, _⟩ := HI7.out.cells
  have HO := Lib.hid (show Own w1 w7 (.slice a7 l7 cc7) (headL k m u g l s 6) from HO7.out)
  clear HO7 HI7 c0 c1 c2 c3 c4 c5 HP
  go_wp2_with fail
  go_loopw [3, 4] (fun bv iv wr => ∃ i : Nat, ∃ a l' c, i ≤ 2 ∧ iv = .int .i64 i ∧ bv = .slice a l' c ∧ Hid (Own w1 wr (.slice a l' c) (headL k m u g l s 6 ++ timesL t0 t1 i))) (fun _ iv _ => 2 - (intOf iv).toNat)
  case atStart => exact ⟨0, _, _, _, Nat.zero_le _, rfl, rfl, by show Own _ _ _ (_ ++ []); rw [List.append_nil]; exact HO.out⟩
  case round =>
    obtain ⟨i, a, l', c, hi2, rfl, rfl, ho⟩ := hrel
    have HIr := Lib.hid (HI.out.below ho.out.2.2)
    by_cases hlt : i < 2
    · have HN : Hid ((headL k m u g l s 6 ++ timesL t0 t1 i) ++ beB (formW (tv t0 t1 i)) 8 = headL k m u g l s 6 ++ timesL t0 t1 (i + 1)) := List.append_assoc _ _ _
      have HLN : Hid ((headL k m u g l s 6 ++ timesL t0 t1 i).length + 8 ≤ 20000) := by show _ ≤ _; rw [List.length_append, head_len, times_len]; omega
      have HWT := Lib.hid (W_form _ (HT.out i))
      have HTi := Lib.hid (HTB.out i)
      have c6 : wr.cell? ⟨X, 6 + i, none⟩ = some (.float .f64 (tv t0 t1 i)) := by
        obtain ⟨_, _, _, _, _, _, c6, c7, _⟩ := HIr.out.cells
        match i, hlt with
        | 0, _ => exact c6
        | 1, _ => exact c7
      obtain ⟨t, ht⟩ : ∃ v, Hid (tv t0 t1 i = v) := ⟨_, rfl⟩
      rw [ht.out] at HN HWT HTi c6
      obtain ⟨ft, hft⟩ : ∃ v, Hid (formW t = v) := ⟨_, rfl⟩
      rw [hft.out] at HN HWT HTi
      have HPT : Hid (∀ w, Calls Try.prog 49 #[.int .u64 ft, .int .i64 8] w fun e w' => ∃ s', e = .returned s' ∧ Made Try.prog 5 w s' w' (beB ft 8)) := fun w => put_any ft 8 w (by decide) (by decide) (small_div _ _ (by decide) HWT.out) HWT.out
      have HOr := Lib.hid ho.out
      clear ho
      go_wp2_with (first
        | (go_at_call 26; refine (HTi.out _).mono ?_; rintro e w5 ⟨rfl, rfl⟩)
        | (go_at_call 49; refine (HPT.out _).mono ?_; rintro e w5 ⟨v5, rfl, hm5⟩; obtain ⟨a5, l5, cc5, w6, hrun, ho⟩ := HOr.out.made hm5 (beB_range _ _) (beB_ne _ _ (by decide)) (by rw [beB_len]; exact HLN.out); rw [HN.out] at ho; have HRUN := Lib.hid hrun; have HO6 := Lib.hid ho; clear hm5 hrun ho)
        | (at_builtin; refine wpList_append_run _ rfl _ _ _ _ rfl _ _ rfl rfl HRUN.out ?_))
      go_roundw
      case rel => exact ⟨i + 1, a5, l5, cc5, by omega, by go_num, rfl, HO6⟩
      case measure => simp [intOf]; omega
    · obtain rfl : i = 2 := by omega
      have HO7 := Lib.hid ho.out
      have HL7 : Hid ((headL k m u g l s 6 ++ timesL t0 t1 2).length = 28) := by show _ = _; rw [List.length_append, head_len, times_len]
      clear ho HO
      generalize hq : headL k m u g l s 6 ++ timesL t0 t1 2 = b7 at HO7 HL7
      have HE7 := Lib.hid hq
      clear hq
      obtain ⟨_, _, _, _, _, _, _, _, c8, c9, _⟩ := HIr.out.cells
      have HLNK := Lib.hid HFIT.out.ln64
      go_upto_region 13 with (first
        | (go_at_call 50; refine (refText_good ln 65 _ (by decide) (by have := HLNK.out; omega)).mono ?_; rintro e w8 ⟨v8, rfl, hm8⟩; obtain ⟨a8, l8, cc8, w9, hrun, ho⟩ := HO7.out.made hm8 (textB_range _ _ (by have := HLNK.out; omega)) (textB_ne _ _) (by rw [textB_len _ _ (by have := HLNK.out; omega), HL7.out]; omega); have HRUN := Lib.hid hrun; have HO9 := Lib.hid ho; have HI9 := Lib.hid (HI.out.below ho.2.2); clear hm8 hrun ho)
        | (at_builtin; refine wpList_append_run _ rfl _ _ _ _ rfl _ _ rfl rfl HRUN.out ?_))
      clear HRUN HIr c8 c9
      have HL9 : Hid ((b7 ++ textB ln 65).length = 93) := by show _ = _; rw [List.length_append, HL7.out, textB_len _ _ (by have := HLNK.out; omega)]
      generalize hq : b7 ++ textB ln 65 = b9 at HO9 HL9
      have HE9 := Lib.hid hq
      clear hq HO7 HL7
      obtain ⟨_, _, _, _, _, _, _, _, _, c9, _⟩ := HI9.out.cells
      have HX16 := Lib.hid HFIT.out.xn4
      have hx4 : xn ≤ 4 := HFIT.out.xn4
      have hx8 : IntKind.u8.wrap (xn : Int) = (xn : Int) := by rw [IntKind.wrap_u8]; omega
      obtain ⟨a10, l10, cc10, w10, hrun, ho⟩ := HO9.out.one xn (by omega) (by rw [HL9.out]; omega)
      have HRUN := Lib.hid hrun
      have HO10 := Lib.hid ho
      clear hrun ho
      go_upto_region 14 with (at_builtin; refine wpList_append_run _ rfl _ _ _ _ rfl _ _ rfl rfl HRUN.out ?_)
      clear HRUN c9 hx8 hx4
      have HL10 : Hid ((b9 ++ beB xn 1).length = 94) := by show _ = _; rw [List.length_append, HL9.out, beB_len]
      rw [← beB_one xn (by have := HX16.out; omega)] at HO10
      generalize hq : b9 ++ beB xn 1 = b10 at HO10 HL10
      have HE10 := Lib.hid hq
      clear hq HO9 HL9 HI9
      go_wp2_with fail
      go_loopw [3, 7] (fun bv iv wr => ∃ i : Nat, ∃ a l' c, i ≤ xn ∧ iv = .int .i64 i ∧ bv = .slice a l' c ∧ Hid (Own w1 wr (.slice a l' c) (b10 ++ xattL XN VB i))) (fun _ iv _ => xn - (intOf iv).toNat)
      case atStart => exact ⟨0, _, _, _, Nat.zero_le _, rfl, rfl, by show Own _ _ _ (_ ++ []); rw [List.append_nil]; exact HO10.out⟩
      case round =>
        obtain ⟨i, a, l', c, hix, rfl, rfl, ho⟩ := hrel
        have HIr := Lib.hid (HI.out.below ho.out.2.2)
        have hx4 : xn ≤ 4 := HFIT.out.xn4
        obtain ⟨_, _, _, _, _, _, _, _, _, c9, _⟩ := HIr.out.cells
        by_cases hlt : i < xn
        · have HXr := Lib.hid (HX1.out.below ho.out.2.2)
          obtain ⟨ha, hcell⟩ := HXr.out.2.2 (by omega)
          subst ha
          obtain ⟨d0, d1⟩ := hcell i hlt
          obtain ⟨VL, VO, hvb⟩ := HV1.out i hlt
          have HVB := Lib.hid hvb
          obtain ⟨hp12, hv40⟩ := HFIT.out.xs i hlt
          have hlv : VN i = (VB i).length := hvb.len.1
          have HLX : Hid ((xattL XN VB i).length = i * 54) := xatt_len XN VB i (fun j hj => ⟨(HFIT.out.xs j (by omega)).1, by
            obtain ⟨_, _, hb⟩ := HV1.out j (by omega)
            have h1 := hb.len.1
            have h2 := (HFIT.out.xs j (by omega)).2
            rw [strOfNums_size]; omega⟩)
          have HN : Hid (((b10 ++ xattL XN VB i) ++ textB (XN i) 13) ++ textB (strOfNums (VB i)) 41 = b10 ++ xattL XN VB (i + 1)) := by
            show _ = b10 ++ (xattL XN VB i ++ (textB (XN i) 13 ++ textB (strOfNums (VB i)) 41))
            simp [List.append_assoc]
          clear hcell hvb
          obtain ⟨p, hp⟩ : ∃ x, Hid (XN i = x) := ⟨_, rfl⟩
          obtain ⟨va, hva⟩ : ∃ x, Hid (VA i = x) := ⟨_, rfl⟩
          obtain ⟨vn, hvn⟩ : ∃ x, Hid (VN i = x) := ⟨_, rfl⟩
          obtain ⟨vc, hvc⟩ : ∃ x, Hid (VC i = x) := ⟨_, rfl⟩
          obtain ⟨vb, hvb⟩ : ∃ x, Hid (VB i = x) := ⟨_, rfl⟩
          rw [hp.out] at d0 hp12 HN
          rw [hva.out, hvn.out, hvc.out] at d1
          rw [hva.out, hvn.out, hvc.out, hvb.out] at HVB
          rw [hvn.out] at hv40 hlv
          rw [hvb.out] at HN hlv
          have hsz : (strOfNums vb).size ≤ 40 := by rw [strOfNums_size]; omega
          have HLB : Hid ((b10 ++ xattL XN VB i).length ≤ 400) := by have := HLX.out; have := HL10.out; have := HX16.out; show _ ≤ _; rw [List.length_append]; omega
          have HOr := Lib.hid ho.out
          clear ho hlv
          go_upto_region 19 with (first
            | (go_at_call 50; refine (refText_good p 13 _ (by decide) (by omega)).mono ?_; rintro e w8 ⟨v8, rfl, hm8⟩; obtain ⟨a8, l8, cc8, w9, hrun, ho⟩ := HOr.out.made hm8 (textB_range _ _ (by omega)) (textB_ne _ _) (by rw [textB_len _ _ (by omega)]; have := HLB.out; omega); have HRUN := Lib.hid hrun; have HO9 := Lib.hid ho; have HI9 := Lib.hid (HI.out.below ho.2.2); have HX9 := Lib.hid (HX1.out.below ho.2.2); clear hm8 hrun ho)
            | (at_builtin; refine wpList_append_run _ rfl _ _ _ _ rfl _ _ rfl rfl HRUN.out ?_))
          clear HRUN c9 d0 d1 HXr HIr
          have hs9 : ((b10 ++ xattL XN VB i) ++ textB p 13).length ≤ 420 := by have := HLB.out; rw [List.length_append, textB_len _ _ (by omega)]; omega
          generalize (b10 ++ xattL XN VB i) ++ textB p 13 = b11 at HO9 HN hs9
          have HS9 := Lib.hid hs9
          obtain ⟨_, _, _, _, _, _, _, _, _, c9, _⟩ := HI9.out.cells
          obtain ⟨_, d1⟩ := (HX9.out.2.2 (by omega)).2 i hlt
          rw [hva.out, hvn.out, hvc.out] at d1
          have hstr := Bts.run_str ⟨VL, VO, Nat.zero_le _, HVB.out.below HO9.out.2.2⟩ 32 9 5 Try.underlying32 Try.underlying5 Try.underlying9
          clear hs9
          go_wp2_with (first
            | (go_at_call 50; refine (refText_good (strOfNums vb) 41 _ (by decide) (by omega)).mono ?_; rintro e w10 ⟨v10, rfl, hm10⟩; obtain ⟨a11, l11, cc11, w11, hrun, ho⟩ := HO9.out.made hm10 (textB_range _ _ (by omega)) (textB_ne _ _) (by rw [textB_len _ _ (by omega)]; have := HS9.out; omega); rw [HN.out] at ho; have HRUN := Lib.hid hrun; have HO11 := Lib.hid ho; clear hm10 hrun ho)
            | (at_builtin; refine wpList_append_run _ rfl _ _ _ _ rfl _ _ rfl rfl HRUN.out ?_))
          go_roundw
          case rel => exact ⟨i + 1, a11, l11, cc11, by omega, by go_num, rfl, HO11⟩
          case measure => simp [intOf]; omega
        · have e : i = xn := by omega
          rw [e] at ho ⊢
          clear e
          have HO9 := Lib.hid ho.out
          have HL9 : Hid ((b10 ++ xattL XN VB xn).length ≤ 310) := by
            have := xatt_len XN VB xn (fun j hj => ⟨(HFIT.out.xs j hj).1, by
              obtain ⟨_, _, hb⟩ := HV1.out j hj
              have h1 := hb.len.1
              have h2 := (HFIT.out.xs j hj).2
              rw [strOfNums_size]; omega⟩)
            have := HL10.out; have := HX16.out; show _ ≤ _; rw [List.length_append]; omega
          generalize hq : b10 ++ xattL XN VB xn = b12 at HO9 HL9
          have HE12 := Lib.hid hq
          clear hq ho HO10 HL10
          obtain ⟨_, _, _, _, _, _, _, _, _, _, c10⟩ := HIr.out.cells
          have hx9 : en ≤ 40 := HFIT.out.ex.1
          have HEN := Lib.hid hx9
          have hx8 : IntKind.u8.wrap (en : Int) = (en : Int) := by rw [IntKind.wrap_u8]; omega
          obtain ⟨a13, l13, cc13, w13, hrun, ho⟩ := HO9.out.one en (by omega) (by have := HL9.out; omega)
          have HRUN := Lib.hid hrun
          have HO13 := Lib.hid ho
          clear hrun ho
          go_upto_region 22 with (at_builtin; refine wpList_append_run _ rfl _ _ _ _ rfl _ _ rfl rfl HRUN.out ?_)
          clear HRUN c9 c10 hx8 hx9
          rw [← beB_one en (by have := HEN.out; omega)] at HO13
          have HL13 : Hid ((b12 ++ beB en 1).length ≤ 311) := by have := HL9.out; show _ ≤ _; rw [List.length_append, beB_len]; omega
          generalize hq : b12 ++ beB en 1 = b13 at HO13 HL13
          have HE13 := Lib.hid hq
          clear hq HO9 HL9 HIr
          have hen40 : en ≤ 40 := HEN.out
          go_wp2_with fail
          go_loopw [3, 8] (fun bv iv wr => ∃ i : Nat, ∃ a l' c, i ≤ en ∧ iv = .int .i64 i ∧ bv = .slice a l' c ∧ Hid (Own w1 wr (.slice a l' c) (b13 ++ extL F H N i))) (fun _ iv _ => en - (intOf iv).toNat)
          case atStart => exact ⟨0, _, _, _, Nat.zero_le _, rfl, rfl, by show Own _ _ _ (_ ++ []); rw [List.append_nil]; exact HO13.out⟩
          case round =>
            obtain ⟨i, a, l', c, hix, rfl, rfl, ho⟩ := hrel
            have HIr := Lib.hid (HI.out.below ho.out.2.2)
            obtain ⟨_, _, _, _, _, _, _, _, _, _, c10⟩ := HIr.out.cells
            by_cases hlt : i < en
            · have HEr := Lib.hid (HE1.out.below ho.out.2.2)
              obtain ⟨ha, hcell⟩ := HEr.out.2.2 (by omega)
              subst ha
              obtain ⟨d0, d1, d2⟩ := hcell i hlt
              have hh := HFIT.out.ex.2.one i hlt
              have HN : Hid ((b13 ++ extL F H N i) ++ [F i, H i, N i] = b13 ++ extL F H N (i + 1)) := List.append_assoc _ _ _
              have HLB : Hid ((b13 ++ extL F H N i).length ≤ 440) := by have := HL13.out; have := HEN.out; show _ ≤ _; rw [List.length_append, ext_len]; omega
              clear hcell
              obtain ⟨f, hf⟩ : ∃ x, Hid (F i = x) := ⟨_, rfl⟩
              obtain ⟨hm, hhm⟩ : ∃ x, Hid (H i = x) := ⟨_, rfl⟩
              obtain ⟨nn, hnn⟩ : ∃ x, Hid (N i = x) := ⟨_, rfl⟩
              rw [hf.out] at d0
              rw [hhm.out] at d1
              rw [hnn.out] at d2
              rw [hf.out, hhm.out, hnn.out] at hh HN
              obtain ⟨o1, o2, o3, o4, o5, o6⟩ := hh
              obtain ⟨a14, l14, cc14, w14, hrun, ho14⟩ := ho.out.three f hm nn (by omega) (by omega) (by omega) (by have := HLB.out; omega)
              rw [HN.out] at ho14
              have HRUN := Lib.hid hrun
              have HO14 := Lib.hid ho14
              have HI14 := Lib.hid (HI.out.below ho14.2.2)
              have HE14 := Lib.hid (HE1.out.below ho14.2.2)
              have q0 : IntKind.u8.wrap f = f := by rw [IntKind.wrap_u8]; omega
              have q1 : IntKind.u8.wrap hm = hm := by rw [IntKind.wrap_u8]; omega
              have q2 : IntKind.u8.wrap nn = nn := by rw [IntKind.wrap_u8]; omega
              have KEEP : w14.cell? ⟨X, 10, none⟩ = some (.slice (some ⟨L, off, none⟩) en ec) ∧ w14.cell? ⟨L, off + i * 3, none⟩ = some (.int .i64 f) ∧ w14.cell? ⟨L, off + i * 3 + 1, none⟩ = some (.int .i64 hm) ∧ w14.cell? ⟨L, off + i * 3 + 2, none⟩ = some (.int .i64 nn) := by
                obtain ⟨_, _, _, _, _, _, _, _, _, _, k10⟩ := HI14.out.cells
                obtain ⟨e0, e1, e2⟩ := (HE14.out.2.2 (by omega)).2 i hlt
                rw [hf.out] at e0
                rw [hhm.out] at e1
                rw [hnn.out] at e2
                exact ⟨k10, e0, e1, e2⟩
              obtain ⟨k10, k0, k1, k2⟩ := KEEP
              clear hrun ho14 o1 o2 o3 o4 o5 o6
              go_upto_region 25 with fail
              go_region_held3 (fun w' => w'.cell? ⟨X, 10, none⟩ = some (.slice (some ⟨L, off, none⟩) en ec) ∧ w'.cell? ⟨L, off + i * 3, none⟩ = some (.int .i64 f) ∧ w'.cell? ⟨L, off + i * 3 + 1, none⟩ = some (.int .i64 hm) ∧ w'.cell? ⟨L, off + i * 3 + 2, none⟩ = some (.int .i64 nn))
                (first | go_keep | exact ⟨k10, k0, k1, k2⟩) (first | (refine step_append_run (by rfl) _ _ _ _ (by rfl) _ _ (by rfl) (by rfl) HRUN.out ?_))
              go_wp2
              go_roundw
              case rel => exact ⟨i + 1, a14, l14, cc14, by omega, by go_num, rfl, HO14⟩
              case measure => simp [intOf]; omega
            · have e : i = en := by omega
              rw [e] at ho ⊢
              clear e
              have HO15 := Lib.hid ho.out
              have HBODY : Hid (bodyL k m u g l s t0 t1 ln xn en F H N XN VB = b13 ++ extL F H N en) := by
                show _ = _; unfold bodyL; rw [HE7.out, HE9.out, HE10.out, HE12.out, HE13.out]
              have HL15 : Hid ((b13 ++ extL F H N en).length ≤ 431) := by have := HL13.out; have := HEN.out; show _ ≤ _; rw [List.length_append, ext_len]; omega
              generalize hq : b13 ++ extL F H N en = b15 at HO15 HBODY HL15
              have HE15 := Lib.hid hq
              clear hq ho HO13 hlt hix
              go_wp2_with fail
              go_loopw [3] (fun bv wr => ∃ j : Nat, ∃ a l' c, l' ≤ 440 ∧ bv = .slice a l' c ∧ Hid (l' = b15.length + j) ∧ Hid (Own w1 wr (.slice a l' c) (b15 ++ List.replicate j 0))) (fun bv _ => 440 - lenOf bv)
              case atStart => exact ⟨0, _, _, _, by have := HO15.out.len; have := HL15.out; omega, rfl, HO15.out.len, by show Own _ _ _ (_ ++ []); rw [List.append_nil]; exact HO15.out⟩
              case round =>
                obtain ⟨j, a, l', c, hl', rfl, hlen, ho⟩ := hrel
                by_cases hlt : l' < 440
                · have HN : Hid ((b15 ++ List.replicate j 0) ++ [0] = b15 ++ List.replicate (j + 1) 0) := by
                    show _ = _
                    rw [List.append_assoc, ← List.replicate_succ']
                  obtain ⟨a16, l16, cc16, w16, hrun, ho16⟩ := ho.out.one 0 (by omega) (by have := hlen.out; rw [List.length_append, List.length_replicate]; omega)
                  rw [HN.out] at ho16
                  have HRUN := Lib.hid hrun
                  have HO16 := Lib.hid ho16
                  have HL16 : Hid (l16 = b15.length + (j + 1)) := by have := ho16.len; rw [List.length_append, List.length_replicate] at this; exact this
                  have h16 : l16 ≤ 440 := by have := HL16.out; have := hlen.out; omega
                  have HM : Hid (440 - l16 < 440 - l') := by have := HL16.out; have := hlen.out; show _ < _; omega
                  clear hrun ho16
                  go_wp2_with (at_builtin; refine wpList_append_run _ rfl _ _ _ _ rfl _ _ rfl rfl HRUN.out ?_)
                  go_roundw
                  case rel => exact ⟨j + 1, a16, l16, cc16, h16, rfl, HL16, HO16⟩
                  case measure => exact HM.out
                · have HPAY : Hid (b15 ++ List.replicate j 0 = payL k m u g l s t0 t1 ln xn en F H N XN VB) := by
                    have := hlen.out
                    show _ = _
                    unfold payL
                    rw [HBODY.out]
                    congr 2; omega
                  have HO17 := Lib.hid ho.out
                  rw [HPAY.out] at HO17
                  clear ho hlen
                  go_wp2
                  go_ret
                  exact ⟨_, rfl, (HO17.out.bts (pay_range HFIT.out (fun i hi => by obtain ⟨_, _, hb⟩ := HV1.out i hi; exact hb.len.1.symm))).mono (HW1.out.size), by rw [hX.out]; exact HW1.out.trans (HO17.out.2.2.mono (by rw [← hX.out]; exact hX.out ▸ HW1.out.size))⟩
end Go.Proofs.Ytebnekpccdcnmaa
