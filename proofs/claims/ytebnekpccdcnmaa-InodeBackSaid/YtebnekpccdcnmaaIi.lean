/- Walks of the layer inode: Encode. -/
import Derived.Test.YtebnekpccdcnmaaIh
import Derived.Outline
namespace Go.Proofs.Ytebnekpccdcnmaa
set_option linter.unusedVariables false
set_option linter.unusedSimpArgs false
open Go.RowKit

theorem xatt_len (XN : Nat → ByteArray) (VB : Nat → List Int) (n : Nat) (h : ∀ i, i < n → (XN i).size ≤ 12 ∧ (strOfNums (VB i)).size ≤ 40) : (xattL XN VB n).length = n * 54 :=
  catL_len _ _ _ fun i hi => by
    obtain ⟨h1, h2⟩ := h i hi
    show (textB (XN i) 13 ++ textB (strOfNums (VB i)) 41).length = 54
    rw [List.length_append, textB_len _ _ (by omega), textB_len _ _ (by omega)]

theorem Own.len {w0 w : World} {a : Option Addr} {l c : Nat} {xs : List Int} (h : Own w0 w (.slice a l c) xs) : l = xs.length := by
  rcases h.2.1.2 with ⟨e, e0⟩ | ⟨g, cap, cur, e, _⟩
  · injection e with _ e _; omega
  · injection e with _ e _
theorem catL_range (f : Nat → List Int) : ∀ n, (∀ i, i < n → ∀ x ∈ f i, 0 ≤ x ∧ x < 256) → ∀ x ∈ catL f n, 0 ≤ x ∧ x < 256
  | 0, _, x, hx => by cases hx
  | n + 1, h, x, hx => by
    rcases List.mem_append.1 hx with hx | hx
    · exact catL_range f n (fun i hi => h i (by omega)) x hx
    · exact h n (by omega) x hx
theorem pay_range {k m u g l s : Nat} {t0 t1 : Nat} {ln : ByteArray} {xn en : Nat} {F H N : Nat → Int} {XN : Nat → ByteArray} {VB : Nat → List Int} {VN : Nat → Nat} (h : Fits k m u g l s t0 t1 ln xn en F H N XN VN) (hv : ∀ i, i < xn → (VB i).length = VN i) :
    ∀ x ∈ payL k m u g l s t0 t1 ln xn en F H N XN VB, 0 ≤ x ∧ x < 256 := by
  intro x hx
  unfold payL bodyL at hx
  simp only [List.mem_append] at hx
  rcases hx with ((((((hx | hx) | hx) | hx) | hx) | hx) | hx) | hx
  · exact catL_range _ _ (fun i _ => beB_range _ _) x hx
  · exact catL_range _ _ (fun i _ => beB_range _ _) x hx
  · exact textB_range _ _ (by have := h.ln64; omega) x hx
  · exact beB_range _ _ x hx
  · refine catL_range _ _ (fun i hi y hy => ?_) x hx
    obtain ⟨h1, h2⟩ := h.xs i hi
    rcases List.mem_append.1 hy with hy | hy
    · exact textB_range _ _ (by omega) y hy
    · exact textB_range _ _ (by rw [strOfNums_size, hv i hi]; omega) y hy
  · exact beB_range _ _ x hx
  · refine catL_range _ _ (fun i hi y hy => ?_) x hx
    obtain ⟨o1, o2, o3, o4, o5, o6⟩ := h.ex.2.one i hi
    simp only [List.mem_cons, List.not_mem_nil, or_false] at hy
    rcases hy with rfl | rfl | rfl <;> omega
  · have := List.eq_of_mem_replicate hx
    omega
theorem Wr.lit {w0 w : World} {P : Nat} {a : Option Addr} {l c : Nat} {xs : List Int} (h : Wr w0 w P a l c xs) (x y z : Int) (hx : 0 ≤ x ∧ x < 256) (hy : 0 ≤ y ∧ y < 256) (hz : 0 ≤ z ∧ z < 256) (hlen : xs.length + 3 ≤ 20000) :
    ∃ a' l' c' w3, (Builtin.append_ #[32, 32] 32 #[.slice a l c, .slice (some ⟨w.heap.size, 0, none⟩) 3 3]).run Try.prog (w.alloc (.cells #[.int .u8 x, .int .u8 y, .int .u8 z] 5)).drew = .ok (.slice a' l' c') w3 ∧
      w3.cell? ⟨P, 0, none⟩ = some (.slice a l c) ∧ w3.frozen? ⟨P, 0, none⟩ = false ∧ Kept P w w3 ∧
      Wr w0 (w3.setCell ⟨P, 0, none⟩ (.slice a' l' c')) P a' l' c' (xs ++ [x, y, z]) := by
  have hb : Below w.heap.size w (w.alloc (.cells #[.int .u8 x, .int .u8 y, .int .u8 z] 5)).drew := ((Below.refl _ _).alloc (Nat.le_refl _) _).drew
  have h2 := h.below hb
  have hbt : BtsAt (w.alloc (.cells #[.int .u8 x, .int .u8 y, .int .u8 z] 5)).drew w.heap.size 0 (.slice (some ⟨w.heap.size, 0, none⟩) 3 3) [x, y, z] := by
    refine ⟨_, 3, rfl, Nat.le_refl _, by unfold maxLen; omega, fun v hv => ?_, fun _ => ⟨rfl, fun i hi => ?_⟩⟩
    · simp only [List.mem_cons, List.not_mem_nil, or_false] at hv
      rcases hv with rfl | rfl | rfl <;> assumption
    · have hn := heap_alloc_new w (.cells #[.int .u8 x, .int .u8 y, .int .u8 z] 5)
      rw [Nat.zero_add]
      refine (cell_of_row _ _ i _ _ (0, 0) hn).trans ?_
      match i, hi with
      | 0, _ | 1, _ | 2, _ => rfl
  obtain ⟨v3, w3, hrun, ho3, hk⟩ := h2.own.append hbt (by simp) hlen
  obtain ⟨⟨a', l', c', rfl⟩, _⟩ := id ho3
  have hp3 := hk (P + 1) P _ _ _ (by omega) (by decide) h2.at_
  exact ⟨a', l', c', w3, hrun, cell_of_one hp3, free_of_one hp3, (Kept.of_below hb).trans (hk P), ⟨ho3.set hp3 h.low, one_setCell hp3, h.low⟩⟩
theorem fv_fits {k m u g l s : Nat} {t0 t1 : Nat} {ln : ByteArray} {xn en : Nat} {F H N : Nat → Int} {XN : Nat → ByteArray} {VN : Nat → Nat} (h : Fits k m u g l s t0 t1 ln xn en F H N XN VN) (i : Nat) :
    fv k m u g l s i < 2 ^ (8 * nb i) ∧ fv k m u g l s i < 9223372036854775808 ∧ 1 ≤ nb i ∧ nb i ≤ 8 := by
  obtain ⟨h1, h2, h3, h4, h5, h6, _⟩ := h
  match i with
  | 0 => simp [fv, nb]; omega
  | 1 => simp [fv, nb]; omega
  | 2 => simp [fv, nb]; omega
  | 3 => simp [fv, nb]; omega
  | 4 => simp [fv, nb]; omega
  | _ + 5 => simp [fv, nb]; omega
theorem pairs_at {w : World} {B : Nat} {k m u g l s : Nat} (h : w.heap[B]? = some (.cells #[.int .i64 k, .int .i64 1, .int .i64 m, .int .i64 2, .int .i64 u, .int .i64 2, .int .i64 g, .int .i64 2, .int .i64 l, .int .i64 1, .int .i64 s, .int .i64 4] 53 (0, 0))) (i : Nat) (hi : i < 6) :
    w.cell? ⟨B, i * 2, none⟩ = some (.int .i64 (fv k m u g l s i)) ∧ w.cell? ⟨B, i * 2 + 1, none⟩ = some (.int .i64 (nb i)) := by
  rw [cell_of_row _ _ _ _ _ (0, 0) h, cell_of_row _ _ _ _ _ (0, 0) h]
  match i, hi with
  | 0, _ | 1, _ | 2, _ | 3, _ | 4, _ | 5, _ => exact ⟨rfl, rfl⟩

set_option maxRecDepth 100000 in
set_option maxHeartbeats 4000000 in
theorem encode_good (k m u g l s : Nat) (t0 t1 : Nat) (ln : ByteArray) (xa ea : Option Addr) (xn xc en ec L off L' off' : Nat) (F H N : Nat → Int) (XN : Nat → ByteArray) (VA : Nat → Option Addr) (VN VC : Nat → Nat) (VB : Nat → List Int) (w : World)
    (h : ExAt w L off ea en ec F H N) (hx : XaAt w L' off' xa xn xc XN VA VN VC) (hv : ∀ i, i < xn → ∃ VL VO, BtsAt w VL VO (.slice (VA i) (VN i) (VC i)) (VB i)) (hw0 : W t0) (hw1 : W t1)
    (hr : rightB k m u g l s t0 t1 ln xn en F H N XN VN = true) (hfit : Fits k m u g l s t0 t1 ln xn en F H N XN VN) :
    Calls Try.prog 7 #[(Ino.mk k m u g l s t0 t1 ln xa xn xc ea en ec).val] w fun e w' => ∃ v, e = .returned (.tuple #[v, .int .i64 0]) ∧ Bts w' w.heap.size v (payL k m u g l s t0 t1 ln xn en F H N XN VB) ∧ Below w.heap.size w w' := by
  unfold Ino.val
  dsimp only
  obtain ⟨i0, hi, hz0, hz1, hz2⟩ := info_parts Try.infoByte
  have hal : Below w.heap.size w (w.alloc (.cells #[.int .i64 k, .int .i64 m, .int .i64 u, .int .i64 g, .int .i64 l, .int .i64 s, .float .f64 t0, .float .f64 t1, .string ln, .slice xa xn xc, .slice ea en ec] 31)) := (Below.refl _ _).alloc (Nat.le_refl _) _
  have HW1 := Lib.hid hal
  have HI := Lib.hid (InoAt.new w k m u g l s t0 t1 ln xa xn xc ea en ec)
  have HE1 := Lib.hid (h.below hal)
  have HX1 := Lib.hid (hx.below hal)
  have HV1 : Hid (∀ i, i < xn → ∃ VL VO, BtsAt (w.alloc (.cells #[.int .i64 k, .int .i64 m, .int .i64 u, .int .i64 g, .int .i64 l, .int .i64 s, .float .f64 t0, .float .f64 t1, .string ln, .slice xa xn xc, .slice ea en ec] 31)) VL VO (.slice (VA i) (VN i) (VC i)) (VB i)) := fun i hi => by
    obtain ⟨VL, VO, hb⟩ := hv i hi
    exact ⟨VL, VO, hb.below hal⟩
  have HFIT := Lib.hid hfit
  have HT : Hid (∀ i, W (tv t0 t1 i)) := fun i => by unfold tv; split <;> assumption
  have HC : Hid (∀ w, ExAt w L off ea en ec F H N → XaAt w L' off' xa xn xc XN VA VN VC → Calls Try.prog 9 #[.agg #[.int .i64 k, .int .i64 m, .int .i64 u, .int .i64 g, .int .i64 l, .int .i64 s, .float .f64 t0, .float .f64 t1, .string ln, .slice xa xn xc, .slice ea en ec]] w fun e w' => e = .returned (.int .i64 0) ∧ Below w.heap.size w w') := fun w h hx => by
    have := check_ino k m u g l s t0 t1 ln xa ea xn xc en ec L off L' off' F H N XN VA VN VC w h hx
    rw [if_pos hr] at this
    exact this
  clear h hx hv hw0 hw1 hr hfit hal
  go_enter Try.func7, Try.ntmps7
  go_upto_region 5 with (go_at_call 9; refine (HC.out _ HE1.out HX1.out).mono ?_; rintro e w2 ⟨rfl, hb⟩; have HI2 := Lib.hid (HI.out.below hb); have HE2 := Lib.hid (HE1.out.below hb); have HX2 := Lib.hid (HX1.out.below hb); have HV2 : Hid (∀ i, i < xn → ∃ VL VO, BtsAt w2 VL VO (.slice (VA i) (VN i) (VC i)) (VB i)) := (fun i hi => by obtain ⟨VL, VO, hb'⟩ := HV1.out i hi; exact ⟨VL, VO, hb'.below hb⟩); have HB2 := Lib.hid (HW1.out.trans (hb.mono HW1.out.size)); clear hb)
  clear HI HE1 HX1 HW1 HV1 HC
  obtain ⟨X, hX⟩ : ∃ X, Hid (w.heap.size = X) := ⟨_, rfl⟩
  rw [hX.out] at HI2 ⊢
  have hal : Below w2.heap.size w2 (w2.alloc (.cells #[.slice none 0 0] 52)) := (Below.refl _ _).alloc (Nat.le_refl _) _
  have HW3 := Lib.hid (Wr.new w2)
  have HI3 := Lib.hid (HI2.out.below hal)
  have HE3 := Lib.hid (HE2.out.below hal)
  clear hal
  generalize (w2.alloc (.cells #[.slice none 0 0] 52)) = w3 at HW3 HI3 HE3 ⊢
  obtain ⟨P, hP⟩ : ∃ P, Hid (w2.heap.size = P) := ⟨_, rfl⟩
  rw [hP.out] at HW3 ⊢
  obtain ⟨c0, c1, c2, c3, c4, c5, c6, c7, c8, c9, c10⟩ := HI3.out.cells
  go_wp2_with fail
  have hal : Below w3.heap.size w3 (w3.alloc (.cells #[.int .i64 k, .int .i64 1, .int .i64 m, .int .i64 2, .int .i64 u, .int .i64 2, .int .i64 g, .int .i64 2, .int .i64 l, .int .i64 1, .int .i64 s, .int .i64 4] 53)) := (Below.refl _ _).alloc (Nat.le_refl _) _
  have HW4 := Lib.hid (HW3.out.below hal)
  have HA4 : Hid ((w3.alloc (.cells #[.int .i64 k, .int .i64 1, .int .i64 m, .int .i64 2, .int .i64 u, .int .i64 2, .int .i64 g, .int .i64 2, .int .i64 l, .int .i64 1, .int .i64 s, .int .i64 4] 53)).heap[w3.heap.size]? = some (.cells #[.int .i64 k, .int .i64 1, .int .i64 m, .int .i64 2, .int .i64 u, .int .i64 2, .int .i64 g, .int .i64 2, .int .i64 l, .int .i64 1, .int .i64 s, .int .i64 4] 53 (0, 0))) := heap_alloc_new w3 _
  have HPB : Hid (w3.heap.size ≠ P) := by have := lt_of_block HW3.out.at_; show _ ≠ _; omega
  clear hal
  generalize (w3.alloc (.cells #[.int .i64 k, .int .i64 1, .int .i64 m, .int .i64 2, .int .i64 u, .int .i64 2, .int .i64 g, .int .i64 2, .int .i64 l, .int .i64 1, .int .i64 s, .int .i64 4] 53)) = w4 at HW4 HA4 ⊢
  obtain ⟨B, hB⟩ : ∃ B, Hid (w3.heap.size = B) := ⟨_, rfl⟩
  rw [hB.out] at HA4 HPB ⊢
  clear HI3 HE3 c0 c1 c2 c3 c4 c5 c6 c7 c8 c9 c10
  go_loopw [41] (fun iv wr => ∃ i : Nat, ∃ a l' c, i ≤ 6 ∧ iv = .int .i64 i ∧ Hid (Wr w2 wr P a l' c (headL k m u g l s i)) ∧ Hid (Kept P w4 wr)) (fun iv _ => 6 - (intOf iv).toNat)
  case atStart => exact ⟨0, none, 0, 0, Nat.zero_le _, rfl, HW4.out, Kept.refl _ _⟩
  case round =>
    obtain ⟨i, a, l', c, hi6, rfl, hwr, hk⟩ := hrel
    by_cases hlt : i < 6
    · obtain ⟨d0, d1⟩ := pairs_at (hk.out B _ _ _ HPB.out (by decide) HA4.out) i hlt
      obtain ⟨hf1, hf2, hf3, hf4⟩ := fv_fits HFIT.out i
      have HN : Hid (headL k m u g l s (i + 1) = headL k m u g l s i ++ beB (fv k m u g l s i) (nb i)) := rfl
      have HLN := Lib.hid (head_few k m u g l s i hi6)
      obtain ⟨v, hv⟩ : ∃ v, Hid (fv k m u g l s i = v) := ⟨_, rfl⟩
      obtain ⟨mm, hmm⟩ : ∃ v, Hid (nb i = v) := ⟨_, rfl⟩
      rw [hv.out, hmm.out] at HN
      rw [hv.out] at d0 hf1 hf2
      rw [hmm.out] at d1 hf1 hf3 hf4
      have HFI := Lib.hid (fits_in v mm hf4 hf1)
      have hv64 : IntKind.u64.wrap (v : Int) = (v : Int) := IntWalk.u64_in _ (by omega)
      have hal : Below wr.heap.size wr (wr.alloc (.cells #[.int .i64 v, .int .i64 mm] 53)) := (Below.refl _ _).alloc (Nat.le_refl _) _
      have HWR := Lib.hid (hwr.out.below hal)
      have HK := Lib.hid (hk.out.trans (Kept.of_below hal))
      clear hal hf1
      go_wp2_with (go_at_call 16; refine (wnum_any w2 _ P a l' c _ HWR.out v mm hf3 hf4 HFI.out (by omega) (by have := HLN.out; omega)).mono ?_; rintro e w6 ⟨rfl, a6, l6, c6, hw6, hk6⟩; rw [← HN.out] at hw6; have HW6 := Lib.hid hw6; have HK6 := Lib.hid (HK.out.trans hk6); clear hw6 hk6)
      go_roundw
      case rel => exact ⟨i + 1, a6, l6, c6, by omega, by go_num, HW6, HK6⟩
      case measure => simp [intOf]; omega
    · obtain rfl : i = 6 := by omega
      rw [show ((6 : Nat) : Int) = 6 from rfl]
      have HIr := Lib.hid (HI2.out.below hwr.out.own.2.2)
      have HW5 := Lib.hid hwr.out
      clear hk hwr HA4 HW4 HW3 HPB
      obtain ⟨_, _, _, _, _, _, c6, c7, _, _, _⟩ := HIr.out.cells
      go_wp2_with fail
      clear c6 c7 HIr
      go_loopw [55] (fun iv wr => ∃ i : Nat, ∃ a l' c, i ≤ 2 ∧ iv = .int .i64 i ∧ Hid (Wr w2 wr P a l' c (headL k m u g l s 6 ++ timesL t0 t1 i))) (fun iv _ => 2 - (intOf iv).toNat)
      case atStart => exact ⟨0, _, _, _, Nat.zero_le _, rfl, by show Wr _ _ _ _ _ _ (_ ++ []); rw [List.append_nil]; exact HW5.out⟩
      case round =>
        obtain ⟨i, a, l', c, hi2, rfl, hwr⟩ := hrel
        by_cases hlt : i < 2
        · have HN : Hid ((headL k m u g l s 6 ++ timesL t0 t1 i) ++ beB (formW (tv t0 t1 i)) 8 = headL k m u g l s 6 ++ timesL t0 t1 (i + 1)) := List.append_assoc _ _ _
          have HLN : Hid ((headL k m u g l s 6 ++ timesL t0 t1 i).length + 8 ≤ 20000) := by show _ ≤ _; rw [List.length_append, head_len, times_len]; omega
          have HWT := Lib.hid (W_form _ (HT.out i))
          obtain ⟨t, ht⟩ : ∃ v, Hid (tv t0 t1 i = v) := ⟨_, rfl⟩
          have hix : ∀ W, (Instr.index 28 (.agg #[.float .f64 t0, .float .f64 t1]) (.int .i64 (i : Int))).run Try.prog W = .ok (.float .f64 t) W := fun W => run_index_times W _ i _ hlt (by
            rw [← ht.out]
            match i, hlt with
            | 0, _ | 1, _ => rfl)
          rw [ht.out] at HN HWT
          obtain ⟨ft, hft⟩ : ∃ v, Hid (formW t = v) := ⟨_, rfl⟩
          have HWR := Lib.hid hwr.out
          rw [hft.out] at HN HWT
          clear hwr
          go_wp2_with (first
            | (go_at_call 17; refine (bits_any _ _).mono ?_; rintro e w5 ⟨rfl, rfl⟩; rw [hft.out])
            | (go_at_call 16; refine (wnum_any w2 _ P a l' c _ HWR.out ft 8 (by decide) (by decide) (Or.inl rfl) HWT.out HLN.out).mono ?_; rintro e w6 ⟨rfl, a6, l6, c6, hw6, _⟩; rw [HN.out] at hw6; have HW6 := Lib.hid hw6; clear hw6))
          go_roundw
          case rel => exact ⟨i + 1, a6, l6, c6, by omega, by go_num, HW6⟩
          case measure => simp [intOf]; omega
        · obtain rfl : i = 2 := by omega
          rw [show ((2 : Nat) : Int) = 2 from rfl]
          have HIr := Lib.hid (HI2.out.below hwr.out.own.2.2)
          have HW6 := Lib.hid hwr.out
          have HL6 : Hid ((headL k m u g l s 6 ++ timesL t0 t1 2).length = 28) := by show _ = _; rw [List.length_append, head_len, times_len]
          clear hwr HW5
          generalize hq : headL k m u g l s 6 ++ timesL t0 t1 2 = b6 at HW6 HL6
          have HE6 := Lib.hid hq
          clear hq
          obtain ⟨_, _, _, _, _, _, _, _, c8, c9, _⟩ := HIr.out.cells
          go_upto_region 16 with (go_at_call 18; refine (wtext_any w2 _ P a l' c _ HW6.out ln 65 (by decide) (by have := HFIT.out.ln64; omega) (by have := HL6.out; omega)).mono ?_; rintro e w7 ⟨rfl, a7, l7, c7, hw7, _⟩; have HW7 := Lib.hid hw7; have HI7 := Lib.hid (HI2.out.below hw7.own.2.2); clear hw7 c8 c9; obtain ⟨_, _, _, _, _, _, _, _, _, c9, _⟩ := HI7.out.cells)
          have HX16 : Hid (xn ≤ 4) := HFIT.out.xn4
          have hx9 : xn ≤ 4 := HFIT.out.xn4
          have hx64 : IntKind.u64.wrap (xn : Int) = (xn : Int) := IntWalk.u64_in _ (by omega)
          have HFX := Lib.hid (fits_in xn 1 (by decide) (by omega))
          have HL7 : Hid ((b6 ++ textB ln 65).length = 93) := by show _ = _; rw [List.length_append, HL6.out, textB_len _ _ (by have := HFIT.out.ln64; omega)]
          generalize hq : b6 ++ textB ln 65 = b7 at HW7 HL7
          have HE7 := Lib.hid hq
          clear hq
          clear HW6 HIr HL6
          go_upto_region 17 with (go_at_call 16; refine (wnum_any w2 _ P _ _ _ _ HW7.out xn 1 (by decide) (by decide) HFX.out (by omega) (by have := HL7.out; omega)).mono ?_; rintro e w8 ⟨rfl, a8, l8, k8, hw8, _⟩; have HW8 := Lib.hid hw8; have HI8 := Lib.hid (HI2.out.below hw8.own.2.2); clear hw8 c9; obtain ⟨_, _, _, _, _, _, _, _, _, c9, _⟩ := HI8.out.cells)
          have HL8 : Hid ((b7 ++ beB xn 1).length = 94) := by show _ = _; rw [List.length_append, HL7.out, beB_len]
          generalize hq : b7 ++ beB xn 1 = b8 at HW8 HL8
          have HE8 := Lib.hid hq
          clear hq
          clear HW7 HI7 HL7 HFX hx64
          go_wp2_with fail
          clear c9 HI8
          go_loopw [76] (fun iv wr => ∃ i : Nat, ∃ a l' c, i ≤ xn ∧ iv = .int .i64 i ∧ Hid (Wr w2 wr P a l' c (b8 ++ xattL XN VB i))) (fun iv _ => xn - (intOf iv).toNat)
          case atStart => exact ⟨0, _, _, _, Nat.zero_le _, rfl, by show Wr _ _ _ _ _ _ (_ ++ []); rw [List.append_nil]; exact HW8.out⟩
          case round =>
            obtain ⟨i, a, l', c, hix, rfl, hwr⟩ := hrel
            by_cases hlt : i < xn
            · have HXr := Lib.hid (HX2.out.below hwr.out.own.2.2)
              obtain ⟨ha, hcell⟩ := HXr.out.2.2 (by omega)
              subst ha
              obtain ⟨d0, d1⟩ := hcell i hlt
              obtain ⟨VL, VO, hvb⟩ := HV2.out i hlt
              have HVB := Lib.hid hvb
              obtain ⟨hp12, hv40⟩ := HFIT.out.xs i hlt
              have hlv : VN i = (VB i).length := hvb.len.1
              have HLX : Hid ((xattL XN VB i).length = i * 54) := xatt_len XN VB i (fun j hj => ⟨(HFIT.out.xs j (by omega)).1, by
                obtain ⟨_, _, hb⟩ := HV2.out j (by omega)
                have h1 := hb.len.1
                have h2 := (HFIT.out.xs j (by omega)).2
                rw [strOfNums_size]; omega⟩)
              have HN : Hid (((b8 ++ xattL XN VB i) ++ textB (XN i) 13) ++ textB (strOfNums (VB i)) 41 = b8 ++ xattL XN VB (i + 1)) := by
                show _ = b8 ++ (xattL XN VB i ++ (textB (XN i) 13 ++ textB (strOfNums (VB i)) 41))
                simp [List.append_assoc]
              clear hcell hvb
              obtain ⟨p, hp⟩ : ∃ x, Hid (XN i = x) := ⟨_, rfl⟩
              obtain ⟨va, hva⟩ : ∃ x, Hid (VA i = x) := ⟨_, rfl⟩
              obtain ⟨vn, hvn⟩ : ∃ x, Hid (VN i = x) := ⟨_, rfl⟩
              obtain ⟨vc, hvc⟩ : ∃ x, Hid (VC i = x) := ⟨_, rfl⟩
              obtain ⟨vb, hvb⟩ : ∃ x, Hid (VB i = x) := ⟨_, rfl⟩
              rw [hp.out] at d0 hp12 HN
              rw [hva.out, hvn.out, hvc.out] at d1
              rw [hva.out, hvn.out, hvc.out, hvb.out] at HVB
              rw [hvn.out] at hv40 hlv
              rw [hvb.out] at HN hlv
              have hsz : (strOfNums vb).size ≤ 40 := by rw [strOfNums_size]; omega
              have hal : Below wr.heap.size wr (wr.alloc (.cells #[.string p, .slice va vn vc] 60)) := (Below.refl _ _).alloc (Nat.le_refl _) _
              have HWR := Lib.hid (hwr.out.below hal)
              have HY : Hid ((wr.alloc (.cells #[.string p, .slice va vn vc] 60)).heap[wr.heap.size]? = some (.cells #[.string p, .slice va vn vc] 60 (0, 0))) := heap_alloc_new wr _
              have HYP : Hid (wr.heap.size ≠ P) := by have := lt_of_block hwr.out.at_; show _ ≠ _; omega
              have HLB : Hid ((b8 ++ xattL XN VB i).length ≤ 400) := by have := HLX.out; have := HL8.out; have := HX16.out; show _ ≤ _; rw [List.length_append]; omega
              clear hal hwr hlv
              go_upto_region 21 with (go_at_call 18; refine (wtext_any w2 _ P a l' c _ HWR.out p 13 (by decide) (by omega) (by have := HLB.out; omega)).mono ?_; rintro e w9 ⟨rfl, a9, l9, k9, hw9, hk9⟩; have HW9 := Lib.hid hw9; have HY9 := Lib.hid (hk9 _ _ _ _ HYP.out (by decide) HY.out); clear hw9 hk9)
              have hs9 : ((b8 ++ xattL XN VB i) ++ textB p 13).length ≤ 420 := by have := HLB.out; rw [List.length_append, textB_len _ _ (by omega)]; omega
              generalize (b8 ++ xattL XN VB i) ++ textB p 13 = b9 at HW9 HN hs9
              have HS9 := Lib.hid hs9
              have y1 : w9.cell? ⟨wr.heap.size, 1, none⟩ = some (.slice va vn vc) := cell_of_row _ _ 1 _ _ (0, 0) HY9.out
              have HVB9 := Lib.hid (HVB.out.below HW9.out.own.2.2)
              have hstr := Bts.run_str ⟨VL, VO, Nat.zero_le _, HVB9.out⟩ 32 9 5 Try.underlying32 Try.underlying5 Try.underlying9
              clear d0 d1 HY HWR hs9
              go_wp2_with (go_at_call 18; refine (wtext_any w2 _ P a9 l9 k9 _ HW9.out (strOfNums vb) 41 (by decide) (by omega) (by have := HS9.out; omega)).mono ?_; rintro e w10 ⟨rfl, a10, l10, k10, hw10, _⟩; rw [HN.out] at hw10; have HW10 := Lib.hid hw10; clear hw10)
              go_roundw
              case rel => exact ⟨i + 1, a10, l10, k10, by omega, by go_num, HW10⟩
              case measure => simp [intOf]; omega
            · have e : i = xn := by omega
              rw [e] at hwr ⊢
              clear e
              have HIr := Lib.hid (HI2.out.below hwr.out.own.2.2)
              have HW9 := Lib.hid hwr.out
              have HL9 : Hid ((b8 ++ xattL XN VB xn).length ≤ 310) := by
                have := xatt_len XN VB xn (fun j hj => ⟨(HFIT.out.xs j hj).1, by
                  obtain ⟨_, _, hb⟩ := HV2.out j hj
                  have h1 := hb.len.1
                  have h2 := (HFIT.out.xs j hj).2
                  rw [strOfNums_size]; omega⟩)
                have := HL8.out; have := HX16.out; show _ ≤ _; rw [List.length_append]; omega
              generalize hq : b8 ++ xattL XN VB xn = b9 at HW9 HL9
              have HE9 := Lib.hid hq
              clear hq
              clear hwr HW8 HL8
              obtain ⟨_, _, _, _, _, _, _, _, _, _, c10⟩ := HIr.out.cells
              have hx9 : en ≤ 40 := HFIT.out.ex.1
              have HEN := Lib.hid hx9
              have hx64 : IntKind.u64.wrap (en : Int) = (en : Int) := IntWalk.u64_in _ (by omega)
              have HFX := Lib.hid (fits_in en 1 (by decide) (by omega))
              go_upto_region 24 with (go_at_call 16; refine (wnum_any w2 _ P _ _ _ _ HW9.out en 1 (by decide) (by decide) HFX.out (by omega) (by have := HL9.out; omega)).mono ?_; rintro e w10 ⟨rfl, a10, l10, k10, hw10, _⟩; have HW10 := Lib.hid hw10; have HI10 := Lib.hid (HI2.out.below hw10.own.2.2); clear hw10 c10; obtain ⟨_, _, _, _, _, _, _, _, _, _, c10⟩ := HI10.out.cells)
              have HL10 : Hid ((b9 ++ beB en 1).length ≤ 311) := by have := HL9.out; show _ ≤ _; rw [List.length_append, beB_len]; omega
              generalize hq : b9 ++ beB en 1 = b10 at HW10 HL10
              have HE10 := Lib.hid hq
              clear hq
              clear HW9 HIr HL9 HFX hx64 hx9
              go_wp2_with fail
              clear c10 HI10
              go_loopw [99] (fun iv wr => ∃ i : Nat, ∃ a l' c, i ≤ en ∧ iv = .int .i64 i ∧ Hid (Wr w2 wr P a l' c (b10 ++ extL F H N i))) (fun iv _ => en - (intOf iv).toNat)
              case atStart => exact ⟨0, _, _, _, Nat.zero_le _, rfl, by show Wr _ _ _ _ _ _ (_ ++ []); rw [List.append_nil]; exact HW10.out⟩
              case round =>
                obtain ⟨i, a, l', c, hix, rfl, hwr⟩ := hrel
                by_cases hlt : i < en
                · have HEr := Lib.hid (HE2.out.below hwr.out.own.2.2)
                  obtain ⟨ha, hcell⟩ := HEr.out.2.2 (by omega)
                  subst ha
                  obtain ⟨d0, d1, d2⟩ := hcell i hlt
                  have ho := HFIT.out.ex.2.one i hlt
                  have HN : Hid ((b10 ++ extL F H N i) ++ [F i, H i, N i] = b10 ++ extL F H N (i + 1)) := List.append_assoc _ _ _
                  have HLB : Hid ((b10 ++ extL F H N i).length ≤ 440) := by have := HL10.out; have := HEN.out; show _ ≤ _; rw [List.length_append, ext_len]; omega
                  clear hcell
                  obtain ⟨f, hf⟩ : ∃ x, Hid (F i = x) := ⟨_, rfl⟩
                  obtain ⟨hh, hhh⟩ : ∃ x, Hid (H i = x) := ⟨_, rfl⟩
                  obtain ⟨nn, hnn⟩ : ∃ x, Hid (N i = x) := ⟨_, rfl⟩
                  rw [hf.out] at d0
                  rw [hhh.out] at d1
                  rw [hnn.out] at d2
                  rw [hf.out, hhh.out, hnn.out] at ho HN
                  obtain ⟨o1, o2, o3, o4, o5, o6⟩ := ho
                  have hal : Below wr.heap.size wr (wr.alloc (.cells #[.int .i64 f, .int .i64 hh, .int .i64 nn] 25)) := (Below.refl _ _).alloc (Nat.le_refl _) _
                  have HWR := Lib.hid (hwr.out.below hal)
                  have HY : Hid ((wr.alloc (.cells #[.int .i64 f, .int .i64 hh, .int .i64 nn] 25)).heap[wr.heap.size]? = some (.cells #[.int .i64 f, .int .i64 hh, .int .i64 nn] 25 (0, 0))) := heap_alloc_new wr _
                  have HYP : Hid (wr.heap.size ≠ P) := by have := lt_of_block hwr.out.at_; show _ ≠ _; omega
                  clear hal
                  go_upto_block 7 with fail
                  go_cut [] (fun wx => ∃ a l c, Hid (Wr w2 wx P a l c (b10 ++ extL F H N (i + 1))))
                  case first =>
                    go_upto_region 27 with fail
                    clear d0 d1 d2 hwr
                    generalize (wr.alloc (.cells #[.int .i64 f, .int .i64 hh, .int .i64 nn] 25)) = wy at HWR HY ⊢
                    obtain ⟨Y, hY⟩ : ∃ X, Hid (wr.heap.size = X) := ⟨_, rfl⟩
                    rw [hY.out] at HY HYP ⊢
                    have y0 : wy.cell? ⟨Y, 0, none⟩ = some (.int .i64 f) := cell_of_row _ _ 0 _ _ (0, 0) HY.out
                    have y1 : wy.cell? ⟨Y, 1, none⟩ = some (.int .i64 hh) := cell_of_row _ _ 1 _ _ (0, 0) HY.out
                    have y2 : wy.cell? ⟨Y, 2, none⟩ = some (.int .i64 nn) := cell_of_row _ _ 2 _ _ (0, 0) HY.out
                    have p0 : wy.cell? ⟨P, 0, none⟩ = some (.slice a l' c) := cell_of_one HWR.out.at_
                    have pf0 : wy.frozen? ⟨P, 0, none⟩ = false := free_of_one HWR.out.at_
                    obtain ⟨a3, l3, c3, w12, hrun, pp, pf, hk12, hw12⟩ := HWR.out.lit f hh nn (by omega) (by omega) (by omega) (by have := HLB.out; omega)
                    rw [HN.out] at hw12
                    have HY12 := hk12 Y _ _ _ HYP.out (by decide) HY.out
                    have z0 : w12.cell? ⟨Y, 0, none⟩ = some (.int .i64 f) := cell_of_row _ _ 0 _ _ (0, 0) HY12
                    have z1 : w12.cell? ⟨Y, 1, none⟩ = some (.int .i64 hh) := cell_of_row _ _ 1 _ _ (0, 0) HY12
                    have z2 : w12.cell? ⟨Y, 2, none⟩ = some (.int .i64 nn) := cell_of_row _ _ 2 _ _ (0, 0) HY12
                    have HRUN := Lib.hid hrun
                    have HW12 := Lib.hid hw12
                    have q0 : IntKind.u8.wrap f = f := by rw [IntKind.wrap_u8]; omega
                    have q1 : IntKind.u8.wrap hh = hh := by rw [IntKind.wrap_u8]; omega
                    have q2 : IntKind.u8.wrap nn = nn := by rw [IntKind.wrap_u8]; omega
                    clear hrun hw12 hk12 HY12 o1 o2 o3 o4 o5 o6
                    have pz : (wy.alloc (.cells #[.int .u8 f, .int .u8 hh, .int .u8 nn] 5)).cell? ⟨P, 0, none⟩ = some (.slice a l' c) := cell_of_one (HWR.out.below ((Below.refl _ _).alloc (Nat.le_refl _) _)).at_
                    have hyp : Y ≠ P := HYP.out
                    have hpy : P ≠ Y := fun e => HYP.out e.symm
                    go_region_law (first | (refine step_append_run (by rfl) _ _ _ _ (by rfl) _ _ (by rfl) (by rfl) HRUN.out ?_))
                    all_goals (go_wp2; go_meet; exact ⟨a3, l3, c3, HW12.out⟩)
                  case rest =>
                    obtain ⟨a6, l6, c6, hw6⟩ := hcut
                    have HW6 := Lib.hid hw6.out
                    clear hw6
                    have hi40 : i < 40 := by have := HEN.out; omega
                    go_wp2
                    go_roundw
                    case rel => exact ⟨i + 1, a6, l6, c6, by omega, by go_num, HW6⟩
                    case measure => simp [intOf]; omega
                · have e : i = en := by omega
                  rw [e] at hwr ⊢
                  clear e
                  have HBODY : Hid (bodyL k m u g l s t0 t1 ln xn en F H N XN VB = b10 ++ extL F H N en) := by
                    show _ = _; unfold bodyL; rw [HE6.out, HE7.out, HE8.out, HE9.out, HE10.out]
                  have hbl : (b10 ++ extL F H N en).length ≤ 431 := by have := HL10.out; have := HEN.out; rw [List.length_append, ext_len]; omega
                  have hl' := hwr.out.own.len
                  have hown := hwr.out.own.below ((Below.refl _ _).drew)
                  obtain ⟨v3, w12, hrun, ho12⟩ := hown.fill (440 - (b10 ++ extL F H N en).length) (by omega) (by omega) (by omega)
                  have HO12 : Hid (Own w2 w12 v3 (payL k m u g l s t0 t1 ln xn en F H N XN VB)) := by show Own _ _ _ _; unfold payL; rw [HBODY.out]; exact ho12
                  have p0 : wr.cell? ⟨P, 0, none⟩ = some (.slice a l' c) := cell_of_one hwr.out.at_
                  rw [← hl'] at hrun hbl
                  obtain ⟨r, hr⟩ : ∃ r, 440 - l' = r := ⟨_, rfl⟩
                  rw [hr] at hrun
                  have hsub : (440 : Int) - (l' : Int) = (r : Int) := by omega
                  have q0 : IntKind.i64.wrap (r : Int) = (r : Int) := IntWalk.i64_in _ (by omega)
                  have HRUN := Lib.hid hrun
                  clear hrun hl' hown ho12 hbl hwr hlt hr
                  go_wp2_with fail
                  go_region_law (first | (refine step_append_run (by rfl) _ _ _ _ (by rfl) _ _ (by rfl) (by rfl) HRUN.out ?_))
                  all_goals go_wp2
                  all_goals go_ret2
                  all_goals exact ⟨v3, rfl, (HO12.out.bts (pay_range HFIT.out (fun i hi => by obtain ⟨_, _, hb⟩ := HV2.out i hi; exact hb.len.1.symm))).mono HB2.out.size, HB2.out.trans (HO12.out.2.2.mono HB2.out.size)⟩
end Go.Proofs.Ytebnekpccdcnmaa
