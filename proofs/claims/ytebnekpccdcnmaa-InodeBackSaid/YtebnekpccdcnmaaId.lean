/- Walks of the layer inode: sized. -/
import Derived.Test.YtebnekpccdcnmaaIc
namespace Go.Proofs.Ytebnekpccdcnmaa
set_option linter.unusedVariables false
set_option linter.unusedSimpArgs false
open Go.RowKit

/-- Do the size and the link go together? -/
def linkOk (k s : Int) (ln : ByteArray) (en : Nat) : Bool :=
  if k = 2 then !decide (1320 < s) && ln.toList.isEmpty
  else if k = 3 then !ln.toList.isEmpty && (!decide (64 < (ln.size : Int)) && (decide (s = (ln.size : Int)) && decide (en = 0)))
  else ln.toList.isEmpty
/-- Are there no blocks behind the size? -/
def endOk (s : Int) (F N : Nat → Int) : Nat → Bool
  | 0 => true
  | i + 1 => decide (F i + N i ≤ (s + 440 - 1).tdiv 440)

theorem link_false {k s : Int} {ln : ByteArray} {en : Nat} {b : Bool} (h : linkOk k s ln en = false) : (linkOk k s ln en && b) = false := by rw [h]; rfl
/-- An inode in a block of its own. -/
def InoAt (w : World) (X : Nat) (k m u g l s : Int) (t0 t1 : Nat) (ln : ByteArray) (xa : Option Addr) (xn xc : Nat) (ea : Option Addr) (en ec : Nat) : Prop :=
  w.heap[X]? = some (.cells #[.int .i64 k, .int .i64 m, .int .i64 u, .int .i64 g, .int .i64 l, .int .i64 s, .float .f64 t0, .float .f64 t1, .string ln, .slice xa xn xc, .slice ea en ec] 31 (0, 0))
theorem InoAt.new (w : World) (k m u g l s : Int) (t0 t1 : Nat) (ln : ByteArray) (xa : Option Addr) (xn xc : Nat) (ea : Option Addr) (en ec : Nat) :
    InoAt (w.alloc (.cells #[.int .i64 k, .int .i64 m, .int .i64 u, .int .i64 g, .int .i64 l, .int .i64 s, .float .f64 t0, .float .f64 t1, .string ln, .slice xa xn xc, .slice ea en ec] 31)) w.heap.size k m u g l s t0 t1 ln xa xn xc ea en ec := heap_alloc_new w _
section
variable {w w' : World} {X : Nat} {k m u g l s : Int} {t0 t1 : Nat} {ln : ByteArray} {xa : Option Addr} {xn xc : Nat} {ea : Option Addr} {en ec : Nat}
theorem InoAt.lt (h : InoAt w X k m u g l s t0 t1 ln xa xn xc ea en ec) : X < w.heap.size := lt_of_block h
theorem InoAt.below (h : InoAt w X k m u g l s t0 t1 ln xa xn xc ea en ec) (hb : Below w.heap.size w w') : InoAt w' X k m u g l s t0 t1 ln xa xn xc ea en ec := (hb.block X h.lt).trans h
theorem InoAt.cells (h : InoAt w X k m u g l s t0 t1 ln xa xn xc ea en ec) :
    w.cell? ⟨X, 0, none⟩ = some (.int .i64 k) ∧ w.cell? ⟨X, 1, none⟩ = some (.int .i64 m) ∧ w.cell? ⟨X, 2, none⟩ = some (.int .i64 u) ∧ w.cell? ⟨X, 3, none⟩ = some (.int .i64 g) ∧ w.cell? ⟨X, 4, none⟩ = some (.int .i64 l) ∧ w.cell? ⟨X, 5, none⟩ = some (.int .i64 s) ∧
    w.cell? ⟨X, 6, none⟩ = some (.float .f64 t0) ∧ w.cell? ⟨X, 7, none⟩ = some (.float .f64 t1) ∧ w.cell? ⟨X, 8, none⟩ = some (.string ln) ∧ w.cell? ⟨X, 9, none⟩ = some (.slice xa xn xc) ∧ w.cell? ⟨X, 10, none⟩ = some (.slice ea en ec) :=
  ⟨cell_of_row _ _ 0 _ _ (0, 0) h, cell_of_row _ _ 1 _ _ (0, 0) h, cell_of_row _ _ 2 _ _ (0, 0) h, cell_of_row _ _ 3 _ _ (0, 0) h, cell_of_row _ _ 4 _ _ (0, 0) h, cell_of_row _ _ 5 _ _ (0, 0) h,
   cell_of_row _ _ 6 _ _ (0, 0) h, cell_of_row _ _ 7 _ _ (0, 0) h, cell_of_row _ _ 8 _ _ (0, 0) h, cell_of_row _ _ 9 _ _ (0, 0) h, cell_of_row _ _ 10 _ _ (0, 0) h⟩
end

set_option maxRecDepth 100000 in
set_option maxHeartbeats 1600000 in
theorem sized_any (k m u g l s : Int) (t0 t1 : Nat) (ln : ByteArray) (xa ea : Option Addr) (xn xc en ec L off : Nat) (F H N : Nat → Int) (w : World) (h : ExAt w L off ea en ec F H N) (hs : 0 ≤ s ∧ s ≤ 17600) :
    Calls Try.prog 22 #[(Ino.mk k m u g l s t0 t1 ln xa xn xc ea en ec).val] w fun e w' => e = .returned (.bool (linkOk k s ln en && (rgt en F H N && endOk s F N en))) ∧ Below w.heap.size w w' := by
  unfold Ino.val
  dsimp only
  obtain ⟨hs0, hs1⟩ := hs
  have HE := Lib.hid h
  have hn9 : en ≤ 9223372036854775807 := by have := h.1; have := h.2.1; omega
  clear h
  obtain ⟨R, hR⟩ : ∃ R, Hid ((linkOk k s ln en && (rgt en F H N && endOk s F N en)) = R) := ⟨_, rfl⟩
  rw [hR.out]
  have HW1 : Hid (Below w.heap.size w (w.alloc (.cells #[.int .i64 k, .int .i64 m, .int .i64 u, .int .i64 g, .int .i64 l, .int .i64 s, .float .f64 t0, .float .f64 t1, .string ln, .slice xa xn xc, .slice ea en ec] 31))) := (Below.refl _ _).alloc (Nat.le_refl _) _
  have HI := Lib.hid (InoAt.new w k m u g l s t0 t1 ln xa xn xc ea en ec)
  have HE1 := Lib.hid (HE.out.below ((Below.refl w.heap.size w).alloc (Nat.le_refl _) (.cells #[.int .i64 k, .int .i64 m, .int .i64 u, .int .i64 g, .int .i64 l, .int .i64 s, .float .f64 t0, .float .f64 t1, .string ln, .slice xa xn xc, .slice ea en ec] 31)))
  go_enter Try.func22, Try.ntmps22
  go_upto_block 0 with fail
  go_cut [] (fun wx => Hid (linkOk k s ln en = true) ∧ w.alloc (.cells #[.int .i64 k, .int .i64 m, .int .i64 u, .int .i64 g, .int .i64 l, .int .i64 s, .float .f64 t0, .float .f64 t1, .string ln, .slice xa xn xc, .slice ea en ec] 31) = wx)
  case first =>
    by_cases k2 : k = 2
    · subst k2
      by_cases hb : 1320 < s
      · have HX : Hid (R = false) := by show _ = _; rw [← hR.out, link_false (by simp [linkOk, *])]
        go_wp2
        go_ret
        exact ⟨by rw [HX.out]; rfl, HW1.out⟩
      · cases e0 : ln.toList.isEmpty with
        | true =>
          have HL : Hid (linkOk 2 s ln en = true) := by show _ = _; simp [linkOk, *] <;> omega
          go_wp2
          go_meet
          exact ⟨HL.out, rfl⟩
        | false =>
          have HX : Hid (R = false) := by show _ = _; rw [← hR.out, link_false (by simp [linkOk, *])]
          go_wp2
          go_ret
          exact ⟨by rw [HX.out]; rfl, HW1.out⟩
    · by_cases k3 : k = 3
      · subst k3
        cases e0 : ln.toList.isEmpty with
        | true =>
          have HX : Hid (R = false) := by show _ = _; rw [← hR.out, link_false (by simp [linkOk, *])]
          go_wp2
          go_ret
          exact ⟨by rw [HX.out]; rfl, HW1.out⟩
        | false =>
          by_cases h64 : 64 < ln.size
          · have HX : Hid (R = false) := by show _ = _; rw [← hR.out, link_false (by simp [linkOk, e0]; intros; omega)]
            have d1 : decide ((64 : Int) < (ln.size : Int)) = true := decide_eq_true (by omega)
            clear h64
            go_wp2
            go_ret
            exact ⟨by rw [HX.out]; rfl, HW1.out⟩
          · have d1 : decide ((64 : Int) < (ln.size : Int)) = false := decide_eq_false (by omega)
            by_cases hsl : s = (ln.size : Int)
            · by_cases hen : en = 0
              · have HL : Hid (linkOk 3 s ln en = true) := by show _ = _; simp [linkOk, e0, hen]; omega
                have q2 : (s != (ln.size : Int)) = false := by simp [hsl]
                subst hen
                clear h64 hsl
                go_wp2
                go_meet
                exact ⟨HL.out, rfl⟩
              · have HX : Hid (R = false) := by show _ = _; rw [← hR.out, link_false (by simp [linkOk, *])]
                have hen0 : 0 < en := by omega
                have q2 : (s != (ln.size : Int)) = false := by simp [hsl]
                clear h64 hsl
                go_wp2
                go_ret
                exact ⟨by rw [HX.out]; rfl, HW1.out⟩
            · have HX : Hid (R = false) := by show _ = _; rw [← hR.out, link_false (by simp [linkOk, *])]
              have q2 : (s != (ln.size : Int)) = true := by simpa using hsl
              clear h64 hsl
              go_wp2
              go_ret
              exact ⟨by rw [HX.out]; rfl, HW1.out⟩
      · cases e0 : ln.toList.isEmpty with
        | true =>
          have HL : Hid (linkOk k s ln en = true) := by show _ = _; simp [linkOk, *]
          go_wp2
          go_meet
          exact ⟨HL.out, rfl⟩
        | false =>
          have HX : Hid (R = false) := by show _ = _; rw [← hR.out, link_false (by simp [linkOk, *])]
          go_wp2
          go_ret
          exact ⟨by rw [HX.out]; rfl, HW1.out⟩
  case rest =>
    obtain ⟨HL, rfl⟩ := hcut
    generalize (w.alloc (.cells #[.int .i64 k, .int .i64 m, .int .i64 u, .int .i64 g, .int .i64 l, .int .i64 s, .float .f64 t0, .float .f64 t1, .string ln, .slice xa xn xc, .slice ea en ec] 31)) = w1 at HW1 HI HE1 ⊢
    obtain ⟨X, hX⟩ : ∃ X, Hid (w.heap.size = X) := ⟨_, rfl⟩
    rw [hX.out] at HI ⊢
    obtain ⟨_, _, _, _, _, c5, _, _, _, _, c10⟩ := HI.out.cells
    by_cases hr : Right en F H N
    · have HC : Hid (chk en F H N = 0) := chk_good hr
      have HR := Lib.hid hr
      clear hr
      go_upto_region 13 with (go_at_call 47; refine (check_any ea en ec L off F H N _ HE1.out).mono ?_; rintro e w2 ⟨rfl, hb⟩; rw [HC.out]; have HI2 := Lib.hid (HI.out.below hb); have HE2 := Lib.hid (HE1.out.below hb); have HB2 := Lib.hid (HW1.out.trans (hb.mono HW1.out.size)); clear hb c5 c10; obtain ⟨_, _, _, _, _, c5, _, _, _, _, c10⟩ := HI2.out.cells)
      rcases (show en = 0 ∨ ∃ i, Hid (i + 1 = en) from by
        cases en with
        | zero => exact Or.inl rfl
        | succ i => exact Or.inr ⟨i, rfl⟩) with rfl | ⟨i, hij⟩
      · have HX : Hid (R = true) := by show _ = _; rw [← hR.out, HL.out, rgt_good HR.out]; rfl
        go_quiet (fail)
        go_wp2
        go_ret
        exact ⟨by rw [HX.out]; rfl, below_drewN HB2.out _⟩
      · have hij' := hij.out
        have ho := HR.out.2.one i (by omega)
        obtain ⟨ha, hcell⟩ := HE2.out.2.2 (by omega)
        subst ha
        obtain ⟨d0, _, d2⟩ := hcell i (by omega)
        obtain ⟨f, hf⟩ : ∃ x, Hid (F i = x) := ⟨_, rfl⟩
        obtain ⟨nn, hnn⟩ : ∃ x, Hid (N i = x) := ⟨_, rfl⟩
        rw [hf.out] at d0
        rw [hnn.out] at d2
        rw [hf.out, hnn.out] at ho
        obtain ⟨o1, o2, o3, o4, _, _⟩ := ho
        have HX : Hid (R = decide (f + nn ≤ (s + 440 - 1).tdiv 440)) := by
          show _ = _
          rw [← hR.out, HL.out, rgt_good HR.out, ← hij.out, ← hf.out, ← hnn.out]; rfl
        have hen0 : ((en : Int) == 0) = false := by simp; omega
        have j1 : (en : Int) - 1 = (i : Int) := by omega
        have j2 : (i : Int) < (en : Int) := by omega
        have q0 : IntKind.i64.wrap (i : Int) = (i : Int) := IntWalk.i64_in _ (by omega)
        have q1 : IntKind.i64.wrap (f + nn) = f + nn := IntWalk.i64_in _ (by omega)
        have q2 : IntKind.i64.wrap (s + 440) = s + 440 := IntWalk.i64_in _ (by omega)
        have q3 : IntKind.i64.wrap (s + 440 - 1) = s + 440 - 1 := IntWalk.i64_in _ (by omega)
        have q4 : IntKind.i64.wrap ((s + 440 - 1).tdiv 440) = (s + 440 - 1).tdiv 440 := IntWalk.i64_in _ (by rw [Int.tdiv_eq_ediv_of_nonneg (by omega)]; omega)
        clear hcell hij' o1 o2 o3 o4
        go_quiet (fail)
        go_wp2
        go_ret
        exact ⟨by rw [HX.out]; rfl, below_drewN HB2.out _⟩
    · have HC : Hid (chk en F H N = 3) := chk_bad hr
      have HX : Hid (R = false) := by show _ = _; rw [← hR.out, rgt_bad hr]; simp
      clear hr
      go_wp2_with (go_at_call 47; refine (check_any ea en ec L off F H N _ HE1.out).mono ?_; rintro e w2 ⟨rfl, hb⟩; rw [HC.out]; have HB2 := Lib.hid (HW1.out.trans (hb.mono HW1.out.size)); clear hb)
      go_ret
      exact ⟨by rw [HX.out]; rfl, HB2.out⟩
end Go.Proofs.Ytebnekpccdcnmaa
