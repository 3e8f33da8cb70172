/- Walks of the layer inode: InodeSizes, given Encode's contract. -/
import Derived.Test.YtebnekpccdcnmaaIj
import Derived.Test.YtebnekpccdcnmaaIk
import Derived.Outline
namespace Go.Proofs.Ytebnekpccdcnmaa
set_option linter.unusedVariables false
set_option linter.unusedSimpArgs false
open Go.RowKit

/-- A number turned to unsigned, and cut to less than m. -/
theorem uconv (x : Int) (m : Nat) (h0 : 0 < m) (h1 : m ≤ 1000000) : ∃ k : Nat, k < m ∧ wrap64 ((IntKind.u64.wrap x).tmod m) = (k : Int) := by
  have e : IntKind.u64.wrap x = x % 18446744073709551616 := rfl
  have hx := Int.emod_nonneg x (show (18446744073709551616 : Int) ≠ 0 by decide)
  rw [e, Int.tmod_eq_emod_of_nonneg hx]
  have h2 := Int.emod_nonneg (x % 18446744073709551616) (show (m : Int) ≠ 0 by omega)
  have h3 := Int.emod_lt_of_pos (x % 18446744073709551616) (show (0 : Int) < m by omega)
  obtain ⟨k, hk⟩ := Int.eq_ofNat_of_zero_le h2
  rw [hk] at h3 ⊢
  exact ⟨k, by omega, by unfold wrap64; omega⟩
/-- The inode of InodeSizes. -/
def szI (s f L : Nat) : Value := .agg #[.int .i64 1, .int .i64 0, .int .i64 0, .int .i64 0, .int .i64 1, .int .i64 s, .float .f64 0, .float .f64 0, .string ⟨#[]⟩, .slice none 0 0, .slice (some ⟨L, 0, none⟩) 1 1]
/-- What Encode answers to it. -/
def szE (s f : Nat) (e : Ending) : Prop := if (f : Int) * 440 < (s : Int) then ∃ a c, e = .returned (.tuple #[.slice a 440 c, .int .i64 0]) else e = .returned (.tuple #[.slice none 0 0, .int .i64 3])
theorem szEx (w : World) (f : Nat) : ExAt (w.alloc (.cells #[.int .i64 f, .int .i64 30, .int .i64 1] 25)) w.heap.size 0 (some ⟨w.heap.size, 0, none⟩) 1 1 (fun _ => (f : Int)) (fun _ => 30) (fun _ => 1) := by
  refine ⟨Nat.le_refl _, by omega, fun _ => ⟨rfl, fun i hi => ?_⟩⟩
  obtain rfl : i = 0 := by omega
  have h := heap_alloc_new w (.cells #[.int .i64 f, .int .i64 30, .int .i64 1] 25)
  exact ⟨cell_of_row _ _ 0 _ _ (0, 0) h, cell_of_row _ _ 1 _ _ (0, 0) h, cell_of_row _ _ 2 _ _ (0, 0) h⟩

set_option maxRecDepth 100000 in
set_option maxHeartbeats 1600000 in
theorem sizes_of (EG : Hid (∀ (s f L : Nat) (w : World), s ≤ 17600 → f < 40 → ExAt w L 0 (some ⟨L, 0, none⟩) 1 1 (fun _ => (f : Int)) (fun _ => 30) (fun _ => 1) → Calls Try.prog 7 #[szI s f L] w fun e w' => szE s f e ∧ Below w.heap.size w w'))
    (EF : Hid (∀ w, Calls Try.prog 8 #[] w fun e w' => e = .returned (.bool true) ∧ Below w.heap.size w w')) (x y : Int) (w : World) :
    Calls Try.prog 3 #[.int .i64 x, .int .i64 y] w fun e w' => e = .returned (.bool true) ∧ Below w.heap.size w w' := by
  obtain ⟨s, hs, es⟩ := uconv x 17601 (by omega) (by omega)
  obtain ⟨f, hf, ef⟩ := uconv y 40 (by omega) (by omega)
  rw [show ((17601 : Nat) : Int) = 17601 from rfl] at es
  rw [show ((40 : Nat) : Int) = 40 from rfl] at ef
  have EC : Hid (∀ (L : Nat) (w : World), ExAt w L 0 (some ⟨L, 0, none⟩) 1 1 (fun _ => (f : Int)) (fun _ => 30) (fun _ => 1) → Calls Try.prog 9 #[szI s f L] w fun e w' => e = .returned (.int .i64 (if (f : Int) * 440 < (s : Int) then 0 else 3)) ∧ Below w.heap.size w w') := fun L w h => by
    have := check_ino 1 0 0 0 1 s 0 0 ByteArray.empty none (some ⟨L, 0, none⟩) 0 0 1 1 L 0 0 0 _ _ _ ZN ZA Z0 Z0 w h (noXa w)
    rw [sizes_right s f (by omega) hf] at this
    simp only [decide_eq_true_eq] at this
    exact this
  have EE : Hid (∀ (L : Nat) (w : World), ExAt w L 0 (some ⟨L, 0, none⟩) 1 1 (fun _ => (f : Int)) (fun _ => 30) (fun _ => 1) → Calls Try.prog 7 #[szI s f L] w fun e w' => szE s f e ∧ Below w.heap.size w w') := fun L w h => EG.out s f L w (by omega) hf h
  clear EG
  unfold szI szE at EE
  unfold szI at EC
  have qm : IntKind.i64.wrap ((f : Int) * 440) = (f : Int) * 440 := IntWalk.i64_in _ (by omega)
  have hal1 : Below w.heap.size w (w.alloc (.cells #[.int .i64 f, .int .i64 30, .int .i64 1] 25)) := (Below.refl _ _).alloc (Nat.le_refl _) _
  have HX1 := Lib.hid (szEx w f)
  have hsf : ∀ (a : Addr) (n : Nat) (m : Mode) (w : World), (store a (.float .f64 n) m).run Try.prog w = stored Try.prog w a (.float .f64 n) m := fun a n m w => run_store Try.prog w a _ m rfl
  go_enter Try.func3, Try.ntmps3
  go_upto_region 2 with fail
  rw [es, ef]
  clear es ef
  go_upto_region 4 with fail
  have hsz1 : (w.alloc (.cells #[.int .i64 f, .int .i64 30, .int .i64 1] 25)).heap.size = w.heap.size + 1 := by simp
  have hal2 : Below w.heap.size w ((w.alloc (.cells #[.int .i64 f, .int .i64 30, .int .i64 1] 25)).alloc (.cells #[.int .i64 1, .int .i64 0, .int .i64 0, .int .i64 0, .int .i64 1, .int .i64 s, .float .f64 0, .float .f64 0, .string ⟨#[]⟩, .slice none 0 0, .slice (some ⟨w.heap.size, 0, none⟩) 1 1] 31)) := hal1.alloc hal1.size _
  have HB3 := Lib.hid hal2
  have HX3 := Lib.hid (HX1.out.below ((Below.refl _ (w.alloc (.cells #[.int .i64 f, .int .i64 30, .int .i64 1] 25))).alloc (Nat.le_refl _) (.cells #[.int .i64 1, .int .i64 0, .int .i64 0, .int .i64 0, .int .i64 1, .int .i64 s, .float .f64 0, .float .f64 0, .string ⟨#[]⟩, .slice none 0 0, .slice (some ⟨w.heap.size, 0, none⟩) 1 1] 31)))
  have HI3 := Lib.hid (InoAt.new (w.alloc (.cells #[.int .i64 f, .int .i64 30, .int .i64 1] 25)) 1 0 0 0 1 s 0 0 ⟨#[]⟩ none 0 0 (some ⟨w.heap.size, 0, none⟩) 1 1)
  rw [hsz1] at HI3
  clear hal1 hal2 hsz1 hsf qm HX1
  generalize ((w.alloc (.cells #[.int .i64 f, .int .i64 30, .int .i64 1] 25)).alloc (.cells #[.int .i64 1, .int .i64 0, .int .i64 0, .int .i64 0, .int .i64 1, .int .i64 s, .float .f64 0, .float .f64 0, .string ⟨#[]⟩, .slice none 0 0, .slice (some ⟨w.heap.size, 0, none⟩) 1 1] 31)) = w3 at HB3 HX3 HI3 ⊢
  obtain ⟨X, hX⟩ : ∃ X, Hid (w.heap.size + 1 = X) := ⟨_, rfl⟩
  rw [hX.out] at HI3 ⊢
  obtain ⟨L, hL⟩ : ∃ X, Hid (w.heap.size = X) := ⟨_, rfl⟩
  rw [hL.out] at HI3 HX3 HB3 ⊢
  obtain ⟨c0, c1, c2, c3, c4, c5, c6, c7, c8, c9, c10⟩ := HI3.out.cells
  by_cases hw : (f : Int) * 440 < (s : Int)
  · have d : decide ((f : Int) * 440 < (s : Int)) = true := decide_eq_true hw
    rw [d]
    simp only [if_pos hw] at EC EE
    clear hw d
    go_upto_region 5 with (go_at_call 7; refine (EE.out L _ HX3.out).mono ?_; rintro e w4 ⟨⟨a, c, rfl⟩, hb⟩; have HI4 := Lib.hid (HI3.out.below hb); have HX4 := Lib.hid (HX3.out.below hb); have HB4 := Lib.hid (HB3.out.trans (hb.mono (by rw [← hL.out]; exact hL.out ▸ HB3.out.size))); clear hb)
    clear c0 c1 c2 c3 c4 c5 c6 c7 c8 c9 c10
    go_wp2_with (first
      | (go_at_call 8; refine (EF.out _).mono ?_; rintro e w5 ⟨rfl, hb⟩; have HI5 := Lib.hid (HI4.out.below hb); have HX5 := Lib.hid (HX4.out.below hb); have HB5 := Lib.hid (HB4.out.trans (hb.mono (by rw [← hL.out]; exact hL.out ▸ HB4.out.size))); clear hb; obtain ⟨c0, c1, c2, c3, c4, c5, c6, c7, c8, c9, c10⟩ := HI5.out.cells)
      | (go_at_call 9; refine (EC.out L _ HX5.out).mono ?_; rintro e w6 ⟨rfl, hb⟩; have HB6 := Lib.hid (HB5.out.trans (hb.mono (by rw [← hL.out]; exact hL.out ▸ HB5.out.size))); clear hb))
    go_ret
    exact ⟨rfl, by rw [hL.out]; exact HB6.out⟩
  · have d : decide ((f : Int) * 440 < (s : Int)) = false := decide_eq_false hw
    rw [d]
    simp only [if_neg hw] at EC EE
    clear hw d
    go_upto_region 5 with (go_at_call 7; refine (EE.out L _ HX3.out).mono ?_; rintro e w4 ⟨rfl, hb⟩; have HI4 := Lib.hid (HI3.out.below hb); have HX4 := Lib.hid (HX3.out.below hb); have HB4 := Lib.hid (HB3.out.trans (hb.mono (by rw [← hL.out]; exact hL.out ▸ HB3.out.size))); clear hb)
    clear c0 c1 c2 c3 c4 c5 c6 c7 c8 c9 c10
    go_wp2_with (first
      | (go_at_call 8; refine (EF.out _).mono ?_; rintro e w5 ⟨rfl, hb⟩; have HI5 := Lib.hid (HI4.out.below hb); have HX5 := Lib.hid (HX4.out.below hb); have HB5 := Lib.hid (HB4.out.trans (hb.mono (by rw [← hL.out]; exact hL.out ▸ HB4.out.size))); clear hb; obtain ⟨c0, c1, c2, c3, c4, c5, c6, c7, c8, c9, c10⟩ := HI5.out.cells)
      | (go_at_call 9; refine (EC.out L _ HX5.out).mono ?_; rintro e w6 ⟨rfl, hb⟩; have HB6 := Lib.hid (HB5.out.trans (hb.mono (by rw [← hL.out]; exact hL.out ▸ HB5.out.size))); clear hb))
    go_ret
    exact ⟨rfl, by rw [hL.out]; exact HB6.out⟩
end Go.Proofs.Ytebnekpccdcnmaa
