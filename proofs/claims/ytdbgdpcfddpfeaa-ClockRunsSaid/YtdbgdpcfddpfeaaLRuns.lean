/- The walk of ClockRuns: a time, ticked on by any floats, stays a time and never runs back. -/
import Derived.Test.YtdbgdpcfddpfeaaFx
import Derived.Deep.Slices
import Derived.Lib.Hide
namespace Go.Proofs.Ytdbgdpcfddpfeaa
set_option linter.unusedVariables false
open Go.RowKit Fl Go.ChangeShapes Go.WideShapes

/-- What the walk is told of a slice of floats: its elements, if it has any, lie in cells, and fit. -/
def IsFloats (w : World) (a : Option Addr) (len : Nat) (z : Nat → Nat) : Prop :=
  len ≤ 9223372036854775807 ∧ (len = 0 ∨ ∃ b off, a = some ⟨b, off, none⟩ ∧ ∀ i, i < len → w.cell? ⟨b, off + i, none⟩ = some (.float .f64 (z i)) ∧ W (z i))

theorem trod_float {H : Type} {enc : TypeId × Value → H} {P : Program} {w : World} {base : Nat} {spare : Nat → Bool} {held : Bool} {t : TypeId} {k : FloatKind} {fuel : Nat} {cs : List Value} {x : DataW H × List MemPlace}
    (ht : P.underlying t = some (.float k)) (h : DataW.trod enc P w base spare held fuel t cs = some x) : ∃ n, cs = [.float k n] ∧ (Lit.float k n).wf = true := by
  cases fuel with
  | zero => simp [DataW.trod] at h
  | succ n =>
    unfold DataW.trod at h
    rw [ht] at h
    split at h <;> simp_all

theorem open_floats {H : Type} {enc : TypeId × Value → H} {w : World} {v : Value} {d : DataW H} {ps : List MemPlace}
    (hval : Value.okWide Try.prog w .any 0 38 v) (h : DataW.Trod enc Try.prog w 0 (fun _ => true) true 38 v d ps) :
    ∃ (a : Option Addr) (len cap : Nat) (z : Nat → Nat), v = .slice a len cap ∧ IsFloats w a len z := by
  obtain ⟨a0, len0, cap0, rfl⟩ := okWide_slice Try.underlying38 hval
  obtain ⟨fuel, hf⟩ := h
  rcases Go.Deep.open_slice1 Try.underlying38 (by kernel_rfl) hf with ⟨hcs, _⟩ | ⟨x, l, c, m, n, V, D, Pl, hcs, _, hl, hm, hmm, _, hx⟩
  · simp [Value.cells] at hcs
    obtain ⟨rfl, rfl, rfl⟩ := hcs
    exact ⟨none, 0, 0, fun _ => 0, rfl, by omega, Or.inl rfl⟩
  · simp [Value.cells] at hcs
    obtain ⟨rfl, rfl, rfl⟩ := hcs
    have hmc : m = cap0 := by simpa using hmm
    have hV : ∀ i, i < m → ∃ b, V i = .float .f64 b ∧ W b := by
      intro i hi
      obtain ⟨_, h2⟩ := hx i hi
      obtain ⟨b, e, hb⟩ := trod_float Try.underlying22 h2
      simp at e
      exact ⟨b, e, by simpa [Lit.wf, W] using hb⟩
    obtain ⟨z, hz⟩ := Go.Deep.choose_lt hV
    refine ⟨some x, len0, cap0, z, rfl, by unfold maxLen at hm; omega, ?_⟩
    by_cases h0 : len0 = 0
    · exact Or.inl h0
    · right
      obtain ⟨b, off, spot⟩ := x
      have hc := (hx 0 (by omega)).1
      have hspot : spot = none := by simpa [Addr.add] using World.cell?_spot hc
      subst hspot
      refine ⟨b, off, rfl, fun i hi => ?_⟩
      have h1 := (hx i (by omega)).1
      rw [(hz i (by omega)).1] at h1
      have e : (⟨b, off, none⟩ : Addr).add i = ⟨b, off + i, none⟩ := by unfold Addr.add; by_cases h : i = 0 <;> simp [h]
      rw [e] at h1
      exact ⟨h1, (hz i (by omega)).2⟩

theorem zero_time : (0 : Nat) ≤ 2047 * 2 ^ 52 := Nat.zero_le _
def Time (a : Nat) : Prop := a ≤ 2047 * 2 ^ 52

theorem runs_walk (a : Option Addr) (len cap : Nat) (z : Nat → Nat) (w : World) (hz : IsFloats w a len z) : Calls Try.prog 6 #[.slice a len cap] w fun q w' => q = .returned (.bool true) ∧ Below w.heap.size w w' := by
  obtain ⟨hlen, hz⟩ := hz
  have hZ := Lib.hid hz
  clear hz
  go_enter Try.func6, Try.ntmps6
  go_wp2_with (go_at_call 11; refine (fixed_any _).mono ?_; rintro e w' ⟨rfl, rfl⟩)
  go_loop [3, 12] (fun v i => ∃ k t : Nat, k ≤ len ∧ i = .int .i64 k ∧ v = .float .f64 t ∧ Hid (Time t)) (fun _ i => len - (intOf i).toNat)
  case atStart => exact ⟨0, 0, Nat.zero_le _, rfl, rfl, zero_time⟩
  case round =>
    obtain ⟨k, t, hk, rfl, rfl, ht⟩ := hrel
    by_cases hlt : k < len
    · have hz := hZ.out
      rcases hz with h0 | ⟨b, off, rfl, hcell⟩
      · omega
      have hc := (hcell k hlt).1
      have hW : W (z k) := (hcell k hlt).2
      clear hcell
      generalize z k = d at *
      cases hd : decide ((1000 : Int) ≤ (k : Int))
      · obtain ⟨tW, tn, tg, tr⟩ := le_time ht.out
        cases h3 : (!nanW d && decide (0 ≤ rankW d))
        · have T := fun w => tick_range t d w tW tn tg h3
          clear tW tn tg tr h3 hW
          go_wp2_with (go_at_call 9; refine (T _).mono ?_; rintro e w' ⟨rfl, rfl⟩)
          go_round
          case rel => exact ⟨k + 1, t, by omega, by go_num, rfl, ht⟩
          case measure => simp [intOf]; omega
        · obtain ⟨r, hr, hle, hinf⟩ := add_on t d ht.out (by_le hW h3)
          have hr' : floatBits .add .f64 t d = some r := hr
          have T := fun w => tick_on t d r w tW tn tg h3 hr'
          obtain ⟨rW, rn, rg, rr⟩ := le_time hinf
          have O : ∀ w, ∃ o : Int, 0 ≤ o ∧ o ≤ 1 ∧ Calls Try.prog 19 #[.float .f64 r, .float .f64 t] w fun e w' => e = .returned (.int .i64 o) ∧ w = w' := by
            intro w
            refine ⟨_, ?_, ?_, order_any r t w⟩
            · unfold ordW; rw [rn, tn, rr, tr]; simp only [Bool.false_eq_true, if_false]
              rw [if_neg (by omega)]; split <;> omega
            · unfold ordW; rw [rn, tn, rr, tr]; simp only [Bool.false_eq_true, if_false]
              rw [if_neg (by omega)]; split <;> omega
          have N : (FloatKind.f64.format.order r r != some .eq) = false := (nanT_eq r).trans rn
          have S := fun w => signbit_w r w rW false rg
          have HT : Hid (Time r) := hinf
          clear tW tn tg tr h3 hW hr hr' hle hinf rW rn rg rr
          obtain ⟨o, ho1, ho2, O⟩ := O w
          go_wp2_with (first | (go_at_call 9; refine (T _).mono ?_; rintro e w' ⟨rfl, rfl⟩) | (go_at_call 19; refine O.mono ?_; rintro e w' ⟨rfl, rfl⟩) | (go_at_call 20; refine (S _).mono ?_; rintro e w' ⟨rfl, rfl⟩))
          go_round
          case rel => exact ⟨k + 1, r, by omega, by go_num, rfl, HT⟩
          case measure => simp [intOf]; omega
      · go_wp2
        go_ret
        exact ⟨rfl, Below.refl _ _⟩
    · go_wp2
      go_ret
      exact ⟨rfl, Below.refl _ _⟩
end Go.Proofs.Ytdbgdpcfddpfeaa
