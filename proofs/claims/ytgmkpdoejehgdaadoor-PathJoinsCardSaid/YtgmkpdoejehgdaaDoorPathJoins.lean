/- PathJoins holds, its tied card: for every input the law returns true and leaves its arguments as they were. No condition. -/
import Derived.Test.YtgmkpdoejehgdaaDoorCards
import Derived.Test.YtgmkpdoejehgdaaDoorTie
import Derived.Test.YtgmkpdoejehgdaaDoorPf
import Derived.Test.YtgmkpdoejehgdaaDoorPh
import Derived.SliceStrings
import Derived.ChangeSlices
import Derived.WalkKit
import Derived.Below
import Derived.WalkLawsBesides
import Derived.SevenTiedAt
namespace Go.Proofs.YtgmkpdoejehgdaaDoor.pathJoinsFrame
open Go.ChangeShapes Go.WideShapes Go.ChangeAt Go.RowKit
open Go.ChangeMaps (open_string shut_string)
set_option linter.unusedVariables false
set_option linter.unusedSimpArgs false

theorem own : ownKnob Tryd.prog.godebug = none := by kernel_rfl
theorem laidOut : laidOutB Tryd.prog = true := by kernel_rfl

theorem add_at (L off k : Nat) : (⟨L, off, none⟩ : Addr).add k = ⟨L, off + k, none⟩ := by unfold Addr.add; by_cases h : k = 0 <;> simp [h]
/-- A slice of texts that came in. -/
theorem open_texts {H : Type} {enc : TypeId × Value → H} {w : World} {v : Value} {d : DataW H} {ps : List MemPlace}
    (hval : Value.okWide Tryd.prog w .any 0 22 v) (h : DataW.Trod enc Tryd.prog w 0 (fun _ => true) true 22 v d ps) :
    ∃ (a : Option Addr) (len cap L off : Nat) (z : Nat → ByteArray), v = .slice a len cap ∧ StAt w L off a len cap z := by
  obtain ⟨a0, len0, cap0, rfl⟩ := WideShapes.okWide_slice Tryd.underlying22 hval
  obtain ⟨fuel, hf⟩ := h
  rcases ChangeShapes.open_strings Tryd.underlying22 Tryd.underlying9 (by kernel_rfl) hf with ⟨hcs, _⟩ | ⟨x, l, c, zs, hcs, _, hl, hm, hz, _, hcell, hwz⟩
  · simp [Value.cells] at hcs
    obtain ⟨rfl, rfl, rfl⟩ := hcs
    exact ⟨none, 0, 0, 0, 0, fun _ => ByteArray.empty, rfl, Nat.le_refl _, by omega, fun h => absurd h (Nat.lt_irrefl _)⟩
  · simp [Value.cells] at hcs
    obtain ⟨rfl, rfl, rfl⟩ := hcs
    have hmc : zs.length = cap0 := by simpa using hz
    obtain ⟨b, off, spot⟩ := x
    refine ⟨some ⟨b, off, spot⟩, len0, cap0, b, off, fun i => zs.getD i ByteArray.empty, rfl, hl, by unfold maxLen at hm; exact hm, fun h0 => ?_⟩
    have hc := hcell 0 (by omega)
    have hspot : spot = none := by simpa [Addr.add] using World.cell?_spot hc
    subst hspot
    refine ⟨rfl, fun i hi => ?_⟩
    have h1 := hcell i (by omega)
    rw [add_at] at h1
    exact h1
/-- A slice of ints that came in. -/
theorem open_order {H : Type} {enc : TypeId × Value → H} {w : World} {v : Value} {d : DataW H} {ps : List MemPlace}
    (hval : Value.okWide Tryd.prog w .any 0 23 v) (h : DataW.Trod enc Tryd.prog w 0 (fun _ => true) true 23 v d ps) :
    ∃ (a : Option Addr) (len cap L off : Nat) (z : Nat → Int), v = .slice a len cap ∧ IntAt w L off a len cap z := by
  obtain ⟨a0, len0, cap0, rfl⟩ := WideShapes.okWide_slice Tryd.underlying23 hval
  obtain ⟨fuel, hf⟩ := h
  rcases ChangeShapes.open_ints Tryd.underlying23 Tryd.underlying3 (by kernel_rfl) hf with ⟨hcs, _⟩ | ⟨x, l, c, zs, hcs, _, hl, hm, hz, _, hcell, hwz⟩
  · simp [Value.cells] at hcs
    obtain ⟨rfl, rfl, rfl⟩ := hcs
    exact ⟨none, 0, 0, 0, 0, fun _ => 0, rfl, Nat.le_refl _, by omega, fun h => absurd h (Nat.lt_irrefl _)⟩
  · simp [Value.cells] at hcs
    obtain ⟨rfl, rfl, rfl⟩ := hcs
    have hmc : zs.length = cap0 := by simpa using hz
    obtain ⟨b, off, spot⟩ := x
    refine ⟨some ⟨b, off, spot⟩, len0, cap0, b, off, fun i => zs.getD i 0, rfl, hl, by unfold maxLen at hm; exact hm, fun h0 => ?_⟩
    have hc := hcell 0 (by omega)
    have hspot : spot = none := by simpa [Addr.add] using World.cell?_spot hc
    subst hspot
    refine ⟨rfl, fun i hi => ?_⟩
    have h1 := hcell i (by omega)
    rw [add_at] at h1
    exact h1

set_option maxRecDepth 100000 in
theorem lifted (os : Os) (started : os.Started) (H : Type) (enc : TypeId × Value → H) :
    ReturnsInHanded {} Tryd.checked os 3 .any (fun w args => (Rows.pathJoinsSpec.pre enc Tryd.prog Tryd.f3 Rows.pathJoinsRow.domain false w args ∧ laidMetH Tryd.prog Rows.pathJoinsRow.laid w) ∧ sizedMet enc Tryd.prog Tryd.f3 (OpenSpec.ofChange Rows.pathJoinsSpec) false w args)
      (Rows.pathJoinsSpec.post enc Tryd.prog Tryd.f3 false true false false) := by
  refine lifted_shaped (C := Tryd.checked) (X := fun w _ => laidMetH Tryd.prog Rows.pathJoinsRow.laid w) own started (by kernel_rfl) Tryd.func3
    (ChangeSpec.witness_shaped (enc := enc) (C := Tryd.checked) (os := os) (X := fun w _ => laidMetH Tryd.prog Rows.pathJoinsRow.laid w) false (World.laidAll Tryd.prog os Rows.pathJoinsRow.laid) #[.slice none 0 0, .slice none 0 0] 8 (World.laidAll_os _ _ _)
      (World.shaped_of_ZipB (by kernel_rfl) (by kernel_rfl)) (by kernel_rfl) (by kernel_rfl) (by kernel_rfl)
      (by rw [MakeChecks.laidMetH_plain _ _ _ (by kernel_rfl)]; exact laidMet_laidAll _ (by kernel_rfl) (by kernel_rfl))) ?_
  intro W base args ds gs before hval0 hW hszs hsh
  obtain ⟨mx, hmx⟩ := max_cell hsh
  have hval : ∀ (j : Nat) t v, Tryd.f3.params[j]? = some t → args[j]? = some v → Value.okWide Tryd.prog W .any base t v := hval0
  have hW' := hW
  obtain ⟨p, q, hA0, hV, rfl, hfz, hnd⟩ := hW
  have hA : DataW.TrodAll enc Tryd.prog W 0 (fun _ => true) true Tryd.f3.params.toList args.toList ds p := hA0
  rw [Tryd.params3] at hA hval
  obtain ⟨v0, vs0, d0, ds0, p0, q0, hargs, rfl, rfl, h0, r0⟩ := trodAll_cons hA
  obtain ⟨v1, vs1, d1, ds1, p1, q1, rfl, rfl, rfl, h1, r1⟩ := trodAll_cons r0
  obtain ⟨rfl, rfl, rfl⟩ := trodAll_nil r1
  obtain rfl : args = #[v0, v1] := by cases args; simp_all
  obtain ⟨rfl, rfl⟩ := trodVars_none hV
  have k0 := h0
  have lt0 : ∀ x ∈ p0, x.block < W.heap.size := by obtain ⟨m, hm⟩ := k0; exact DataW.trod_lt m _ _ _ hm
  obtain ⟨a0, len0, cap0, L0, off0, z0, rfl, w0⟩ := open_texts (hval 0 22 v0 rfl rfl) h0
  have k1 := h1
  have lt1 : ∀ x ∈ p1, x.block < W.heap.size := by obtain ⟨m, hm⟩ := k1; exact DataW.trod_lt m _ _ _ hm
  obtain ⟨a1, len1, cap1, L1, off1, z1, rfl, w1⟩ := open_order (hval 1 23 v1 rfl rfl) h1
  clear hA0 hval0
  refine (joins_walk a0 a1 len0 cap0 len1 cap1 L0 L1 off0 off1 z0 z1 mx W hmx w0 w1).mono fun e W' ⟨he, bel⟩ => ?_
  subst he
  exact ⟨_, rfl, _, _, _, [], _, [], hW', trodAll_mk1 (shut_bool Tryd.underlying4 _), (trodAll_cons_mk (Below.trod laidOut (by kernel_rfl) (of_decide_eq_true (by kernel_rfl)) k0 bel lt0) (trodAll_cons_mk (Below.trod laidOut (by kernel_rfl) (of_decide_eq_true (by kernel_rfl)) k1 bel lt1) trodAll_mk0)), rfl, bel.frame _, fun h => by cases h⟩

theorem over : Rows.PathJoinsSaid :=
  OpenClaim.holds_of_wide 3 Tryd.f3 rfl rfl rfl rfl rfl rfl rfl ⟨rfl, rfl, rfl, rfl, rfl⟩ rfl rfl rfl rfl rfl (by kernel_rfl) Tryd.func3 (by kernel_rfl)
    (of_decide_eq_true (by kernel_rfl)) (by unfold Func.isWrapper; first | (rw [if_pos (by decide +kernel)]; kernel_rfl) | (rw [if_neg (by decide +kernel)]; exact ⟨rfl, rfl⟩))
    (fun os started H enc _ => lifted os started H enc)
theorem card_over : Rows.PathJoinsCardSaid :=
  Claim7.holds_tied_plain_at .later [] [.data, .pinned] true (true, "76e2a367bcadc806701952c91565bce7d8ff2e5911e58399332fba8e8a3cc10a") false over (fun _ h => by cases h) (by kernel_rfl) (fun _ h => by cases h) pathJoins_row_tie rfl ⟨rfl, rfl⟩ (by kernel_rfl) rfl
    (fun f fn hf hfn => by
      obtain rfl : f = 3 := Option.some.inj ((show Tryd.prog.funcNamed "cloister/cloisterlaw21.PathJoins" = some 3 by kernel_rfl).symm.trans hf) |>.symm
      obtain rfl : fn = Tryd.f3 := (Option.some.inj (Tryd.func3.symm.trans hfn)).symm
      exact ⟨by kernel_rfl, fun j t ht => by
        rw [Tryd.params3] at ht
        have hm : t ∈ [22, 23] := by simpa using Array.mem_of_getElem? ht
        have hall : ([22, 23].all fun u => !Tryd.prog.wantsStandIn u) = true := by kernel_rfl
        exact (show Tryd.prog.wantsStandIn t = false by simpa using List.all_eq_true.1 hall t hm)⟩)
    (by kernel_rfl)
end Go.Proofs.YtgmkpdoejehgdaaDoor.pathJoinsFrame
namespace Go.Proofs.YtgmkpdoejehgdaaDoor
theorem pathJoins_holds : Rows.PathJoinsCardSaid := pathJoinsFrame.card_over
#print axioms pathJoins_holds
end Go.Proofs.YtgmkpdoejehgdaaDoor
