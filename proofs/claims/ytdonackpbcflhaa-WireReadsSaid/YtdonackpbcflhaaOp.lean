/- Arguments that came in, opened: a slice of bytes; a slice of structs of ints. -/
import Derived.Test.YtdonackpbcflhaaChecked
import Derived.Test.YtdonackpbcflhaaBy
import Derived.ProofKit
import Derived.OpenShut
import Derived.ShutString
import Derived.ChangeOld
import Derived.SizedLaws
import Derived.Deep.Strs
namespace Go.Proofs.Ytdonackpbcflhaa
set_option linter.unusedVariables false
set_option linter.unusedSimpArgs false
open Go.ChangeShapes Go.WideShapes Go.ChangeAt Go.RowKit

theorem addr_add0 (L off k : Nat) : (⟨L, off, none⟩ : Addr).add k = ⟨L, off + k, none⟩ := by unfold Addr.add; by_cases h : k = 0 <;> simp [h]

/-- A slice of bytes that came in. -/
theorem open_bytes {H : Type} {enc : TypeId × Value → H} {w : World} {v : Value} {d : DataW H} {ps : List MemPlace}
    (hval : Value.okWide Try.prog w .any 0 23 v) (h : DataW.Trod enc Try.prog w 0 (fun _ => true) true 23 v d ps) :
    ∃ (a : Option Addr) (len cap L off : Nat) (xs : List Int), v = .slice a len cap ∧ BtsAt w L off (.slice a len cap) xs ∧ (a = none → cap = 0) ∧ (a ≠ none → ∃ elems sp, d = .slice elems sp ∧ elems.length + sp.length = cap) := by
  obtain ⟨a0, len0, cap0, rfl⟩ := WideShapes.okWide_slice Try.underlying23 hval
  obtain ⟨fuel, hf⟩ := h
  rcases ChangeShapes.open_ints Try.underlying23 Try.underlying5 (by kernel_rfl) hf with ⟨hcs, _⟩ | ⟨x, l, c, zs, hcs, _, hl, hm, hz, hx, hcell, hwz⟩
  · simp [Value.cells] at hcs
    obtain ⟨rfl, rfl, rfl⟩ := hcs
    exact ⟨none, 0, 0, w.heap.size, 0, [], rfl, BtsAt.nil _ _ _, fun _ => rfl, fun h => absurd rfl h⟩
  · simp [Value.cells] at hcs
    obtain ⟨rfl, rfl, rfl⟩ := hcs
    have hmc : zs.length = cap0 := by simpa using hz
    have hd : d = .slice (lits .u8 (zs.take len0)) (lits .u8 (zs.drop len0)) := congrArg Prod.fst hx
    refine ⟨some x, len0, cap0, x.block, x.off, zs.take len0, rfl, ?_, (fun h => by cases h), fun _ => ⟨_, _, hd, by simp [lits]; omega⟩⟩
    have hlen : (zs.take len0).length = len0 := by rw [List.length_take]; omega
    refine ⟨some x, cap0, by rw [hlen], by omega, hm, fun y hy => ?_, fun hne => ?_⟩
    · have := bounds_u8 (hwz y (List.mem_of_mem_take hy)); omega
    · have h0 : 0 < len0 := by rw [← hlen]; exact List.length_pos_iff.2 hne
      obtain ⟨b, off, spot⟩ := x
      have hc := hcell 0 (by omega)
      have hspot : spot = none := by simpa [Addr.add] using World.cell?_spot hc
      subst hspot
      refine ⟨rfl, fun i hi => ?_⟩
      rw [hlen] at hi
      have h1 := hcell i (by omega)
      rw [addr_add0] at h1
      rw [h1]
      simp [List.getD, List.getElem?_take, hi]

theorem bytes_few {H : Type} {ds : List (DataW H)} {ts : List TypeId} {j : Nat} {d : DataW H} {w : World} {a : Option Addr} {len cap L off : Nat} {xs : List Int} (hs : (DataW.weightsEach Try.prog ts ds).all (· ≤ reachBytes) = true) (ht : ts[j]? = some 23) (hd : ds[j]? = some d)
    (hb : BtsAt w L off (.slice a len cap) xs) (h1 : a = none → cap = 0) (h2 : a ≠ none → ∃ elems sp, d = .slice elems sp ∧ elems.length + sp.length = cap) : len ≤ 140737488351232 := by
  have hl := hb.len.2.1
  cases a with
  | none => have := h1 rfl; omega
  | some x =>
    obtain ⟨el, sp, rfl, hc⟩ := h2 (by simp)
    have := sized_slice hs ht hd Try.underlying23
    have hb1 : Try.prog.bytesOf 5 = 1 := by kernel_rfl
    rw [hb1, Nat.mul_one, hc] at this
    unfold reachBytes at this
    omega

/-- The number that lies in a cell. -/
def cellNum (w : World) (b o : Nat) : Int := match w.cell? ⟨b, o, none⟩ with | some (.int _ n) => n | _ => 0

/-- A slice of structs of two ints. -/
def IsPairs (w : World) (a : Option Addr) (len : Nat) (x y : Nat → Int) : Prop :=
  len ≤ 9223372036854775807 ∧ (len = 0 ∨ ∃ b off, a = some ⟨b, off, none⟩ ∧ b < w.heap.size ∧ ∀ i, i < len → w.cell? ⟨b, off + i * 2, none⟩ = some (.int .i64 (x i)) ∧ w.cell? ⟨b, off + i * 2 + 1, none⟩ = some (.int .i64 (y i)) ∧
    (-9223372036854775808 ≤ x i ∧ x i ≤ 9223372036854775807) ∧ (-9223372036854775808 ≤ y i ∧ y i ≤ 9223372036854775807))

theorem open_pairs_of {P : Program} {H : Type} {enc : TypeId × Value → H} {w : World} {v : Value} {d : DataW H} {ps : List MemPlace} {t e t0 t1 : TypeId} {f0 f1 : Field} (ht : P.underlying t = some (.slice e)) (he : P.underlying e = some (.struct #[f0, f1]))
    (h0 : f0.type = t0) (h1 : f1.type = t1) (hf0 : P.underlying t0 = some (.int .i64)) (hf1 : P.underlying t1 = some (.int .i64)) (o0 : f0.offset = 0) (o1 : f1.offset = 1) (c0 : P.cellsOf t0 = 1) (c1 : P.cellsOf t1 = 1) (hc : P.cellsOf e = 2)
    (hval : Value.okWide P w .any 0 t v) (h : DataW.Trod enc P w 0 (fun _ => true) true t v d ps) :
    ∃ (a : Option Addr) (len cap : Nat) (x y : Nat → Int), v = .slice a len cap ∧ IsPairs w a len x y := by
  obtain ⟨a0, len0, cap0, rfl⟩ := WideShapes.okWide_slice ht hval
  obtain ⟨fuel, hf⟩ := h
  rcases DataW.trod_slice ht hf with ⟨hcs, _⟩ | ⟨x, l, c, elems, rest, n, _, hcs, _, hb, hl, hm, hel, hi, _⟩
  · simp [Value.cells] at hcs
    obtain ⟨rfl, rfl, rfl⟩ := hcs
    exact ⟨none, 0, 0, fun _ => 0, fun _ => 0, rfl, by omega, Or.inl rfl⟩
  · simp [Value.cells] at hcs
    obtain ⟨rfl, rfl, rfl⟩ := hcs
    have each : ∀ i, i < len0 → ∃ u v : Int, w.cell? (x.add (i * 2)) = some (.int .i64 u) ∧ w.cell? (x.add (i * 2 + 1)) = some (.int .i64 v) ∧ (Lit.int .i64 u).wf = true ∧ (Lit.int .i64 v).wf = true := by
      intro i hlt
      have := hi i hlt
      rw [hc, List.getElem?_eq_getElem (by rw [hel]; exact hlt), Option.bind_eq_some_iff] at this
      obtain ⟨cs, hcs, hy⟩ := this
      obtain ⟨_, hcl, hcc⟩ := World.cells?_some hcs
      obtain ⟨y0, y1, m, _, _, q0, q1⟩ := trod_struct2 he hy
      rw [o0, h0, c0] at q0
      rw [o1, h1, c1] at q1
      obtain ⟨u, hu, _, wu⟩ := DataW.trod_int hf0 q0
      obtain ⟨v, hv, _, wv⟩ := DataW.trod_int hf1 q1
      match cs, hcl with
      | [s, t], _ =>
        simp at hu hv
        have g0 := hcc 0 (by omega)
        have g1 := hcc 1 (by omega)
        rw [Addr.add_add] at g0 g1
        simp [hu, hv] at g0 g1
        exact ⟨u, v, by simpa using g0, by simpa using g1, wu, wv⟩
    by_cases h0 : len0 = 0
    · exact ⟨some x, len0, cap0, fun _ => 0, fun _ => 0, rfl, by unfold maxLen at hm; omega, Or.inl h0⟩
    · obtain ⟨b, off, spot⟩ := x
      obtain ⟨u0, v0, g0, _⟩ := each 0 (by omega)
      have hspot : spot = none := by simpa [Addr.add] using World.cell?_spot g0
      subst hspot
      have hlt := World.block_lt_of_cell? w _ g0
      refine ⟨some ⟨b, off, none⟩, len0, cap0, fun i => cellNum w b (off + i * 2), fun i => cellNum w b (off + i * 2 + 1), rfl, by unfold maxLen at hm; omega, Or.inr ⟨b, off, rfl, by simpa [Addr.add] using hlt, fun i hi2 => ?_⟩⟩
      obtain ⟨u, v, g0, g1, w0, w1⟩ := each i hi2
      rw [addr_add0] at g0 g1
      rw [← Nat.add_assoc] at g1
      have e0 : cellNum w b (off + i * 2) = u := by unfold cellNum; rw [g0]
      have e1 : cellNum w b (off + i * 2 + 1) = v := by unfold cellNum; rw [g1]
      rw [← e0] at g0 w0
      rw [← e1] at g1 w1
      exact ⟨g0, g1, bounds_i64 w0, bounds_i64 w1⟩
end Go.Proofs.Ytdonackpbcflhaa
