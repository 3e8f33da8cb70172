/- The opener of bytes for the layer inode, and the frame of InodeDecodes. -/
import Derived.Test.YtebnekpccdcnmaaKg
import Derived.Test.YtebnekpccdcnmaaKo
namespace Go.Proofs.Ytebnekpccdcnmaa
set_option linter.unusedVariables false
set_option linter.unusedSimpArgs false
open Go.ChangeShapes Go.WideShapes Go.ChangeAt Go.RowKit

theorem addr_at0 (L off k : Nat) : (⟨L, off, none⟩ : Addr).add k = ⟨L, off + k, none⟩ := by unfold Addr.add; by_cases h : k = 0 <;> simp [h]

/-- A slice of bytes that came in. -/
theorem open_bytes {H : Type} {enc : TypeId × Value → H} {w : World} {v : Value} {d : DataW H} {ps : List MemPlace}
    (hval : Value.okWide Try.prog w .any 0 32 v) (h : DataW.Trod enc Try.prog w 0 (fun _ => true) true 32 v d ps) :
    ∃ (a : Option Addr) (len cap L off : Nat) (xs : List Int), v = .slice a len cap ∧ BtsAt w L off (.slice a len cap) xs ∧ (a = none → cap = 0) ∧ (a ≠ none → ∃ elems sp, d = .slice elems sp ∧ elems.length + sp.length = cap) := by
  obtain ⟨a0, len0, cap0, rfl⟩ := WideShapes.okWide_slice Try.underlying32 hval
  obtain ⟨fuel, hf⟩ := h
  rcases ChangeShapes.open_ints Try.underlying32 Try.underlying5 (by kernel_rfl) hf with ⟨hcs, _⟩ | ⟨x, l, c, zs, hcs, _, hl, hm, hz, hx, hcell, hwz⟩
  · simp [Value.cells] at hcs
    obtain ⟨rfl, rfl, rfl⟩ := hcs
    exact ⟨none, 0, 0, w.heap.size, 0, [], rfl, BtsAt.nil _ _ _, fun _ => rfl, fun h => absurd rfl h⟩
  · simp [Value.cells] at hcs
    obtain ⟨rfl, rfl, rfl⟩ := hcs
    have hmc : zs.length = cap0 := by simpa using hz
    have hd : d = .slice (lits .u8 (zs.take len0)) (lits .u8 (zs.drop len0)) := congrArg Prod.fst hx
    refine ⟨some x, len0, cap0, x.block, x.off, zs.take len0, rfl, ?_, (fun h => by cases h), fun _ => ⟨_, _, hd, by simp [lits]; omega⟩⟩
    have hlen : (zs.take len0).length = len0 := by rw [List.length_take]; omega
    refine ⟨some x, cap0, by rw [hlen], by omega, hm, fun y hy => ?_, fun hne => ?_⟩
    · have := bounds_u8 (hwz y (List.mem_of_mem_take hy)); omega
    · have h0 : 0 < len0 := by rw [← hlen]; exact List.length_pos_iff.2 hne
      obtain ⟨b, off, spot⟩ := x
      have hc := hcell 0 (by omega)
      have hspot : spot = none := by simpa [Addr.add] using World.cell?_spot hc
      subst hspot
      refine ⟨rfl, fun i hi => ?_⟩
      rw [hlen] at hi
      have h1 := hcell i (by omega)
      rw [addr_at0] at h1
      rw [h1]
      simp [List.getD, List.getElem?_take, hi]

theorem bytes_few {H : Type} {ds : List (DataW H)} {ts : List TypeId} {j : Nat} {d : DataW H} {w : World} {a : Option Addr} {len cap L off : Nat} {xs : List Int} (hs : (DataW.weightsEach Try.prog ts ds).all (· ≤ reachBytes) = true) (ht : ts[j]? = some 32) (hd : ds[j]? = some d)
    (hb : BtsAt w L off (.slice a len cap) xs) (h1 : a = none → cap = 0) (h2 : a ≠ none → ∃ elems sp, d = .slice elems sp ∧ elems.length + sp.length = cap) : len ≤ 140737488351232 := by
  have hl := hb.len.2.1
  cases a with
  | none => have := h1 rfl; omega
  | some x =>
    obtain ⟨el, sp, rfl, hc⟩ := h2 (by simp)
    have := sized_slice hs ht hd Try.underlying32
    have hb1 : Try.prog.bytesOf 5 = 1 := by kernel_rfl
    rw [hb1, Nat.mul_one, hc] at this
    unfold reachBytes at this
    omega

theorem decodes_frame (a : Option Addr) (len cap L off : Nat) (bs : List Int) (w : World) (h : BtsAt w L off (.slice a len cap) bs) (hc : a = none → cap = 0) (hlen : len ≤ 140737488351232) : Calls Try.prog 5 #[.slice a len cap] w fun e w' => e = .returned (.bool true) ∧ Below w.heap.size w w' := decodes_walk a len cap L off bs w h hc hlen
end Go.Proofs.Ytebnekpccdcnmaa
