/- The layer extent: whole arrays in memory ([256]bool). -/
import Derived.Test.YtebnekpccdcnmaaEm
namespace Go.Proofs.Ytebnekpccdcnmaa
set_option linter.unusedVariables false
set_option linter.unusedSimpArgs false
open Go.RowKit

theorem infoSeen : (Try.prog.info? 93).map (fun i => (i.zero, i.size, i.bytes)) = some (some (.agg (Array.replicate 256 (.bool false))), 256, 256) := by kernel_rfl
theorem zeroSeen (w : World) : (zeroValue 93).run Try.prog w = .ok (.agg (Array.replicate 256 (.bool false))) w := by
  obtain ⟨i0, hi, hz0, hz1, hz2⟩ := info_parts infoSeen
  simp [zeroValue, typeInfo, hi, hz0]

/-- A whole array of m cells in the block b: v i of each. -/
def Arr (w : World) (b m : Nat) (t : TypeId) (v : Nat → Value) : Prop := ∃ cs : Array Value, w.heap[b]? = some (.cells cs t (0, 0)) ∧ cs.size = m ∧ ∀ i, i < m → cs[i]? = some (v i)
theorem Arr.new (w : World) (m : Nat) (t : TypeId) (cs : Array Value) (v : Nat → Value) (hs : cs.size = m) (hv : ∀ i, i < m → cs[i]? = some (v i)) : Arr (w.alloc (.cells cs t)) w.heap.size m t v := ⟨cs, heap_alloc_new w _, hs, hv⟩
theorem Arr.cell {w : World} {b m : Nat} {t : TypeId} {v : Nat → Value} (h : Arr w b m t v) {i : Nat} (hi : i < m) : w.cell? ⟨b, i, none⟩ = some (v i) := by
  obtain ⟨cs, hh, hs, hv⟩ := h
  rw [cell_of_row w b i cs t (0, 0) hh]
  exact hv i hi
theorem Arr.frozen {w : World} {b m : Nat} {t : TypeId} {v : Nat → Value} (h : Arr w b m t v) (i : Nat) : w.frozen? ⟨b, i, none⟩ = false := by
  obtain ⟨cs, hh, _, _⟩ := h
  exact frozen_of_row w b i _ _ hh
theorem Arr.lt {w : World} {b m : Nat} {t : TypeId} {v : Nat → Value} (h : Arr w b m t v) : b < w.heap.size := by
  obtain ⟨cs, hh, _, _⟩ := h
  exact (Array.getElem?_eq_some_iff.1 hh).1
theorem Arr.set {w : World} {b m : Nat} {t : TypeId} {v : Nat → Value} (h : Arr w b m t v) (i : Nat) (hi : i < m) (x : Value) : Arr (w.setCell ⟨b, i, none⟩ x) b m t (fun j => if j = i then x else v j) := by
  obtain ⟨cs, hh, hs, hv⟩ := h
  refine ⟨_, heap_setCell_same w b i _ _ x hh, ?_, fun j hj => ?_⟩
  · simp [hs]
  · by_cases e : j = i
    · subst e
      show _ = some (if j = j then x else v j)
      rw [if_pos rfl]
      simp [hs, hi]
    · show _ = some (if j = i then x else v j)
      rw [if_neg e, ← hv j hj]
      simp [Ne.symm e]
theorem Arr.below {w w' : World} {b m : Nat} {t : TypeId} {v : Nat → Value} (h : Arr w b m t v) (hb : Below w.heap.size w w') : Arr w' b m t v := by
  have hl := h.lt
  obtain ⟨cs, hh, hs, hv⟩ := h
  exact ⟨cs, by rw [hb.block b hl]; exact hh, hs, hv⟩
end Go.Proofs.Ytebnekpccdcnmaa
