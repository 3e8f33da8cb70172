/- The layer inode: append of made noughts, as an append of a text of noughts. -/
import Derived.Test.YtebnekpccdcnmaaIf
import Derived.Lib.AppendStr
namespace Go.Proofs.Ytebnekpccdcnmaa
set_option linter.unusedVariables false
set_option linter.unusedSimpArgs false
open Go.RowKit

/-- n noughts, as a text. -/
def noughts (n : Nat) : ByteArray := ⟨(List.replicate n (0 : UInt8)).toArray⟩
theorem noughts_size (n : Nat) : (noughts n).size = n := by
  show (List.replicate n (0 : UInt8)).toArray.size = n
  simp
theorem noughts_data (n : Nat) : (noughts n).data = Array.replicate n 0 := by
  show (List.replicate n (0 : UInt8)).toArray = _
  simp
theorem noughts_list (n : Nat) : (noughts n).data.toList = List.replicate n 0 := rfl
theorem made_noughts (n : Nat) : Builtin.zeroCells (Value.int .u8 0).cells n = Array.replicate n (.int .u8 0) := by
  have e : (Value.int .u8 0).cells = #[.int .u8 0] := rfl
  rw [e]
  unfold Builtin.zeroCells
  apply Array.ext
  · simp
  · intro i h1 h2
    simp [Nat.mod_one]
theorem run_append_made (w : World) (base : Option Addr) (sLen sCap : Nat) (n : Nat) (hn : n ≤ 1000) (hs : sLen ≤ 20000) :
    (Builtin.append_ #[32, 3] 32 #[.slice base sLen sCap, .int .i64 (n : Int)]).run Try.prog w = (Builtin.append_ #[32, 9] 32 #[.slice base sLen sCap, .string (noughts n)]).run Try.prog w := by
  obtain ⟨i0, hi, hz0, hz1, hz2⟩ := info_parts Try.infoByte
  have hw : IntKind.i64.wrap (n : Int) = (n : Int) := by rw [IntKind.wrap_i64]; omega
  have h0 : ¬ ((n : Int) < 0) := by omega
  have hb : ¬ (281474976710656 < (n : Int)) := by omega
  have hm : ¬ (9223372036854775807 < (sLen : Int) + (n : Int)) := by omega
  by_cases hroom : sLen + n ≤ sCap
  · unfold Builtin.append_
    simp [run_underlying Try.underlying32, run_underlying Try.underlying3, run_underlying Try.underlying9, sizeOf, typeInfo, hi, hz1, hz2, hw, h0, hb, hm, hroom, asInt, asIntOf, Builtin.lenOf, Builtin.firstCells, noughts_size, noughts_data, noughts_list, made_noughts]
    by_cases h : n = 0 <;> simp [h]
  · have hg : ¬ (281474976710656 < Builtin.nextslicecap (sLen + n) sCap) := by
      have := growslice_fits (need := sLen + n) (old := sCap) (bytes := 1) (by omega) (by omega)
      omega
    unfold Builtin.append_
    simp [run_underlying Try.underlying32, run_underlying Try.underlying3, run_underlying Try.underlying9, sizeOf, typeInfo, hi, hz1, hz2, hw, h0, hb, hm, hroom, hg, asInt, asIntOf, Builtin.lenOf, Builtin.firstCells, noughts_size, noughts_data, noughts_list, made_noughts]
    by_cases h : n = 0
    · subst h; simp
    · simp [h]
theorem noughts_str (n : Nat) : Lib.strCells (noughts n) = (List.replicate n (0 : Int)).map (Value.int .u8) := by
  unfold Lib.strCells
  rw [noughts_list]
  simp
/-- append(b, make([]byte, n)...) -/
theorem Own.fill {w0 w : World} {a : Option Addr} {l c : Nat} {xs : List Int} (h : Own w0 w (.slice a l c) xs) (n : Nat) (hn : n ≤ 1000) (hlen : xs.length + n ≤ 20000) (hpos : 0 < xs.length + n) :
    ∃ v' w', (Builtin.append_ #[32, 3] 32 #[.slice a l c, .int .i64 (n : Int)]).run Try.prog w = .ok v' w' ∧ Own w0 w' v' (xs ++ List.replicate n 0) := by
  obtain ⟨i0, hi, hz0, hz1, hz2⟩ := info_parts Try.infoByte
  obtain ⟨_, h2, h3⟩ := h
  have hl : l ≤ 20000 := by
    rcases h2.2 with ⟨e, _⟩ | ⟨g, cap, cur, e, _⟩
    · injection e with _ e _; omega
    · injection e with _ e _; omega
  obtain ⟨v', w', hr, ho, hg, _⟩ := Lib.run_append_own_string (P := Try.prog) w w0.heap.size 32 9 32 5 i0 Try.underlying32 Try.underlying9 hi hz0 hz1 hz2 _ _ _ h2 (noughts n) (by rw [noughts_size]; unfold maxLen; omega) (by rw [noughts_size]; omega) h3.size
  rw [noughts_size, noughts_str, ← List.map_append] at ho
  have hlen2 : xs.length + n = (xs ++ List.replicate n (0 : Int)).length := by simp
  rw [hlen2] at ho
  obtain ⟨g, cap, hv', _⟩ := own_shape ho (by rw [← hlen2]; exact hpos)
  refine ⟨v', w', ?_, ⟨_, _, _, hv'⟩, ho, h3.grown hg h3.size (fun k hk => (h2.lt k hk).1)⟩
  rw [run_append_made w a l c n hn hl]
  exact hr
end Go.Proofs.Ytebnekpccdcnmaa
