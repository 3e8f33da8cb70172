/- Walks of the laws of the layer extent: same, ints. -/
import Derived.Test.YtidifimhgnjomaaEz
namespace Go.Proofs.Ytidifimhgnjomaa
set_option linter.unusedVariables false
set_option linter.unusedSimpArgs false
open Go.RowKit

theorem ExAt.congr {w : World} {L off n c : Nat} {a : Option Addr} {F H N F' H' N' : Nat → Int} (h : ExAt w L off a n c F H N) (hF : ∀ i, i < n → F i = F' i) (hH : ∀ i, i < n → H i = H' i) (hN : ∀ i, i < n → N i = N' i) : ExAt w L off a n c F' H' N' :=
  ⟨h.1, h.2.1, fun hn => ⟨(h.2.2 hn).1, fun i hi => by rw [← hF i hi, ← hH i hi, ← hN i hi]; exact (h.2.2 hn).2 i hi⟩⟩

set_option maxRecDepth 100000 in
/-- same, of two slices that hold the same extents -/
theorem same_any (a a' : Option Addr) (n c c' L L' off off' : Nat) (F H N : Nat → Int) (w : World) (h : ExAt w L off a n c F H N) (h' : ExAt w L' off' a' n c' F H N) :
    Calls Try.prog 19 #[.slice a n c, .slice a' n c'] w fun e w' => e = .returned (.bool true) ∧ Below w.heap.size w w' := by
  have hn9 : n ≤ 9223372036854775807 := by have := h.1; have := h.2.1; omega
  have hc1 := h.1
  have hc2 := h'.1
  have HB := Lib.hid h
  have HB' := Lib.hid h'
  clear h h'
  go_enter Try.func19, Try.ntmps19
  go_wp2_with fail
  go_loopw [13] (fun i wr => ∃ k : Nat, k ≤ n ∧ i = .int .i64 k ∧ Hid (Below w.heap.size w wr)) (fun i _ => n - (intOf i).toNat)
  case atStart => exact ⟨0, Nat.zero_le _, rfl, Below.refl _ _⟩
  case round =>
    obtain ⟨k, hk, rfl, hd⟩ := hrel
    by_cases hlt : k < n
    · have HL := Lib.hid (HB.out.below hd.out)
      have HL' := Lib.hid (HB'.out.below hd.out)
      obtain ⟨ha, hcell⟩ := HL.out.2.2 (by omega)
      obtain ⟨ha', hcell'⟩ := HL'.out.2.2 (by omega)
      subst ha ha'
      obtain ⟨c0, c1, c2⟩ := hcell k hlt
      obtain ⟨e0, e1, e2⟩ := hcell' k hlt
      clear hcell hcell'
      obtain ⟨f, hf⟩ : ∃ f, Hid (F k = f) := ⟨_, rfl⟩
      obtain ⟨hh, hhh⟩ : ∃ hh, Hid (H k = hh) := ⟨_, rfl⟩
      obtain ⟨nn, hnn⟩ : ∃ nn, Hid (N k = nn) := ⟨_, rfl⟩
      rw [hf.out] at c0 e0
      rw [hhh.out] at c1 e1
      rw [hnn.out] at c2 e2
      go_wp2_with fail
      go_quiet (fail)
      go_wp2
      go_roundw
      case rel => exact ⟨k + 1, by omega, by go_num, below_drewN hd.out _⟩
      case measure => simp [intOf]; omega
    · go_wp2
      go_ret
      exact ⟨rfl, hd.out⟩

theorem ints_any (a a' : Option Addr) (n c c' L L' off off' : Nat) (v : Nat → Int) (w : World) (h : InAt w L off a n c v) (h' : InAt w L' off' a' n c' v) :
    Calls Try.prog 13 #[.slice a n c, .slice a' n c'] w fun e w' => e = .returned (.bool true) ∧ Below w.heap.size w w' := by
  have hn9 : n ≤ 9223372036854775807 := by have := h.1; have := h.2.1; omega
  have hc1 := h.1
  have hc2 := h'.1
  have HB := Lib.hid h
  have HB' := Lib.hid h'
  clear h h'
  go_enter Try.func13, Try.ntmps13
  go_wp2_with fail
  go_loopw [13] (fun i wr => ∃ k : Nat, k ≤ n ∧ i = .int .i64 k ∧ Hid (Below w.heap.size w wr)) (fun i _ => n - (intOf i).toNat)
  case atStart => exact ⟨0, Nat.zero_le _, rfl, Below.refl _ _⟩
  case round =>
    obtain ⟨k, hk, rfl, hd⟩ := hrel
    by_cases hlt : k < n
    · have HL := Lib.hid (HB.out.below hd.out)
      have HL' := Lib.hid (HB'.out.below hd.out)
      obtain ⟨ha, hcell⟩ := HL.out.2.2 (by omega)
      obtain ⟨ha', hcell'⟩ := HL'.out.2.2 (by omega)
      subst ha ha'
      have c0 := hcell k hlt
      have e0 := hcell' k hlt
      clear hcell hcell'
      obtain ⟨f, hf⟩ : ∃ f, Hid (v k = f) := ⟨_, rfl⟩
      rw [hf.out] at c0 e0
      go_wp2_with fail
      go_quiet (fail)
      go_wp2
      go_roundw
      case rel => exact ⟨k + 1, by omega, by go_num, below_drewN hd.out _⟩
      case measure => simp [intOf]; omega
    · go_wp2
      go_ret
      exact ⟨rfl, hd.out⟩
end Go.Proofs.Ytidifimhgnjomaa
