/- Walks of the layer wire: Zero, Number, on either side. -/
import Derived.Test.YtebnekpccdcnmaaChecked
import Derived.Test.YtebnekpccdcnmaaBy
namespace Go.Proofs.Ytebnekpccdcnmaa
set_option linter.unusedVariables false
set_option linter.unusedSimpArgs false
open Go.RowKit

/-- wire.Zero -/
theorem zero_any (a : Option Addr) (n c B : Nat) (xs : List Int) (w : World) (h : Bts w B (.slice a n c) xs) :
    Calls Try.prog 39 #[.slice a n c] w fun e w' => e = .returned (.bool (xs.all (· == 0))) ∧ w = w' := by
  obtain ⟨hn, hnc, hc⟩ := h.len
  have HB := Lib.hid h
  have HN := Lib.hid hn
  have hn9 : n ≤ 9223372036854775807 := by omega
  clear h hn hnc hc
  go_enter Try.func39, Try.ntmps39
  go_wp2
  go_loop [7] (fun i => ∃ k : Nat, k ≤ n ∧ i = .int .i64 k ∧ Hid (∀ j, j < k → xs.getD j 0 = 0)) (fun i => n - (intOf i).toNat)
  case atStart => exact ⟨0, Nat.zero_le _, rfl, fun j hj => absurd hj (Nat.not_lt_zero _)⟩
  case round =>
    obtain ⟨k, hk, rfl, hz⟩ := hrel
    by_cases hlt : k < n
    · obtain ⟨b, off, rfl, _, hcell⟩ := HB.out.cells (by omega)
      have hc := hcell k hlt
      clear hcell
      by_cases hx : xs.getD k 0 = 0
      · rw [hx] at hc
        go_wp2
        go_round
        case rel => exact ⟨k + 1, by omega, by go_num, fun j hj => by
          by_cases e : j = k
          · rw [e]; exact hx
          · exact hz.out j (by omega)⟩
        case measure => simp [intOf]; omega
      · have H : Hid (xs.all (· == 0) = false) := by
          have hk2 : k < xs.length := by rw [← HN.out]; exact hlt
          have e : xs.getD k 0 = xs[k] := by simp [List.getD, hk2]
          rw [e] at hx
          show xs.all (· == 0) = false
          rw [List.all_eq_false]
          exact ⟨xs[k], List.getElem_mem hk2, by simpa using hx⟩
        have hb : (xs.getD k 0 != 0) = true := by simpa using hx
        clear hx
        generalize xs.getD k 0 = x at hc hb
        go_wp2
        go_ret
        exact ⟨by rw [H.out]; rfl, rfl⟩
    · have H : Hid (xs.all (· == 0) = true) := by
        show xs.all (· == 0) = true
        rw [List.all_eq_true]
        intro x hx
        obtain ⟨j, hj, rfl⟩ := List.getElem_of_mem hx
        have := hz.out j (by have := HN.out; omega)
        simp only [List.getD, hj, List.getElem?_eq_getElem, Option.getD_some] at this
        simpa using this
      go_wp2
      go_ret
      exact ⟨by rw [H.out]; rfl, rfl⟩

/-- The bytes of a number, the greatest first. -/
def beB (v n : Nat) : List Int := (List.range n).map fun i => ((v / 256 ^ (n - 1 - i) % 256 : Nat) : Int)

theorem beB_len (v n : Nat) : (beB v n).length = n := by simp [beB]
theorem beB_range (v n : Nat) : ∀ x ∈ beB v n, 0 ≤ x ∧ x < 256 := by
  intro x hx
  simp only [beB, List.mem_map] at hx
  obtain ⟨i, _, rfl⟩ := hx
  have := Nat.mod_lt (v / 256 ^ (n - 1 - i)) (show 0 < 256 by decide)
  omega
theorem beB_at (v n k : Nat) (h : k < n) : (beB v n).getD k 0 = ((v / 256 ^ (n - 1 - k) % 256 : Nat) : Int) := by
  simp [beB, List.getD, h]

theorem beB_shr (v n k : Nat) (h : k < n) : (v : Int) / 2 ^ (8 * (n - 1 - k)) % 256 = (beB v n).getD k 0 := by
  rw [beB_at v n k h, Nat.pow_mul 2 8 (n - 1 - k) |> fun e => (by
    have : (2 : Int) ^ (8 * (n - 1 - k)) = ((256 ^ (n - 1 - k) : Nat) : Int) := by
      rw [Int.pow_mul]; simp
    exact this : (2 : Int) ^ (8 * (n - 1 - k)) = ((256 ^ (n - 1 - k) : Nat) : Int))]
  simp

theorem set_step {α : Type} (L : List α) (z d : α) (n k : Nat) (hL : L.length = n) (hk : k < n) :
    (L.take k ++ List.replicate (n - k) z).set k (L.getD k d) = L.take (k + 1) ++ List.replicate (n - (k + 1)) z := by
  have h1 : (L.take k).length = k := by rw [List.length_take]; omega
  have h2 : n - k = (n - (k + 1)) + 1 := by omega
  rw [h2, List.replicate_succ, List.set_append_right _ _ (by omega), h1, Nat.sub_self, List.set_cons_zero]
  have h3 : L.getD k d = L[k]'(by omega) := by simp [List.getD, show k < L.length by omega]
  rw [h3, List.take_succ_eq_append_getElem (by omega), List.append_assoc]
  rfl

theorem Try.infoByte : (Try.prog.info? 5).map (fun i => (i.zero, i.size, i.bytes)) = some (some (.int .u8 0), 1, 1) := by kernel_rfl

/-- wire.Number, at what does not fit. -/
theorem number_few (v : Nat) (n : Int) (w : World) (h : n < 1) :
    Calls Try.prog 44 #[.int .u64 v, .int .i64 n] w fun e w' => e = .returned (.tuple #[.slice none 0 0, .int .i64 2]) ∧ w = w' := by
  go_enter Try.func44, Try.ntmps44
  go_wp2
  go_ret2
  exact ⟨rfl, rfl⟩
theorem number_many (v : Nat) (n : Int) (w : World) (h : 8 < n) :
    Calls Try.prog 44 #[.int .u64 v, .int .i64 n] w fun e w' => e = .returned (.tuple #[.slice none 0 0, .int .i64 2]) ∧ w = w' := by
  have h1 : ¬ n < 1 := by omega
  go_enter Try.func44, Try.ntmps44
  go_wp2
  go_ret2
  exact ⟨rfl, rfl⟩
theorem number_great (v m : Nat) (w : World) (hm1 : 1 ≤ m) (hm8 : m < 8) (h : ((v : Int) / 2 ^ (8 * m) != 0) = true) :
    Calls Try.prog 44 #[.int .u64 v, .int .i64 m] w fun e w' => e = .returned (.tuple #[.slice none 0 0, .int .i64 2]) ∧ w = w' := by
  go_enter Try.func44, Try.ntmps44
  go_wp2
  go_ret2
  exact ⟨rfl, rfl⟩

/-- What a call that makes bytes of its own hands back. -/
def Made (P : Program) (E : TypeId) (w : World) (v : Value) (w' : World) (xs : List Int) : Prop :=
  (∃ g cap, v = .slice (some ⟨g, 0, none⟩) xs.length cap) ∧ w'.ownsRow w.heap.size E 1 v xs.length (xs.map (Value.int .u8)) ∧ Below w.heap.size w w'

theorem made_start {w1 : World} {B : Nat} {E : TypeId} {v : Value} {m : Nat} (L : List Int) (hown : w1.ownsRow B E 1 v m (madeCells (Value.int .u8 0).cells (m * 1)).toList) :
    w1.ownsRow B E 1 v m ((L.take 0 ++ List.replicate (m - 0) 0).map (Value.int .u8)) := by
  have e : (madeCells (Value.int .u8 0).cells (m * 1)).toList = List.replicate (m * 1) (Value.int .u8 0) := toList_madeCells_one _ _
  rw [e] at hown
  simpa using hown

/-- A store into a made row, as far as it is filled. -/
theorem own_step {wr : World} {B g m c k : Nat} {E : TypeId} {L : List Int} (ho : wr.ownsRow B E 1 (.slice (some ⟨g, 0, none⟩) m c) m ((L.take k ++ List.replicate (m - k) 0).map (Value.int .u8))) (hL : L.length = m) (hk : k < m) (x : Int) (hx : x = L.getD k 0) :
    (wr.setCell ⟨g, k, none⟩ (.int .u8 x)).ownsRow B E 1 (.slice (some ⟨g, 0, none⟩) m c) m ((L.take (k + 1) ++ List.replicate (m - (k + 1)) 0).map (Value.int .u8)) := by
  have h := (ho.stored k (.int .u8 x)).1
  rw [← List.map_set, hx, set_step L 0 0 m k hL hk] at h
  rw [hx]; exact h

def OkMade (P : Program) (E : TypeId) (w : World) (k : Int) (xs : List Int) (e : Ending) (w' : World) : Prop := ∃ s, e = .returned (.tuple #[s, .int .i64 k]) ∧ Made P E w s w' xs

theorem made_post {P : Program} {E : TypeId} {w wr : World} {m c : Nat} {xs : List Int} {r : Int} (h : wr.ownsRow w.heap.size E 1 (.slice (some ⟨w.heap.size, 0, none⟩) m c) m (xs.map (Value.int .u8))) (hl : xs.length = m) (hb : Below w.heap.size w wr) :
    OkMade P E w r xs (.returned (.tuple #[.slice (some ⟨w.heap.size, 0, none⟩) m c, .int .i64 r])) wr := by
  subst hl
  exact ⟨_, rfl, ⟨_, c, rfl⟩, h, hb⟩

theorem own_some {wr : World} {B g m c k : Nat} {E : TypeId} {xs : List Value} (ho : wr.ownsRow B E 1 (.slice (some ⟨g, 0, none⟩) m c) m xs) (hk : k < m) : ∃ u, wr.cell? ⟨g, k, none⟩ = some u := by
  rw [ho.cellAt k (by omega)]
  have := ho.1
  exact ⟨_, List.getElem?_eq_getElem (by omega)⟩

theorem number_loop (v m : Nat) (w : World) (hm1 : 1 ≤ m) (hm8 : m ≤ 8) (hv : Hid (m = 8 ∨ ((v : Int) / 2 ^ (8 * m) != 0) = false)) (hv64 : v < 18446744073709551616) :
    Calls Try.prog 44 #[.int .u64 v, .int .i64 m] w (OkMade Try.prog 5 w 0 (beB v m)) := by
  obtain ⟨i0, hi, hz0, hz1, hz2⟩ := info_parts Try.infoByte
  have g1 : decide ((m : Int) < 1) = false := decide_eq_false (by omega)
  have g2 : decide ((8 : Int) < (m : Int)) = false := decide_eq_false (by omega)
  obtain ⟨t, g3, g4⟩ : ∃ t, decide ((m : Int) < 8) = t ∧ (t = true → ((v : Int) / 2 ^ (8 * m) != 0) = false) := by
    refine ⟨_, rfl, fun ht => ?_⟩
    rcases hv.out with h8 | h8
    · subst h8; simp at ht
    · exact h8
  cases t
  all_goals
    (try have g5 := g4 rfl)
    clear g4
    go_enter Try.func44, Try.ntmps44
    go_wp2_with (at_make; refine wpList_make_full _ rfl _ _ 32 rfl w.heap.size 5 i0 (.int .u8 0) 1 Try.underlying32 hi hz0 hz1 .i64 .i64 _ _ m rfl rfl rfl rfl (by rw [hz2]; omega) (by unfold maxLen; omega) (Nat.le_refl _) ?_; intro w1 hown hgrow; clear g1 g2 g3)
    go_loopw [29] (fun i wr => ∃ k : Nat, k ≤ m ∧ i = .int .i64 k ∧ Hid (wr.ownsRow w.heap.size 5 1 (.slice (some ⟨w.heap.size, 0, none⟩) m m) m (((beB v m).take k ++ List.replicate (m - k) 0).map (Value.int .u8))) ∧ Hid (Below w.heap.size w wr)) (fun i _ => m - (intOf i).toNat)
    case atStart =>
      refine ⟨0, Nat.zero_le _, rfl, ?_, ?_⟩
      · exact made_start _ hown
      · exact (Below.refl _ _).grown hgrow (Nat.le_refl _) (by simp)
    case round =>
      obtain ⟨k, hk, rfl, ho, hb⟩ := hrel
      by_cases hlt : k < m
      · have hf := ho.out.frozenAt k
        obtain ⟨u, hu⟩ := own_some ho.out hlt
        go_wp2
        go_roundw
        case rel =>
          exact ⟨k + 1, by omega, by go_num, own_step ho.out (beB_len v m) hlt _ (beB_shr v m k hlt), hb.out.setCell (Nat.le_refl _) _⟩
        case measure => simp [intOf]; omega
      · have hkm : k = m := by omega
        have hlen := Lib.hid (beB_len v m)
        have H := Lib.hid ho.out
        rw [hkm, Nat.sub_self, List.replicate_zero, List.append_nil, List.take_of_length_le (by rw [beB_len]; exact Nat.le_refl _)] at H
        clear ho hkm
        go_wp2
        go_ret2
        exact made_post H.out hlen.out hb.out

/-- cloisterref04.Number -/
theorem refNumber_few (v : Nat) (n : Int) (w : World) (h : n < 1) :
    Calls Try.prog 59 #[.int .u64 v, .int .i64 n] w fun e w' => e = .returned (.tuple #[.slice none 0 0, .int .i64 2]) ∧ w = w' := by
  go_enter Try.func59, Try.ntmps59
  go_wp2
  go_ret2
  exact ⟨rfl, rfl⟩
theorem refNumber_many (v : Nat) (n : Int) (w : World) (h : 8 < n) :
    Calls Try.prog 59 #[.int .u64 v, .int .i64 n] w fun e w' => e = .returned (.tuple #[.slice none 0 0, .int .i64 2]) ∧ w = w' := by
  have h1 : ¬ n < 1 := by omega
  go_enter Try.func59, Try.ntmps59
  go_wp2
  go_ret2
  exact ⟨rfl, rfl⟩

/-- The number's last k bytes are laid, from behind. -/
def tailB (v m k : Nat) : List Int := List.replicate (m - k) 0 ++ (beB v m).drop (m - k)

theorem tail_step {wr : World} {B g m c k v : Nat} {E : TypeId} (ho : wr.ownsRow B E 1 (.slice (some ⟨g, 0, none⟩) m c) m ((tailB v m k).map (Value.int .u8))) (hk : k < m) (x : Int) (hx : x = (beB v m).getD (m - 1 - k) 0) :
    (wr.setCell ⟨g, m - 1 - k, none⟩ (.int .u8 x)).ownsRow B E 1 (.slice (some ⟨g, 0, none⟩) m c) m ((tailB v m (k + 1)).map (Value.int .u8)) := by
  have h := (ho.stored (m - 1 - k) (.int .u8 x)).1
  rw [← List.map_set] at h
  have e : (tailB v m k).set (m - 1 - k) x = tailB v m (k + 1) := by
    unfold tailB
    have hl := beB_len v m
    have h2 : m - k = (m - (k + 1)) + 1 := by omega
    have h3 : m - 1 - k = m - (k + 1) := by omega
    rw [hx, h3]
    rw [h2, List.replicate_succ', List.append_assoc, List.set_append_right _ _ (by simp), List.length_replicate, Nat.sub_self, List.singleton_append, List.set_cons_zero]
    congr 1
    rw [List.drop_eq_getElem_cons (show m - (k + 1) < (beB v m).length by omega)]
    congr 1
    simp [List.getD, show m - (k + 1) < (beB v m).length by omega]
  rw [e] at h; exact h

theorem tail_zero (v m : Nat) : tailB v m 0 = List.replicate m 0 := by
  unfold tailB
  rw [Nat.sub_zero, List.drop_eq_nil_of_le (by rw [beB_len]; exact Nat.le_refl _), List.append_nil]
theorem tail_all (v m : Nat) : tailB v m m = beB v m := by
  unfold tailB
  rw [Nat.sub_self, List.replicate_zero, List.drop_zero, List.nil_append]
theorem tail_at (v m k : Nat) (h : k < m) : (beB v m).getD (m - 1 - k) 0 = ((v / 256 ^ k % 256 : Nat) : Int) := by
  rw [beB_at v m _ (by omega)]
  congr 4; omega
theorem div_more (v k : Nat) : ((v / 256 ^ k : Nat) : Int) / 256 = ((v / 256 ^ (k + 1) : Nat) : Int) := by
  rw [Nat.pow_succ, ← Nat.div_div_eq_div_mul]; rfl

/-- What the reference's Number comes to: the bytes, or that it does not fit. -/
def RefNumber (w : World) (v m : Nat) (e : Ending) (w' : World) : Prop :=
  (v / 256 ^ m = 0 ∧ OkMade Try.prog 5 w 0 (beB v m) e w') ∨ (v / 256 ^ m ≠ 0 ∧ e = .returned (.tuple #[.slice none 0 0, .int .i64 2]) ∧ Below w.heap.size w w')

set_option maxHeartbeats 400000 in
set_option maxRecDepth 100000 in
theorem refNumber_loop (v m : Nat) (w : World) (hm1 : 1 ≤ m) (hm8 : m ≤ 8) (hv64 : v < 18446744073709551616) :
    Calls Try.prog 59 #[.int .u64 v, .int .i64 m] w (RefNumber w v m) := by
  obtain ⟨i0, hi, hz0, hz1, hz2⟩ := info_parts Try.infoByte
  have g1 : decide ((m : Int) < 1) = false := decide_eq_false (by omega)
  have g2 : decide ((8 : Int) < (m : Int)) = false := decide_eq_false (by omega)
  go_enter Try.func59, Try.ntmps59
  go_wp2_with (at_make; refine wpList_make_full _ rfl _ _ 32 rfl w.heap.size 5 i0 (.int .u8 0) 1 Try.underlying32 hi hz0 hz1 .i64 .i64 _ _ m rfl rfl rfl rfl (by rw [hz2]; omega) (by unfold maxLen; omega) (Nat.le_refl _) ?_; intro w1 hown hgrow; clear g1 g2)
  have hv0 : v / 256 ^ 0 = v := by simp
  generalize hu0 : (v : Int) = u0
  have HU : Hid (u0 = ((v / 256 ^ 0 : Nat) : Int)) := by rw [hv0]; exact hu0.symm
  clear hu0 hv0
  go_loopw [0, 7] (fun vv i wr => ∃ k : Nat, k ≤ m ∧ i = .int .i64 ((m : Int) - 1 - k) ∧ (∃ q : Int, vv = .int .u64 q ∧ Hid (q = ((v / 256 ^ k : Nat) : Int))) ∧ Hid (wr.ownsRow w.heap.size 5 1 (.slice (some ⟨w.heap.size, 0, none⟩) m m) m ((tailB v m k).map (Value.int .u8))) ∧ Hid (Below w.heap.size w wr)) (fun _ i _ => (intOf i + 1).toNat)
  case atStart =>
    refine ⟨0, Nat.zero_le _, by simp, ⟨_, rfl, HU⟩, ?_, ?_⟩
    · have := made_start [] hown
      rw [tail_zero]
      unfold Hid
      simpa using this
    · exact (Below.refl _ _).grown hgrow (Nat.le_refl _) (by simp)
  case round =>
    obtain ⟨k, hk, rfl, ⟨q, rfl, hq⟩, ho, hb⟩ := hrel
    have hq0 : 0 ≤ q := by rw [hq.out]; exact Int.natCast_nonneg _
    have hq1 : q ≤ 18446744073709551615 := by
      rw [hq.out]; have := Nat.div_le_self v (256 ^ k); generalize v / 256 ^ k = t at *; omega
    by_cases hlt : k < m
    · have hf := ho.out.frozenAt (m - 1 - k)
      obtain ⟨u, hu⟩ := own_some ho.out (show m - 1 - k < m by omega)
      have HX : Hid (q % 256 = (beB v m).getD (m - 1 - k) 0) := by
        show q % 256 = _
        rw [tail_at v m k hlt, hq.out]; rfl
      have HQ : Hid (q / 256 = ((v / 256 ^ (k + 1) : Nat) : Int)) := by
        show q / 256 = _
        rw [← div_more, hq.out]
      go_wp2
      go_roundw
      case rel => exact ⟨k + 1, by omega, by go_num, ⟨_, rfl, HQ⟩, tail_step ho.out hlt _ HX.out, hb.out.setCell (Nat.le_refl _) _⟩
      case measure => simp [intOf]; omega
    · have hkm : k = m := by omega
      have H := Lib.hid ho.out
      rw [hkm, tail_all] at H
      rw [hkm] at hq
      have hlen := Lib.hid (beB_len v m)
      have hneg : ((m : Int) - 1 - (k : Int)) < 0 := by omega
      clear ho
      by_cases hz : v / 256 ^ m = 0
      · have hb0 : (q != 0) = false := by rw [hq.out, hz]; rfl
        have HZ := Lib.hid hz
        clear hz hkm
        go_wp2
        go_ret2
        exact Or.inl ⟨HZ.out, made_post H.out hlen.out hb.out⟩
      · have hb0 : (q != 0) = true := by rw [hq.out, bne_iff_ne]; omega
        have HZ := Lib.hid hz
        clear hz hkm
        go_wp2
        go_ret2
        exact Or.inr ⟨HZ.out, rfl, hb.out⟩
end Go.Proofs.Ytebnekpccdcnmaa
