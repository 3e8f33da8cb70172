/- Walks of the layer path: PathJoins. -/
import Derived.Test.YtgmkpdoejehgdaaDoorPe
import Derived.Test.YtgmkpdoejehgdaaDoorPg
import Derived.Laws.Concat
namespace Go.Proofs.YtgmkpdoejehgdaaDoor
set_option linter.unusedVariables false
set_option linter.unusedSimpArgs false
open Go.RowKit

/-- A slice that holds the numbers z. -/
def IntAt (w : World) (L off : Nat) (a : Option Addr) (n c : Nat) (z : Nat → Int) : Prop :=
  n ≤ c ∧ c ≤ 9223372036854775807 ∧ (0 < n → a = some ⟨L, off, none⟩ ∧ ∀ i, i < n → w.cell? ⟨L, off + i, none⟩ = some (.int .i64 (z i)))
theorem IntAt.below {w w' : World} {L off n c : Nat} {a : Option Addr} {z : Nat → Int} (h : IntAt w L off a n c z) (hb : Below w.heap.size w w') : IntAt w' L off a n c z :=
  ⟨h.1, h.2.1, fun hn => ⟨(h.2.2 hn).1, fun i hi => by rw [hb.cell (p := ⟨L, off + i, none⟩) (World.block_lt_of_cell? w _ ((h.2.2 hn).2 i hi))]; exact (h.2.2 hn).2 i hi⟩⟩
/-- A number turned to unsigned, and cut to less than m. -/
theorem uconv (x : Int) (m : Nat) (h0 : 0 < m) (h1 : m ≤ 1000) : ∃ k : Nat, k < m ∧ wrap64 ((IntKind.u64.wrap x).tmod m) = (k : Int) := by
  have e : IntKind.u64.wrap x = x % 18446744073709551616 := rfl
  have hx := Int.emod_nonneg x (show (18446744073709551616 : Int) ≠ 0 by decide)
  rw [e, Int.tmod_eq_emod_of_nonneg hx]
  have h2 := Int.emod_nonneg (x % 18446744073709551616) (show (m : Int) ≠ 0 by omega)
  have h3 := Int.emod_lt_of_pos (x % 18446744073709551616) (show (0 : Int) < m by omega)
  obtain ⟨k, hk⟩ := Int.eq_ofNat_of_zero_le h2
  rw [hk] at h3 ⊢
  exact ⟨k, by omega, by unfold wrap64; omega⟩
def slashes (k : Nat) : ByteArray := strB (List.replicate k 47)
theorem slashes_size (k : Nat) : (slashes k).size = k := by
  show (List.replicate k (47 : UInt8)).toArray.size = k
  simp
theorem data_app (a b : ByteArray) : (a ++ b).data.toList = a.data.toList ++ b.data.toList := by
  rw [ByteArray.data_append, Array.toList_append]
theorem size_app (a b : ByteArray) : (a ++ b).size = a.size + b.size := ByteArray.size_append
theorem slashes_more (k : Nat) : slashes k ++ ⟨#[47]⟩ = slashes (k + 1) := by
  unfold slashes
  rw [List.replicate_succ', ← strB_data (_ ++ _), data_app]
  rfl
theorem slashes_data (k : Nat) : (slashes k).data.toList = List.replicate k 47 := rfl
theorem add_slash (w : World) (k : Nat) (hk : k ≤ 1000) : (Op.stringOp .add (slashes k) ⟨#[47]⟩).run Tryd.prog w = .ok (.string (slashes (k + 1))) w := by
  rw [run_string_add_sum w _ _ (by rw [slashes_size]; show k + 1 ≤ _; omega), slashes_more]
theorem Joined.grow {S : ByteArray} {want : List (List UInt8)} (h : Joined S.data.toList want) (M P : ByteArray) (j : Nat) (hM : M.data.toList = List.replicate j 47) (hP : P.data.toList ≠ []) (h24 : P.size ≤ 24) (ha : (47 : UInt8) ∉ P.data.toList ∧ (0 : UInt8) ∉ P.data.toList) :
    Joined (S ++ (M ++ P ++ ⟨#[47]⟩)).data.toList (want ++ [P.data.toList]) := by
  have := h.more j hP (by rw [← size_len]; exact h24) ha.1 ha.2
  rw [data_app, data_app, data_app, hM]
  exact this
/-- Where the putting together stands. -/
def JAt (w : World) (s v : Value) (wr : World) : Prop :=
  ∃ S want, s = .string S ∧ Hid (Joined S.data.toList want) ∧ S.size ≤ 256 ∧ Hid (SRow wr w.heap.size v want) ∧ Hid (want.length ≤ S.size) ∧ Hid (Below w.heap.size w wr)
theorem JAt.start (w : World) : JAt w (.string ⟨#[47]⟩) (.slice none 0 0) w :=
  ⟨_, [], rfl, Joined.start, by decide, SRow.nil _ _, Nat.zero_le _, Below.refl _ _⟩
/-- A piece that is good so far. -/
def Good (P : ByteArray) (q : Nat) : Prop := ∀ j b, j < q → P.data.toList[j]? = some b → b ≠ 0 ∧ b ≠ 47
theorem Good.next {P : ByteArray} {q : Nat} (h : Good P q) (hq : q < P.size) (h0 : ((P[q].toNat : Int) == 0) = false) (h47 : ((P[q].toNat : Int) == 47) = false) : Good P (q + 1) := by
  intro j b hj hb
  by_cases e : j = q
  · subst e
    rw [data_at P j hq] at hb
    injection hb with hb
    subst hb
    exact ⟨fun e => by rw [e] at h0; exact absurd h0 (by decide), fun e => by rw [e] at h47; exact absurd h47 (by decide)⟩
  · exact h j b (by omega) hb
theorem Good.all {P : ByteArray} {q : Nat} (h : Good P q) (hq : ¬ q < P.size) : (47 : UInt8) ∉ P.data.toList ∧ (0 : UInt8) ∉ P.data.toList := by
  have hl := size_len P
  refine ⟨fun hm => ?_, fun hm => ?_⟩
  · obtain ⟨j, hj⟩ := List.mem_iff_getElem?.1 hm
    have := (List.getElem?_eq_some_iff.1 hj).1
    exact (h j _ (by omega) hj).2 rfl
  · obtain ⟨j, hj⟩ := List.mem_iff_getElem?.1 hm
    have := (List.getElem?_eq_some_iff.1 hj).1
    exact (h j _ (by omega) hj).1 rfl

set_option maxRecDepth 100000 in
set_option maxHeartbeats 1600000 in
/-- PathJoins -/
theorem joins_walk (a a' : Option Addr) (n c n' c' L L' off off' : Nat) (v : Nat → ByteArray) (z : Nat → Int) (mx : Int) (w : World) (hmx : w.cell? ⟨0, 0, none⟩ = some (.int .i64 mx)) (h : StAt w L off a n c v) (h' : IntAt w L' off' a' n' c' z) :
    Calls Tryd.prog 3 #[.slice a n c, .slice a' n' c'] w fun e w' => e = .returned (.bool true) ∧ Below w.heap.size w w' := by
  obtain ⟨i0, hi, hz0, hz1, hz2⟩ := info_parts infoStr
  have hn9 : n ≤ 9223372036854775807 := by have := h.1; have := h.2.1; omega
  have hn9' : n' ≤ 9223372036854775807 := by have := h'.1; have := h'.2.1; omega
  have HMX0 := Lib.hid hmx
  have HP0 := Lib.hid h
  have HZ0 := Lib.hid h'
  clear hmx h h'
  go_enter Tryd.func3, Tryd.ntmps3
  go_upto_block 0 with (go_at_call 5; refine (fixed_any mx _ HMX0.out).mono ?_; rintro e w1 ⟨rfl, hb⟩; have HP := Lib.hid (HP0.out.below hb); have HZ := Lib.hid (HZ0.out.below hb); have HMX := Lib.hid (mx_below HMX0.out hb); have HB0 := Lib.hid hb; clear hb)
  clear HMX0 HP0 HZ0
  go_cut [5, 6] (fun s v wx => JAt w1 s v wx)
  case first =>
    go_wp2_with fail
    go_loopw [5, 6, 17] (fun s u i wr => ∃ k : Nat, k ≤ n ∧ i = .int .i64 k ∧ JAt w1 s u wr) (fun _ _ i _ => n - (intOf i).toNat)
    case atStart => exact ⟨0, Nat.zero_le _, rfl, JAt.start w1⟩
    case round =>
      obtain ⟨k, hk, rfl, S, want, rfl, HJ, hS256, HR, HWL, HB⟩ := hrel
      by_cases hlt : k < n
      · have HL := Lib.hid (HP.out.below HB.out)
        obtain ⟨ha, hcell⟩ := HL.out.2.2 (by omega)
        subst ha
        have c0 := hcell k hlt
        clear hcell
        obtain ⟨P, hP⟩ : ∃ x, Hid (v k = x) := ⟨_, rfl⟩
        rw [hP.out] at c0
        cases e0 : P.toList.isEmpty with
        | true =>
          go_wp2
          go_roundw
          case rel => exact ⟨k + 1, by omega, by go_num, S, want, rfl, HJ, hS256, HR, HWL, HB⟩
          case measure => simp [intOf]; omega
        | false =>
          by_cases h24 : 24 < P.size
          · have d24 : decide (24 < (P.size : Int)) = true := decide_eq_true (by omega)
            clear h24
            go_wp2
            go_roundw
            case rel => exact ⟨k + 1, by omega, by go_num, S, want, rfl, HJ, hS256, HR, HWL, HB⟩
            case measure => simp [intOf]; omega
          · have d24 : decide (24 < (P.size : Int)) = false := decide_eq_false (by omega)
            have HP24 : Hid (P.size ≤ 24) := by show _ ≤ _; omega
            have hp24 : P.size ≤ 24 := by omega
            have HPN : Hid (P.data.toList ≠ []) := by
              intro e
              rw [Lib.toList_data, e] at e0
              exact absurd e0 (by decide)
            clear h24
            go_wp2_with fail
            go_loop [9] (fun i => ∃ q : Nat, q ≤ P.size ∧ i = .int .i64 q ∧ Hid (Good P q)) (fun i => P.size - (intOf i).toNat)
            case atStart => exact ⟨0, Nat.zero_le _, rfl, fun j b hj => by omega⟩
            case round =>
              obtain ⟨q, hq, rfl, hg⟩ := hrel
              by_cases hlq : q < P.size
              · cases h0 : ((P[q].toNat : Int) == 0) with
                | true =>
                  go_wp2
                  go_ret
                  exact ⟨rfl, HB0.out.trans (HB.out.mono HB0.out.size)⟩
                | false =>
                  cases h47 : ((P[q].toNat : Int) == 47) with
                  | true =>
                    go_wp2
                    go_ret
                    exact ⟨rfl, HB0.out.trans (HB.out.mono HB0.out.size)⟩
                  | false =>
                    have HG := Lib.hid (hg.out.next hlq h0 h47)
                    go_wp2
                    go_round
                    case rel => exact ⟨q + 1, by omega, by go_num, HG⟩
                    case measure => simp [intOf]; omega
              · have HA := Lib.hid (hg.out.all hlq)
                clear hg
                go_upto_if 48 with fail
                go_cut [10] (fun m wx => ∃ j : Nat, j < 4 ∧ m = .string (slashes j) ∧ wr = wx)
                case first =>
                  by_cases hkz : k < n'
                  · obtain ⟨ha', hcell'⟩ := (HZ.out.below HB.out).2.2 (by omega)
                    subst ha'
                    have d0 := hcell' k hkz
                    clear hcell'
                    obtain ⟨x, hx⟩ : ∃ x, Hid (z k = x) := ⟨_, rfl⟩
                    rw [hx.out] at d0
                    obtain ⟨r, hr4, er⟩ := uconv x 4 (by omega) (by omega)
                    rw [show ((4 : Nat) : Int) = 4 from rfl] at er
                    go_wp2_with fail
                    clear er
                    go_loop [10, 56] (fun m i => ∃ j : Nat, j ≤ r ∧ i = .int .i64 j ∧ m = .string (slashes j)) (fun _ i => r - (intOf i).toNat)
                    case atStart => exact ⟨0, Nat.zero_le _, rfl, rfl⟩
                    case round =>
                      obtain ⟨j, hj, rfl, rfl⟩ := hrel
                      by_cases hjr : j < r
                      · have hadd2 := add_slash wr j (by omega)
                        obtain ⟨M, hM⟩ : ∃ M, Hid (slashes j = M) := ⟨_, rfl⟩
                        obtain ⟨M2, hM2⟩ : ∃ M, Hid (slashes (j + 1) = M) := ⟨_, rfl⟩
                        rw [hM.out, hM2.out] at hadd2
                        rw [hM.out]
                        go_wp2
                        go_round
                        case rel => exact ⟨j + 1, by omega, by go_num, by rw [hM2.out]⟩
                        case measure => simp [intOf]; omega
                      · go_wp2
                        go_meet
                        exact ⟨j, by omega, rfl, rfl⟩
                  · go_wp2
                    go_meet
                    exact ⟨0, by omega, rfl, rfl⟩
                case rest =>
                  obtain ⟨j, hj4, rfl, rfl⟩ := hcut
                  obtain ⟨M, hM⟩ : ∃ M, Hid (slashes j = M) := ⟨_, rfl⟩
                  have hMle : M.size ≤ 3 := by rw [← hM.out, slashes_size]; omega
                  rw [hM.out]
                  have HMD : Hid (M.data.toList = List.replicate j 47) := by show _ = _; rw [← hM.out]; exact slashes_data j
                  clear hlq
                  by_cases hbig : 256 < S.size + M.size + P.size + 1
                  · have d4 : decide ((256 : Int) < (S.size : Int) + (M.size : Int) + (P.size : Int) + 1) = true := decide_eq_true (by omega)
                    clear hbig
                    go_wp2
                    go_meet
                    exact ⟨S, want, rfl, HJ, hS256, HR, HWL, HB⟩
                  · have d4 : decide ((256 : Int) < (S.size : Int) + (M.size : Int) + (P.size : Int) + 1) = false := decide_eq_false (by omega)
                    have hle : S.size + M.size + P.size + 1 ≤ 256 := by omega
                    have HF : Hid (want.length ≤ 256) := by have := HWL.out; show _ ≤ _; omega
                    clear hbig
                    go_wp2_with (at_builtin; refine wpList_append_own _ rfl (.tmp 77) (.tmp 79) 22 rfl w1.heap.size 9 i0 _ 1 16 Tryd.underlying22 hi hz0 hz1 hz2 rfl (by decide) _ _ _ rfl (HR.out.alloc _) ⟨wr.heap.size, 0, none⟩ 1 1 [.string P] rfl rfl (cell_one_new _ _ _) (strs_one P) ?c3 ?c4 ?c5 ?_)
                    case c3 => have := HF.out; simp; unfold maxLen; omega
                    case c4 => have := HF.out; simp; omega
                    case c5 => have := HB.out.size; simp; omega
                    intro v3 w4 hown3 hgrow3 _
                    have HT := Lib.hid (HR.out.more (x := P.data.toList) HB.out ((Below.refl _ _).alloc (Nat.le_refl _) _) (by unfold strV; rw [strB_data]; exact hown3) hgrow3)
                    clear hown3 hgrow3
                    have HJ2 := Lib.hid (HJ.out.grow M P j HMD.out HPN.out HP24.out HA.out)
                    have HWL2 : Hid ((want ++ [P.data.toList]).length ≤ (S ++ (M ++ P ++ ⟨#[47]⟩)).size) := by
                      have := HWL.out
                      show _ ≤ _
                      rw [size_app, size_app, size_app, List.length_append]
                      show want.length + 1 ≤ _ + (_ + 1)
                      omega
                    have HS2 : Hid ((S ++ (M ++ P ++ ⟨#[47]⟩)).size ≤ 256) := by
                      show _ ≤ _
                      rw [size_app, size_app, size_app]
                      show _ + (_ + _ + 1) ≤ _
                      omega
                    clear hle
                    go_wp2
                    go_roundw
                    case rel => exact ⟨k + 1, by omega, by go_num, _, _, rfl, HJ2, HS2.out, HT.out.1, HWL2, HT.out.2⟩
                    case measure => simp [intOf]; omega
      · go_wp2
        go_meet
        exact ⟨S, want, rfl, HJ, hS256, HR, HWL, HB⟩
  case rest =>
    obtain ⟨S, want, rfl, HJ, hS256, HR, HWL, HB⟩ := hcut
    have HMX1 := Lib.hid (mx_below HMX.out HB.out)
    have HPC : Hid (pcs S.data.toList 256 true = (want, 0)) := HJ.out.pcs (by rw [← size_len]; exact hS256)
    go_upto_region 25 with (go_at_call 6; refine (split_any S mx _ HMX1.out (by omega)).mono ?_; rintro e w2 ⟨v1, rfl, hv, hb⟩; rw [HPC.out] at hv ⊢; have HV := Lib.hid hv; have HR2 := Lib.hid (HR.out.below hb); have HB2 := Lib.hid (HB.out.trans (hb.mono HB.out.size)); clear hb hv)
    obtain ⟨a1, c1, L1, rfl, h1⟩ := HV.out
    obtain ⟨a2, c2, L2, rfl, h2⟩ := HR2.out.stl
    have H1 := Lib.hid h1
    have H2 := Lib.hid h2
    clear h1 h2 HV HR2 HR HJ
    go_wp2_with (go_at_call 7; refine (same_any _ _ _ _ _ _ _ _ _ _ _ H1.out H2.out).mono ?_; rintro e w3 ⟨rfl, hb⟩; have HB3 := Lib.hid (HB2.out.trans (hb.mono HB2.out.size)); clear hb)
    go_ret
    exact ⟨rfl, HB0.out.trans (HB3.out.mono HB0.out.size)⟩
end Go.Proofs.YtgmkpdoejehgdaaDoor
