/- The walk of WireBack. -/
import Derived.Test.YtdonackpbcflhaaWh
import Derived.Deep.DeepCutAuto
import Derived.Deep.CutBlock
import Derived.Deep.LoopGhost
import Derived.OpenShut
import Derived.ProofKit
namespace Go.Proofs.Ytdonackpbcflhaa
set_option linter.unusedVariables false
set_option linter.unusedSimpArgs false
open Go.RowKit

/-- Numbers that came in. -/
def IsNums (w : World) (a : Option Addr) (n : Nat) (ns : Nat → Nat) : Prop :=
  n ≤ 9223372036854775807 ∧ (n = 0 ∨ ∃ b off, a = some ⟨b, off, none⟩ ∧ b < w.heap.size ∧ ∀ i, i < n → w.cell? ⟨b, off + i, none⟩ = some (.int .u64 (ns i : Int)) ∧ ns i < 18446744073709551616)
/-- Texts that came in. -/
def IsTexts (w : World) (a : Option Addr) (n : Nat) (ts : Nat → ByteArray) : Prop :=
  n ≤ 9223372036854775807 ∧ (n = 0 ∨ ∃ b off, a = some ⟨b, off, none⟩ ∧ b < w.heap.size ∧ ∀ i, i < n → w.cell? ⟨b, off + i, none⟩ = some (.string (ts i)) ∧ (ts i).size ≤ 9223372036854775807)

/-- The bytes gathered so far: the call's own. -/
def Own (w0 w : World) (v : Value) (xs : List Int) : Prop :=
  (∃ a l c, v = .slice a l c) ∧ w.ownsRow w0.heap.size 5 1 v xs.length (xs.map (Value.int .u8)) ∧ Below w0.heap.size w0 w

theorem Own.nil {w0 w : World} (h : Below w0.heap.size w0 w) : Own w0 w (.slice none 0 0) [] := ⟨⟨none, 0, 0, rfl⟩, World.ownsRow_nil _ _ _ _, h⟩
theorem Own.below {w0 w w' : World} {v : Value} {xs : List Int} (h : Own w0 w v xs) (hb : Below w.heap.size w w') : Own w0 w' v xs := by
  obtain ⟨h1, h2, h3⟩ := h
  refine ⟨h1, h2.kept (w' := w') (row := none) ⟨hb.os, hb.tape, hb.output, hb.size, fun k hk _ => hb.block k hk⟩ ?_, h3.trans (hb.mono h3.size)⟩
  cases v.ownBlock <;> simp
theorem Own.bts {w0 w : World} {v : Value} {xs : List Int} (h : Own w0 w v xs) (hr : ∀ x ∈ xs, 0 ≤ x ∧ x < 256) : Bts w w0.heap.size v xs := Bts.of_own h.2.1 hr

/-- all = append(all, b...), b a made slice that is not empty. -/
theorem Own.append {w0 w : World} {v : Value} {xs ys : List Int} {L off n c : Nat} {ad : Addr} (h : Own w0 w v xs) (hy : BtsAt w L off (.slice (some ad) n c) ys) (hne : ys ≠ []) (hlen : xs.length + ys.length ≤ 20000) :
    ∃ v' w', (Builtin.append_ #[23, 23] 23 #[v, .slice (some ad) n c]).run Try.prog w = .ok v' w' ∧ Own w0 w' v' (xs ++ ys) := by
  obtain ⟨i0, hi, hz0, hz1, hz2⟩ := info_parts Try.infoByte
  obtain ⟨_, h2, h3⟩ := h
  have hn : n = ys.length := hy.len.1
  have had : ad = ⟨L, off, none⟩ := by
    have := (hy.cells (by rw [hn]; exact List.length_pos_iff.2 hne)).1
    simpa using this
  have hpos : 0 < ys.length := List.length_pos_iff.2 hne
  obtain ⟨v', w', hr, ho, hg, _⟩ := run_append_own (P := Try.prog) w w0.heap.size 23 23 5 i0 (.int .u8 0) 1 1 Try.underlying23 hi hz0 hz1 hz2 rfl (by decide) v xs.length _ h2 ad n c (ys.map (Value.int .u8)) (by rw [List.length_map, hn, Nat.mul_one]) (by rw [had]; exact news_bts hy) (ints_oneCell _ _) (by unfold maxLen; omega) (by omega) h3.size
  rw [← List.map_append, hn, ← List.length_append] at ho
  obtain ⟨g, cap, hv', _⟩ := own_shape ho (by rw [List.length_append]; omega)
  refine ⟨v', w', hr, ⟨_, _, _, hv'⟩, ho, h3.grown hg h3.size ?_⟩
  intro k hk
  exact (h2.lt k hk).1

set_option maxHeartbeats 4000000 in
theorem back_walk (a1 : Option Addr) (n1 c1 : Nat) (ns : Nat → Nat) (a2 : Option Addr) (n2 c2 : Nat) (ts : Nat → ByteArray) (w : World) (h1 : IsNums w a1 n1 ns) (h2 : IsTexts w a2 n2 ts) :
    Calls Try.prog 5 #[.slice a1 n1 c1, .slice a2 n2 c2] w fun e w' => e = .returned (.bool true) ∧ Below w.heap.size w w' := by
  obtain ⟨hn1, h1⟩ := h1
  obtain ⟨hn2, h2⟩ := h2
  have HN := Lib.hid h1
  have HT := Lib.hid h2
  clear h1 h2
  obtain ⟨K1, hK1, hK1b, hK1c⟩ : ∃ K1, K1 ≤ n1 ∧ K1 ≤ 50 ∧ (K1 = n1 ∨ (K1 < n1 ∧ 50 ≤ K1)) := ⟨min n1 50, by omega, by omega, by omega⟩
  obtain ⟨K2, hK2, hK2b, hK2c, hK2d⟩ := stopAt ts n2
  have HC := Lib.hid hK2c
  have HD := Lib.hid hK2d
  have HK1 := Lib.hid hK1c
  clear hK2c hK2d hK1c
  go_enter Try.func5, Try.ntmps5
  go_upto_block 0 with (go_at_call 10; refine (fixed_any _).mono ?_; rintro e w1 ⟨rfl, h1⟩; have HB1 := Lib.hid h1; clear h1)
  go_cut [5] (fun v wx => Own w wx v (NL ns K1))
  case first =>
    go_wp2_with fail
    go_loopw [5, 23] (fun v i wr => ∃ k : Nat, k ≤ K1 ∧ i = .int .i64 k ∧ Own w wr v (NL ns k)) (fun _ i _ => K1 - (intOf i).toNat)
    case atStart => exact ⟨0, Nat.zero_le _, rfl, Own.nil HB1.out⟩
    case round =>
      obtain ⟨k, hk, rfl, ho⟩ := hrel
      obtain ⟨⟨av, lv, cv, rfl⟩, _⟩ := id ho
      have HO := Lib.hid ho
      clear ho
      by_cases hlt : k < K1
      · rcases HN.out with h0 | ⟨b, off, rfl, hbw, hcell⟩
        · omega
        obtain ⟨hc0, hns⟩ := hcell k (by omega)
        have hc : wr.cell? ⟨b, off + k, none⟩ = some (.int .u64 (ns k : Int)) := by
          rw [HO.out.2.2.cell (p := ⟨b, off + k, none⟩) hbw]; exact hc0
        have hd : decide ((50 : Int) ≤ (k : Int)) = false := decide_eq_false (by omega)
        have N8 := fun w => number_loop (ns k) 8 w (by decide) (by decide) (Or.inl rfl) hns
        have HNS : Hid (ns k < 18446744073709551616) := hns
        clear hcell hc0 hns hbw
        go_wp2_with (first
          | (go_at_call 6; refine (N8 _).mono ?_; rintro e w2 ⟨s, rfl, ⟨g, cc, rfl⟩, h1, h2⟩; obtain ⟨v3, w3, hr, ho3⟩ := (HO.out.below h2).append (BtsAt.of_own h1 (beB_range _ _)).1 (by intro e; have := beB_len (ns k) 8; rw [e] at this; simp at this) (by rw [NL_len, beB_len]; omega); rw [← NL_succ] at ho3; obtain ⟨⟨av3, lv3, cv3, rfl⟩, _⟩ := id ho3; have HRUN := Lib.hid hr; have HO3 := Lib.hid ho3; clear h1 h2 hr ho3)
          | (at_builtin; refine wpList_append_run _ rfl _ _ _ _ rfl _ _ rfl rfl HRUN.out ?_))
        go_roundw
        case rel => exact ⟨k + 1, by omega, by go_num, HO3.out⟩
        case measure => simp [intOf]; omega
      · have hkK : k = K1 := by omega
        have HKK := Lib.hid hkK
        rcases HK1.out with he | ⟨he, h50⟩
        · have hge : ¬ k < n1 := by omega
          clear hkK he
          go_wp2
          go_meet
          rw [← HKK.out]
          exact HO.out
        · have hlt2 : k < n1 := by omega
          rcases HN.out with h0 | ⟨b, off, rfl, hbw, hcell⟩
          · omega
          obtain ⟨hc0, _⟩ := hcell k (by omega)
          have hc : wr.cell? ⟨b, off + k, none⟩ = some (.int .u64 (ns k : Int)) := by
            rw [HO.out.2.2.cell (p := ⟨b, off + k, none⟩) hbw]; exact hc0
          have hd : decide ((50 : Int) ≤ (k : Int)) = true := decide_eq_true (by omega)
          clear hcell hc0 hbw hkK he h50
          go_wp2
          go_meet
          rw [← HKK.out]
          exact HO.out
  case rest =>
    obtain ⟨⟨av, lv, cv, rfl⟩, _⟩ := id hcut
    have HO1 := Lib.hid hcut
    clear hcut
    go_upto_block 2 with fail
    go_cut [5] (fun v wx => Own w wx v (NL ns K1 ++ TL ts K2))
    case first =>
      go_wp2_with fail
      go_loopw [5, 43] (fun v i wr => ∃ k : Nat, k ≤ K2 ∧ i = .int .i64 k ∧ Own w wr v (NL ns K1 ++ TL ts k)) (fun _ i _ => K2 - (intOf i).toNat)
      case atStart => exact ⟨0, Nat.zero_le _, rfl, by have := HO1.out; simpa [TL] using this⟩
      case round =>
        obtain ⟨k, hk, rfl, ho⟩ := hrel
        obtain ⟨⟨av2, lv2, cv2, rfl⟩, _⟩ := id ho
        have HO := Lib.hid ho
        clear ho
        by_cases hlt : k < K2
        · rcases HT.out with h0 | ⟨b, off, rfl, hbw, hcell⟩
          · omega
          obtain ⟨hc0, _⟩ := hcell k (by omega)
          have hc : wr.cell? ⟨b, off + k, none⟩ = some (.string (ts k)) := by
            rw [HO.out.2.2.cell (p := ⟨b, off + k, none⟩) hbw]; exact hc0
          have hd : decide ((50 : Int) ≤ (k : Int)) = false := decide_eq_false (by omega)
          have hsz := HC.out k hlt
          have hd2 : decide ((255 : Int) < ((ts k).size : Int)) = false := decide_eq_false (by omega)
          have TX := fun w => text_good (ts k) (1 + (ts k).size) w (by omega) (by omega)
          have ecast : ((1 + (ts k).size : Nat) : Int) = 1 + ((ts k).size : Int) := by simp
          rw [ecast] at TX
          have hlen : (NL ns K1 ++ TL ts k).length + (textB (ts k) (1 + (ts k).size)).length ≤ 20000 := by
            have h5 := NL_len ns K1
            have h6 := TL_len ts k (fun j hj => HC.out j (by omega))
            have h7 := textB_len (ts k) (1 + (ts k).size) (by omega)
            rw [List.length_append]
            omega
          have HLEN := Lib.hid hlen
          have HSZ := Lib.hid hsz
          have hsz9 : (ts k).size ≤ 9223372036854775806 := by omega
          clear hcell hc0 hbw ecast hlen hsz
          obtain ⟨s, hs⟩ : ∃ s, ts k = s := ⟨_, rfl⟩
          rw [hs] at hc hd2 TX HLEN HSZ hsz9
          have HS := Lib.hid hs
          clear hs
          go_wp2_with (first
            | (go_at_call 8; refine (TX _).mono ?_; rintro e w2 ⟨sl, rfl, ⟨g, cc, rfl⟩, h1, h2⟩; obtain ⟨v3, w3, hr, ho3⟩ := (HO.out.below h2).append (BtsAt.of_own h1 (textB_range _ _ (by have := HSZ.out; omega))).1 (by rw [textB_just]; simp) HLEN.out; obtain ⟨⟨av3, lv3, cv3, rfl⟩, _⟩ := id ho3; have HRUN := Lib.hid hr; have HO3 := Lib.hid ho3; clear h1 h2 hr ho3)
            | (at_builtin; refine wpList_append_run _ rfl _ _ _ _ rfl _ _ rfl rfl HRUN.out ?_))
          go_roundw
          case rel => exact ⟨k + 1, by omega, by go_num, by rw [TL_succ, ← List.append_assoc, HS.out]; exact HO3.out⟩
          case measure => simp [intOf]; omega
        · have hkK : k = K2 := by omega
          have HKK := Lib.hid hkK
          rcases HD.out with he | ⟨he, h50⟩
          · have hge : ¬ k < n2 := by omega
            clear hkK he
            go_wp2
            go_meet
            rw [← HKK.out]
            exact HO.out
          · have hlt2 : k < n2 := by omega
            rcases HT.out with h0 | ⟨b, off, rfl, hbw, hcell⟩
            · omega
            obtain ⟨hc0, hs9⟩ := hcell k (by omega)
            have hc : wr.cell? ⟨b, off + k, none⟩ = some (.string (ts k)) := by
              rw [HO.out.2.2.cell (p := ⟨b, off + k, none⟩) hbw]; exact hc0
            rw [← hkK] at h50
            have HOk := Lib.hid HO.out
            rcases Nat.lt_or_ge k 50 with hk50 | hk50
            · have hd : decide ((50 : Int) ≤ (k : Int)) = false := decide_eq_false (by omega)
              have hd2 : decide ((255 : Int) < ((ts k).size : Int)) = true := decide_eq_true (by omega)
              clear hcell hc0 hbw hkK he h50
              generalize hts : ts k = s at hc hd2 hs9
              clear hts
              go_wp2
              go_meet
              rw [← HKK.out]
              exact HO.out
            · have hd : decide ((50 : Int) ≤ (k : Int)) = true := decide_eq_true (by omega)
              clear hcell hc0 hbw hkK he h50 hk50
              generalize hts : ts k = s at hc hs9
              clear hts
              go_wp2
              go_meet
              rw [← HKK.out]
              exact HO.out
    case rest =>
      obtain ⟨⟨av4, lv4, cv4, rfl⟩, _⟩ := id hcut
      have hbt := hcut.bts (by
        intro x hx
        rcases List.mem_append.1 hx with hx | hx
        · exact NL_range _ _ x hx
        · exact TL_range _ _ HC.out x hx)
      have hll := hbt.len.1
      obtain ⟨L4, off4, _, hba⟩ := hbt
      have hlen4 : lv4 ≤ 140737488355328 := by
        rw [hll, List.length_append]
        have h5 := NL_len ns K1
        have h6 := TL_len ts K2 HC.out
        omega
      have HBA := Lib.hid hba
      have HO4 := Lib.hid hcut.2.2
      clear hba hcut hll HO1
      go_upto_block 4 with (go_at_call 12; refine (read_any _ _ _ L4 off4 _ _ HBA.out hlen4).mono ?_; rintro e w5 ⟨R, L, rfl, hR, hL, hrd, _, hb5⟩; have HRB : Hid (w.heap.size ≤ R) := Nat.le_trans HO4.out.size hR; have HRD := Lib.hid hrd; have HB5 := Lib.hid (HO4.out.trans (hb5.mono HO4.out.size)); clear hR hL hrd hb5)
      go_cut [] (fun wx => (∃ off, Rdr wx R L off (TL ts K2) false) ∧ Below w.heap.size w wx)
      case first =>
        go_wp2_with fail
        go_loopw [75] (fun i wr => ∃ k : Nat, k ≤ K1 ∧ i = .int .i64 k ∧ (∃ off, Rdr wr R L off (NR ns k K1 ++ TL ts K2) false) ∧ Below w.heap.size w wr) (fun i _ => K1 - (intOf i).toNat)
        case atStart => exact ⟨0, Nat.zero_le _, rfl, ⟨0, HRD.out⟩, HB5.out⟩
        case round =>
          obtain ⟨k, hk, rfl, ⟨off, hrd⟩, hbel⟩ := hrel
          have HRk := Lib.hid hrd
          have HBk := Lib.hid hbel
          clear hrd hbel
          by_cases hlt : k < K1
          · rcases HN.out with h0 | ⟨b, o, rfl, hbw, hcell⟩
            · omega
            obtain ⟨hc0, hns⟩ := hcell k (by omega)
            have hc : wr.cell? ⟨b, o + k, none⟩ = some (.int .u64 (ns k : Int)) := by
              rw [HBk.out.cell (p := ⟨b, o + k, none⟩) hbw]; exact hc0
            have hd : decide ((50 : Int) ≤ (k : Int)) = false := decide_eq_false (by omega)
            have hxs : NR ns k K1 ++ TL ts K2 = beB (ns k) 8 ++ (NR ns (k + 1) K1 ++ TL ts K2) := by rw [NR_step ns k K1 hlt, List.append_assoc]
            have hr0 := HRk.out
            rw [hxs] at hr0
            obtain ⟨q1, q2, q3⟩ := numV_back (ns k) (NR ns (k + 1) K1 ++ TL ts K2) hns
            have NB := number_rd R L off _ false 8 wr hr0
            unfold Numbered at NB
            rw [q1, q2, q3] at NB
            clear hcell hc0 hns hbw hxs hr0 q1 q2 q3
            go_wp2_with (go_at_call 13; refine NB.mono ?_; rintro e w6 ⟨rfl, hr6, hg6, hs6⟩; have HR6 := Lib.hid hr6; have HG6 := Lib.hid hg6; clear hr6 hg6 hs6)
            go_roundw
            case rel => exact ⟨k + 1, by omega, by go_num, ⟨_, HR6.out⟩, below_rdr HBk.out HG6.out HBk.out.size HRB.out⟩
            case measure => simp [intOf]; omega
          · have hkK : k = K1 := by omega
            have hxs : NR ns k K1 ++ TL ts K2 = TL ts K2 := by rw [hkK, NR_end, List.nil_append]
            have HX := Lib.hid hxs
            rcases HK1.out with he | ⟨he, h50⟩
            · have hge : ¬ k < n1 := by omega
              clear hkK he hxs
              go_wp2
              go_meet
              rw [HX.out] at HRk
              exact ⟨⟨_, HRk.out⟩, HBk.out⟩
            · have hlt2 : k < n1 := by omega
              rcases HN.out with h0 | ⟨b, o, rfl, hbw, hcell⟩
              · omega
              obtain ⟨hc0, _⟩ := hcell k (by omega)
              have hc : wr.cell? ⟨b, o + k, none⟩ = some (.int .u64 (ns k : Int)) := by
                rw [HBk.out.cell (p := ⟨b, o + k, none⟩) hbw]; exact hc0
              have hd : decide ((50 : Int) ≤ (k : Int)) = true := decide_eq_true (by omega)
              clear hcell hc0 hbw hkK he h50 hxs
              go_wp2
              go_meet
              rw [HX.out] at HRk
              exact ⟨⟨_, HRk.out⟩, HBk.out⟩
      case rest =>
        obtain ⟨⟨off5, hrd5⟩, hb6⟩ := hcut
        have HRD5 := Lib.hid hrd5
        have HB6 := Lib.hid hb6
        clear hrd5 hb6
        go_upto_block 6 with fail
        go_cut [] (fun wx => (∃ off, Rdr wx R L off [] false) ∧ Below w.heap.size w wx)
        case first =>
          go_wp2_with fail
          go_loopw [89] (fun i wr => ∃ k : Nat, k ≤ K2 ∧ i = .int .i64 k ∧ (∃ off, Rdr wr R L off (TR ts k K2) false) ∧ Below w.heap.size w wr) (fun i _ => K2 - (intOf i).toNat)
          case atStart => exact ⟨0, Nat.zero_le _, rfl, ⟨off5, HRD5.out⟩, HB6.out⟩
          case round =>
            obtain ⟨k, hk, rfl, ⟨off, hrd⟩, hbel⟩ := hrel
            have HRk := Lib.hid hrd
            have HBk := Lib.hid hbel
            clear hrd hbel
            by_cases hlt : k < K2
            · rcases HT.out with h0 | ⟨b, o, rfl, hbw, hcell⟩
              · omega
              obtain ⟨hc0, _⟩ := hcell k (by omega)
              have hc : wr.cell? ⟨b, o + k, none⟩ = some (.string (ts k)) := by
                rw [HBk.out.cell (p := ⟨b, o + k, none⟩) hbw]; exact hc0
              have hd : decide ((50 : Int) ≤ (k : Int)) = false := decide_eq_false (by omega)
              have hsz := HC.out k hlt
              have hd2 : decide ((255 : Int) < ((ts k).size : Int)) = false := decide_eq_false (by omega)
              have hxs := TR_step ts k K2 hlt
              have hr0 := HRk.out
              rw [hxs] at hr0
              obtain ⟨q1, q2, q3⟩ := textV_back (ts k) (TR ts (k + 1) K2) (1 + ((ts k).size : Int)) rfl
              have NB := textR_any R L off _ false (1 + ((ts k).size : Int)) wr hr0 (by omega)
              unfold Texted at NB
              rw [q1, q2, q3] at NB
              have hsz9 : (ts k).size ≤ 9223372036854775806 := by omega
              obtain ⟨s, hs⟩ : ∃ s, ts k = s := ⟨_, rfl⟩
              rw [hs] at hc hd2 NB hsz9
              clear hcell hc0 hsz hbw hxs hr0 q1 q2 q3 hs
              go_wp2_with (go_at_call 17; refine NB.mono ?_; rintro e w6 ⟨rfl, hr6, hg6, hs6⟩; have HR6 := Lib.hid hr6; have HG6 := Lib.hid hg6; clear hr6 hg6 hs6)
              go_roundw
              case rel => exact ⟨k + 1, by omega, by go_num, ⟨_, HR6.out⟩, below_rdr HBk.out HG6.out HBk.out.size HRB.out⟩
              case measure => simp [intOf]; omega
            · have hkK : k = K2 := by omega
              have hxs : TR ts k K2 = [] := by rw [hkK, TR_end]
              have HX := Lib.hid hxs
              rcases HD.out with he | ⟨he, h50⟩
              · have hge : ¬ k < n2 := by omega
                clear hkK he hxs
                go_wp2
                go_meet
                rw [HX.out] at HRk
                exact ⟨⟨_, HRk.out⟩, HBk.out⟩
              · have hlt2 : k < n2 := by omega
                rcases HT.out with h0 | ⟨b, o, rfl, hbw, hcell⟩
                · omega
                obtain ⟨hc0, hs9⟩ := hcell k (by omega)
                have hc : wr.cell? ⟨b, o + k, none⟩ = some (.string (ts k)) := by
                  rw [HBk.out.cell (p := ⟨b, o + k, none⟩) hbw]; exact hc0
                rw [← hkK] at h50
                rcases Nat.lt_or_ge k 50 with hk50 | hk50
                · have hd : decide ((50 : Int) ≤ (k : Int)) = false := decide_eq_false (by omega)
                  have hd2 : decide ((255 : Int) < ((ts k).size : Int)) = true := decide_eq_true (by omega)
                  clear hcell hc0 hbw hkK he h50 hxs
                  generalize hts : ts k = s at hc hd2 hs9
                  clear hts
                  go_wp2
                  go_meet
                  rw [HX.out] at HRk
                  exact ⟨⟨_, HRk.out⟩, HBk.out⟩
                · have hd : decide ((50 : Int) ≤ (k : Int)) = true := decide_eq_true (by omega)
                  clear hcell hc0 hbw hkK he h50 hk50 hxs
                  generalize hts : ts k = s at hc hs9
                  clear hts
                  go_wp2
                  go_meet
                  rw [HX.out] at HRk
                  exact ⟨⟨_, HRk.out⟩, HBk.out⟩
        case rest =>
          obtain ⟨⟨off7, hrd7⟩, hb7⟩ := hcut
          have HRD7 := Lib.hid hrd7
          have HB7 := Lib.hid hb7
          clear hrd7 hb7
          have E0 : Hid (endV [] false = 0) := rfl
          go_wp2_with (go_at_call 22; refine (end_any R L off7 [] false _ HRD7.out).mono ?_; rintro e w7 ⟨rfl, rfl⟩; rw [E0.out])
          go_ret
          exact ⟨rfl, HB7.out⟩

/-- The arguments, opened. -/
theorem open_nums {H : Type} {enc : TypeId × Value → H} {w : World} {v : Value} {d : DataW H} {ps : List MemPlace}
    (hval : Value.okWide Try.prog w .any 0 49 v) (h : DataW.Trod enc Try.prog w 0 (fun _ => true) true 49 v d ps) :
    ∃ (a : Option Addr) (len cap : Nat) (z : Nat → Nat), v = .slice a len cap ∧ IsNums w a len z := by
  obtain ⟨a0, len0, cap0, rfl⟩ := WideShapes.okWide_slice Try.underlying49 hval
  obtain ⟨fuel, hf⟩ := h
  rcases ChangeShapes.open_ints Try.underlying49 Try.underlying22 (by kernel_rfl) hf with ⟨hcs, _⟩ | ⟨x, l, c, zs, hcs, _, hl, hm, hz, _, hcell, hwz⟩
  · simp [Value.cells] at hcs
    obtain ⟨rfl, rfl, rfl⟩ := hcs
    exact ⟨none, 0, 0, fun _ => 0, rfl, by omega, Or.inl rfl⟩
  · simp [Value.cells] at hcs
    obtain ⟨rfl, rfl, rfl⟩ := hcs
    have hmc : zs.length = cap0 := by simpa using hz
    refine ⟨some x, len0, cap0, fun i => (zs.getD i 0).toNat, rfl, by unfold maxLen at hm; omega, ?_⟩
    by_cases h0 : len0 = 0
    · exact Or.inl h0
    · right
      obtain ⟨b, off, spot⟩ := x
      have hc := hcell 0 (by omega)
      have hspot : spot = none := by simpa [Addr.add] using World.cell?_spot hc
      subst hspot
      have hlt := World.block_lt_of_cell? w _ hc
      refine ⟨b, off, rfl, by simpa [Addr.add] using hlt, fun i hi => ?_⟩
      have h1 := hcell i (by omega)
      rw [addr_add] at h1
      have hb := bounds_u64 (hwz (zs.getD i 0) (by
        have : zs.getD i 0 = zs[i] := by simp [List.getD, show i < zs.length by omega]
        rw [this]; exact List.getElem_mem _))
      have e : (((zs.getD i 0).toNat : Nat) : Int) = zs.getD i 0 := Int.toNat_of_nonneg hb.1
      refine ⟨by rw [e]; exact h1, ?_⟩
      show (zs.getD i 0).toNat < 18446744073709551616
      omega
theorem open_texts {H : Type} {enc : TypeId × Value → H} {w : World} {v : Value} {d : DataW H} {ps : List MemPlace}
    (hval : Value.okWide Try.prog w .any 0 50 v) (h : DataW.Trod enc Try.prog w 0 (fun _ => true) true 50 v d ps) :
    ∃ (a : Option Addr) (len cap : Nat) (z : Nat → ByteArray), v = .slice a len cap ∧ IsTexts w a len z := by
  obtain ⟨a0, len0, cap0, rfl⟩ := WideShapes.okWide_slice Try.underlying50 hval
  obtain ⟨fuel, hf⟩ := h
  rcases ChangeShapes.open_strings Try.underlying50 Try.underlying9 (by kernel_rfl) hf with ⟨hcs, _⟩ | ⟨x, l, c, ss, hcs, _, hl, hm, hz, _, hcell, hws⟩
  · simp [Value.cells] at hcs
    obtain ⟨rfl, rfl, rfl⟩ := hcs
    exact ⟨none, 0, 0, fun _ => ByteArray.empty, rfl, by omega, Or.inl rfl⟩
  · simp [Value.cells] at hcs
    obtain ⟨rfl, rfl, rfl⟩ := hcs
    have hmc : ss.length = cap0 := by simpa using hz
    refine ⟨some x, len0, cap0, fun i => ss.getD i ByteArray.empty, rfl, by unfold maxLen at hm; omega, ?_⟩
    by_cases h0 : len0 = 0
    · exact Or.inl h0
    · right
      obtain ⟨b, off, spot⟩ := x
      have hc := hcell 0 (by omega)
      have hspot : spot = none := by simpa [Addr.add] using World.cell?_spot hc
      subst hspot
      have hlt := World.block_lt_of_cell? w _ hc
      refine ⟨b, off, rfl, by simpa [Addr.add] using hlt, fun i hi => ?_⟩
      have h1 := hcell i (by omega)
      rw [addr_add] at h1
      refine ⟨h1, ?_⟩
      have := hws (ss.getD i ByteArray.empty) (by
        have : ss.getD i ByteArray.empty = ss[i] := by simp [List.getD, show i < ss.length by omega]
        rw [this]; exact List.getElem_mem _)
      unfold maxLen at this
      exact this
end Go.Proofs.Ytdonackpbcflhaa
