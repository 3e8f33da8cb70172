/- WireReads: the walk. -/
import Derived.Test.YtdonackpbcflhaaRd
import Derived.Deep.DeepCutAuto
import Derived.Deep.CutBlock
namespace Go.Proofs.Ytdonackpbcflhaa
set_option linter.unusedVariables false
set_option linter.unusedSimpArgs false
open Go.RowKit

/-- n cells at block M that may be written. -/
def RowW (w : World) (M n : Nat) : Prop := (∀ i, i < n → ∃ u, w.cell? ⟨M, i, none⟩ = some u) ∧ ∀ i, w.frozen? ⟨M, i, none⟩ = false
theorem RowW.set {w : World} {M n : Nat} (h : RowW w M n) (b i : Nat) (v : Value) : RowW (w.setCell ⟨b, i, none⟩ v) M n :=
  ⟨fun j hj => by obtain ⟨u, hu⟩ := h.1 j hj; exact cell?_setCell_some hu, fun j => by have := h.2 j; simpa using this⟩

theorem Rdr.lt' {w : World} {R L off : Nat} {xs : List Int} {sp : Bool} (h : Rdr w R L off xs sp) (hne : xs ≠ []) : L < w.heap.size := by
  obtain ⟨a, n, c, hh, hb⟩ := h
  exact hb.lt hne

/-- Where the law's own loops begin. -/
theorem start_half {w w1 w2 w3 w4 : World} {R L M LT n0 cm ct : Nat} {xs : List Int} (h1 : Below w.heap.size w w1) (hM : w.heap.size ≤ M) (hML : M < w1.heap.size) (hb1 : BtsAt w1 M 0 (.slice (some ⟨M, 0, none⟩) n0 cm) xs) (hf1 : ∀ i, w1.frozen? ⟨M, i, none⟩ = false)
    (hRB : w1.heap.size ≤ R) (hLB : w1.heap.size ≤ L) (hRD : Rdr w2 R L 0 xs false) (hFR : ∀ i, i < xs.length → w2.frozen? ⟨L, i, none⟩ = false) (h2 : Below w1.heap.size w1 w2) (h3 : Below w2.heap.size w2 w3) (h4 : Below w3.heap.size w3 w4)
    (hLT : w3.heap.size ≤ LT) (hb4 : BtsAt w4 LT 0 (.slice (some ⟨LT, 0, none⟩) n0 ct) xs) (hLB4 : LT < w4.heap.size) :
    Half w (w4.alloc (.cells #[.slice (some ⟨LT, 0, none⟩) n0 ct, .int .i64 0, .bool false] 39)) R L w4.heap.size LT 0 xs 0 false 0 false ∧
      RowW (w4.alloc (.cells #[.slice (some ⟨LT, 0, none⟩) n0 ct, .int .i64 0, .bool false] 39)) M n0 ∧ M ≠ R ∧ M ≠ w4.heap.size ∧ (xs ≠ [] → M ≠ L) ∧ (xs ≠ [] → M ≠ LT) := by
  have s1 := h1.size
  have s2 := h2.size
  have s3 := h3.size
  have s4 := h4.size
  have h5 : Below w4.heap.size w4 (w4.alloc (.cells #[.slice (some ⟨LT, 0, none⟩) n0 ct, .int .i64 0, .bool false] 39)) := (Below.refl _ _).alloc (Nat.le_refl _) _
  have b25 : Below w2.heap.size w2 (w4.alloc (.cells #[.slice (some ⟨LT, 0, none⟩) n0 ct, .int .i64 0, .bool false] 39)) := (h3.trans (h4.mono s3)).trans (h5.mono (by omega))
  have b15 := h2.trans (b25.mono s2)
  have hR2 := hRD.lt
  refine ⟨⟨h1.trans (b15.mono s1), hRD.below b25, ⟨⟨LT, 0, none⟩, n0, ct, heap_alloc_new w4 _, hb4.below h5, Nat.zero_le _⟩, Nat.zero_le _, by omega, by omega, fun _ => by omega, fun hne => ?_, hRD.sep, by omega, fun hne => ?_, fun hne => by omega, fun hne => ?_, fun i hi => ?_⟩, ⟨fun i hi => ?_, fun i => ?_⟩, by omega, by omega, fun _ => by omega, fun _ => by omega⟩
  · have := hRD.lt' hne; have := b25.size; omega
  · have := hRD.lt' hne; omega
  · have := hRD.lt' hne; omega
  · have hne : xs ≠ [] := by intro e; subst e; simp at hi
    rw [b25.frozen (p := ⟨L, i, none⟩) (hRD.lt' hne)]
    exact hFR i hi
  · have := (hb1.below b15).cells (by omega)
    have := this.2 i hi
    rw [Nat.zero_add] at this
    exact ⟨_, this⟩
  · rw [b15.frozen (p := ⟨M, i, none⟩) hML]
    exact hf1 i

/-- The next ask lies in a new block. -/
theorem Half.asked {w wr : World} {R L T LT o k1 k : Nat} {xs : List Int} {b1 b : Bool} (h : Half w wr R L T LT o xs k1 b1 k b) (x y : Int) (t : TypeId) :
    (wr.alloc (.cells #[.int .i64 x, .int .i64 y] t)).cell? ⟨wr.heap.size, 1, none⟩ = some (.int .i64 y) ∧ wr.heap.size < (wr.alloc (.cells #[.int .i64 x, .int .i64 y] t)).heap.size ∧ wr.heap.size ≠ R ∧ wr.heap.size ≠ T ∧
      Half w (wr.alloc (.cells #[.int .i64 x, .int .i64 y] t)) R L T LT o xs k1 b1 k b := by
  have h1 := h.rd.lt
  have h2 := h.rr.lt
  exact ⟨cell_of_row _ _ 1 _ _ (0, 0) (heap_alloc_new wr _), by simp, by omega, by omega, h.grown ((Below.refl _ _).alloc (Nat.le_refl _) _)⟩
theorem _root_.Go.World.grownBy.far1 {w w' : World} {X o q : Nat} {v : Value} (hg : w.grownBy w' (some q)) (hl : X < w.heap.size) (hne : X ≠ q) (hc : w.cell? ⟨X, o, none⟩ = some v) : w'.cell? ⟨X, o, none⟩ = some v := by
  rw [hg.cell_far ⟨X, o, none⟩ hl (fun e => hne (by simpa using e))]; exact hc

set_option maxRecDepth 100000 in
set_option maxHeartbeats 1600000 in
theorem reads_walk (a0 : Option Addr) (n0 c0 L0 o0 : Nat) (xs : List Int) (a1 : Option Addr) (n1 c1 : Nat) (kx ny : Nat → Int) (w : World)
    (hb : BtsAt w L0 o0 (.slice a0 n0 c0) xs) (hc : a0 = none → c0 = 0) (hlen : n0 ≤ 140737488351232) (hp : IsPairs w a1 n1 kx ny) :
    Calls Try.prog 4 #[.slice a0 n0 c0, .slice a1 n1 c1] w fun e w' => e = .returned (.bool true) ∧ Below w.heap.size w w' := by
  have HB := Lib.hid hb
  have HP := Lib.hid hp.2
  have hn1 := hp.1
  have HC := Lib.hid hc
  have hlx : n0 = xs.length := hb.len.1
  have HLX := Lib.hid hlx
  have HLEN' : Hid (n0 ≤ 140737488355328) := by show n0 ≤ _; omega
  have HLEN : Hid (xs.length ≤ 140737488355328) := by show xs.length ≤ _; omega
  obtain ⟨M, cm, w1, hr1, hm1, hb1, hf1, hw1, hmlt⟩ := copy_run w a0 n0 c0 L0 o0 xs hb hc (by omega)
  have HR1 := Lib.hid hr1
  have HM1 := Lib.hid hm1
  have HB1 := Lib.hid hb1
  have HF1 := Lib.hid hf1
  have HW1 := Lib.hid hw1
  have HML := Lib.hid hmlt
  clear hb hp hc hlx hr1 hm1 hb1 hf1 hw1 hmlt
  go_enter Try.func4, Try.ntmps4
  go_upto_region 2 with (at_builtin; refine wpList_append_run _ rfl _ _ _ _ rfl _ _ rfl rfl HR1.out ?_)
  go_upto_region 5 with (first
    | (go_at_call 12; refine (read_any _ _ _ M 0 xs _ HB1.out HLEN'.out).mono ?_; rintro e w2 ⟨R, L, rfl, hRB, hLB, hrd, hfr, hb2⟩; have HRB := Lib.hid hRB; have HLB := Lib.hid hLB; have HRD := Lib.hid hrd; have HFR := Lib.hid hfr; have HB2 := Lib.hid hb2; clear hRB hLB hrd hfr hb2)
    | (go_at_call 10; refine (fixed_any _).mono ?_; rintro e w3 ⟨rfl, hb3⟩; obtain ⟨LT, ct, w4, hr4, hlt4, hb4, hf4, hw4, hlb4⟩ := copy_run w3 a0 n0 c0 L0 o0 xs (HB.out.below ((HW1.out.trans (HB2.out.mono HW1.out.size)).trans (hb3.mono (Nat.le_trans HW1.out.size HB2.out.size)))) HC.out HLEN'.out; have HB3 := Lib.hid hb3; have HR4 := Lib.hid hr4; have HLT4 := Lib.hid hlt4; have HB4 := Lib.hid hb4; have HW4 := Lib.hid hw4; have HLB4 := Lib.hid hlb4; clear hb3 hr4 hlt4 hb4 hf4 hw4 hlb4)
    )
  go_upto_region 6 with (at_builtin; refine wpList_append_run _ rfl _ _ _ _ rfl _ _ rfl rfl HR4.out ?_)
  go_upto_block 0 with fail
  obtain ⟨hh, hm, d1, d2, d3, d4⟩ := start_half HW1.out HM1.out HML.out HB1.out HF1.out HRB.out HLB.out HRD.out HFR.out HB2.out HB3.out HW4.out HLT4.out HB4.out HLB4.out
  have HH := Lib.hid hh
  have HMW := Lib.hid hm
  have D1 := Lib.hid d1
  have D2 := Lib.hid d2
  have D3 := Lib.hid d3
  have D4 := Lib.hid d4
  clear hh hm d1 d2 d3 d4
  have DM := HM1
  have DX := HW1.out.trans (HB2.out.mono HW1.out.size)
  clear HR1 HR4 HB1 HF1 HML HRB HLB HRD HFR HB3 HLT4 HB4 HW4 HLB4 HB2 HM1 HC HB HLEN' DX HW1
  generalize (w4.alloc (.cells #[.slice (some ⟨LT, 0, none⟩) n0 ct, .int .i64 0, .bool false] 39)) = w5 at HH HMW ⊢
  generalize w4.heap.size = T at HH D2 ⊢
  clear w4
  go_cut [] (fun wx => Half w wx R L T LT 0 xs 0 false 0 false)
  case first =>
    go_wp2_with fail
    go_loopw [32] (fun i wr => ∃ j : Nat, j ≤ n0 ∧ i = .int .i64 j ∧ Hid (Half w wr R L T LT 0 xs 0 false 0 false ∧ RowW wr M n0)) (fun i _ => n0 - (intOf i).toNat)
    case atStart => exact ⟨0, Nat.zero_le _, rfl, HH.out, HMW.out⟩
    case round =>
      obtain ⟨j, hj, rfl, hr⟩ := hrel
      by_cases hlt : j < n0
      · obtain ⟨u, hu⟩ := hr.out.2.1 j hlt
        have hf := hr.out.2.2 j
        go_wp2
        go_roundw
        case rel => exact ⟨j + 1, by omega, by go_num, hr.out.1.other M j _ DM.out D1.out D2.out D3.out D4.out, hr.out.2.set M j _⟩
        case measure => simp [intOf]; omega
      · have hjn : j = n0 := by omega
        go_wp2
        go_meet
        exact hr.out.1
  case rest =>
    have HK := Lib.hid hcut
    clear hcut HH HMW D1 D2 D3 D4 DM
    go_upto_block 2 with fail
    go_cut [] (fun wx => ∃ k b, Half w wx R L T LT 0 xs k b k b)
    case first =>
      go_wp2_with fail
      go_loopw [41] (fun i wr => ∃ j : Nat, j ≤ n1 ∧ j ≤ 200 ∧ i = .int .i64 j ∧ Hid (∃ k b, Half w wr R L T LT 0 xs k b k b)) (fun i _ => n1 - (intOf i).toNat)
      case atStart => exact ⟨0, Nat.zero_le _, Nat.zero_le _, rfl, 0, false, HK.out⟩
      case round =>
        obtain ⟨j, hj, hj2, rfl, hr⟩ := hrel
        by_cases hlt : j < n1
        · obtain ⟨k, b, hk⟩ := hr.out
          have HD := Lib.hid hk
          clear hk
          rcases HP.out with h0 | ⟨ab, ao, rfl, habw, hcell⟩
          · omega
          obtain ⟨hc0, hc1, hkx, hny⟩ := hcell j hlt
          rw [← HD.out.bel.cell (p := ⟨ab, ao + j * 2, none⟩) habw] at hc0
          rw [← HD.out.bel.cell (p := ⟨ab, ao + j * 2 + 1, none⟩) habw] at hc1
          have HNY := Lib.hid hny
          have HKX := Lib.hid hkx
          clear hcell habw hny hkx
          generalize kx j = kind at hc0 HKX
          generalize ny j = nn at hc1 HNY
          by_cases h200 : j < 200
          · have hd : decide ((200 : Int) ≤ (j : Int)) = false := decide_eq_false (by omega)
            go_upto_block 4 with fail
            obtain ⟨hx1, hxl, hxR, hxT, hdx⟩ := HD.out.asked kind nn 41
            have HDX := Lib.hid hdx
            clear hdx hc0 hc1 HD hr hd
            generalize (wr.alloc (.cells #[.int .i64 kind, .int .i64 nn] 41)) = WX at HDX hx1 hxl ⊢
            generalize wr.heap.size = X at hx1 hxl hxR hxT ⊢
            clear wr
            have HDD : Hid (Half w WX.drew R L T LT 0 xs k b k b) := HDX.out.grown ((Below.refl _ _).drew)
            go_cut [] (fun wx => ∃ k b, Half w wx R L T LT 0 xs k b k b)
            case first =>
              by_cases e1 : kind = 1
              · subst e1
                go_wp2_with fail
                go_region_held3 (fun w' => w'.cell? ⟨X, 1, none⟩ = some (.int .i64 nn))
                  (first | go_keep | exact x6 | exact x7)
                  (first
                    | (go_at_call 13; refine (number_rd R L k (xs.drop k) b nn _ HDD.out.rd).mono ?_; rintro e w6 hs; have x6 := hs.2.2.1.far1 hxl hxR hx1; obtain ⟨rfl, h6⟩ := HDD.out.first hs; have H6 := Lib.hid h6; clear h6 hs)
                    | (go_at_call 14; refine (refNumber_rd T LT 0 xs k b nn _ H6.out.rr HLEN.out).mono ?_; rintro e w7 hs; have x7 := hs.2.2.far1 (World.block_lt_of_cell? w6 _ x6) hxT x6; obtain ⟨rfl, h7⟩ := H6.out.second hs; have H7 := Lib.hid h7; clear h7 hs))
                go_wp2
                go_meet
                exact ⟨_, _, H7.out⟩
              have k1 : (kind == 1) = false := beq_eq_false_iff_ne.2 e1
              by_cases e2 : kind = 2
              · subst e2
                clear k1 e1
                go_upto_region 21 with (go_at_call 15; refine (bytes_any R L k (xs.drop k) b nn _ HDX.out.rd).mono ?_; rintro e w6 ⟨a, l, hs, hbt⟩; have x6 := hs.2.2.1.far1 hxl hxR hx1; obtain ⟨rfl, h6⟩ := HDX.out.first hs; have H6 := Lib.hid h6; have HBT := Lib.hid hbt; clear h6 hs hbt)
                obtain ⟨S0, hS0⟩ : ∃ S0, Hid (strOfNums (gotT (xs.drop k) b nn) = S0) := ⟨_, rfl⟩
                have HS6 : Hid (Half w w6.drew R L T LT 0 xs (atR xs k b nn) (badT (xs.drop k) b nn) k b) := H6.out.grown ((Below.refl _ _).drew)
                have r6 : (convert 23 9 (.slice a l l)).run Try.prog w6 = .ok (.string S0) w6 := by rw [← hS0.out]; exact run_strB ⟨L, k, Nat.le_refl _, HBT.out⟩
                have r6d : (convert 23 9 (.slice a l l)).run Try.prog w6.drew = .ok (.string S0) w6.drew := by rw [← hS0.out]; exact run_strB ⟨L, k, Nat.le_refl _, HBT.out⟩
                have x6d : w6.drew.cell? ⟨X, 1, none⟩ = some (.int .i64 nn) := x6
                have hxl6 := World.block_lt_of_cell? w6 _ x6
                have HGE : Hid (gotT (xs.drop k) b nn ≠ [] → xs ≠ []) := fun hne e => hne (by subst e; unfold gotT; simp)
                go_cut [74] (fun v wx => v = .bool false ∧ Half w wx R L T LT 0 xs (atR xs k b nn) (badT (xs.drop k) b nn) (atR xs k b nn) (badT (xs.drop k) b nn) ∧ BtsAt wx L k (.slice a l l) (gotT (xs.drop k) b nn))
                case first =>
                  go_region_with (go_at_call 16; refine (refBytes_any T LT 0 xs k b nn _ HS6.out.rr HLEN.out).mono ?_; rintro e w7 ⟨a7, l7, c7, L7, hs, hb7, hL7, _⟩; have x7 := hs.2.2.far1 hxl6 hxT x6d; have hbt7 := HBT.out.grown (grown_then (grown_drew w6 1 (some T)) hs.2.2) (fun hne e => HS6.out.lt (HGE.out hne) (by simpa using e)); have r7 : (convert 23 9 (.slice a l l)).run Try.prog w7 = .ok (.string S0) w7 := (by rw [← hS0.out]; exact run_strB ⟨L, k, Nat.le_refl _, hbt7⟩); have q7 : (convert 23 9 (.slice a7 l7 c7)).run Try.prog w7 = .ok (.string S0) w7 := (by rw [← hS0.out]; exact run_strB ⟨L7, 0, Nat.le_refl _, hb7⟩); obtain ⟨rfl, h7⟩ := HS6.out.second hs; have H7 := Lib.hid h7; have HBT7 := Lib.hid hbt7; clear h7 hs hb7 hbt7 hL7)
                  all_goals
                    go_wp2
                    go_meet
                    exact ⟨by simp, H7.out, HBT7.out⟩
                case rest =>
                obtain ⟨rfl, h7, hbt7⟩ := hcut
                have H7 := Lib.hid h7
                have HBT7 := Lib.hid hbt7
                clear h7 hbt7
                have hkl : k + l = atR xs k b nn := by rw [HBT.out.len.1]; exact got_at HDX.out.le b nn
                have hle7 : atR xs k b nn ≤ xs.length := H7.out.le
                have HKL := Lib.hid hkl
                have HLE7 := Lib.hid hle7
                have HNE : Hid (0 < l → xs ≠ []) := fun h0 => HGE.out (by intro e; have := HBT.out.len.1; rw [e] at this; simp at this; omega)
                have HCL : Hid (∀ i, i < l → ∃ u, wc.cell? ⟨L, k + i, none⟩ = some u) := fun i hi => ⟨_, (HBT7.out.cells (by omega)).2 i hi⟩
                have hl9 := HBT.out.len.2
                clear hkl hle7 r6 r6d x6d hxl6 hS0 HS6 H6 HGE HBT x6 hx1 hxl HDX HDD
                go_wp2_with fail
                go_loopw [77] (fun i wr => ∃ m : Nat, m ≤ l ∧ i = .int .i64 m ∧ Hid (Half w wr R L T LT 0 xs (atR xs k b nn) (badT (xs.drop k) b nn) (atR xs k b nn) (badT (xs.drop k) b nn) ∧ ∀ i, i < l → ∃ u, wr.cell? ⟨L, k + i, none⟩ = some u)) (fun i _ => l - (intOf i).toNat)
                case atStart => exact ⟨0, Nat.zero_le _, rfl, H7.out, HCL.out⟩
                case round =>
                  obtain ⟨m, hm, rfl, hr⟩ := hrel
                  by_cases hml : m < l
                  · obtain rfl := (HBT7.out.cells (by omega)).1
                    obtain ⟨u, hu⟩ := hr.out.2 m hml
                    have hf := hr.out.1.fr (k + m) (by have := HKL.out; have := HLE7.out; omega)
                    go_wp2
                    go_roundw
                    case rel => exact ⟨m + 1, by omega, by go_num, hr.out.1.spent (k + m) _ (HNE.out (by omega)) (by have := HKL.out; omega), fun i hi => by obtain ⟨u, hu⟩ := hr.out.2 i hi; exact cell?_setCell_some hu⟩
                    case measure => simp [intOf]; omega
                  · go_wp2
                    go_meet
                    exact ⟨_, _, hr.out.1⟩
              have k2 : (kind == 2) = false := beq_eq_false_iff_ne.2 e2
              by_cases e3 : kind = 3
              · subst e3
                clear k1 k2 e1 e2
                go_upto_region 29 with fail
                go_region_held3 (fun w' => w'.cell? ⟨X, 1, none⟩ = some (.int .i64 nn))
                  (first | go_keep | exact x6 | exact x7)
                  (first
                    | (go_at_call 17; refine (textR_any R L k (xs.drop k) b nn _ HDD.out.rd HNY.out.2).mono ?_; rintro e w6 hs; have x6 := hs.2.2.1.far1 hxl hxR hx1; obtain ⟨rfl, h6⟩ := HDD.out.first hs; have H6 := Lib.hid h6; clear h6 hs)
                    | (go_at_call 18; refine (refTextR T LT 0 xs k b nn _ H6.out.rr HLEN.out HNY.out.2).mono ?_; rintro e w7 hs; have x7 := hs.2.2.far1 (World.block_lt_of_cell? w6 _ x6) hxT x6; obtain ⟨rfl, h7⟩ := H6.out.second hs; have H7 := Lib.hid h7; clear h7 hs))
                go_wp2
                go_meet
                exact ⟨_, _, H7.out⟩
              have k3 : (kind == 3) = false := beq_eq_false_iff_ne.2 e3
              by_cases e4 : kind = 4
              · subst e4
                clear k1 k2 k3 e1 e2 e3
                go_wp2_with (first
                    | (go_at_call 19; refine (zeros_any R L k (xs.drop k) b nn _ HDX.out.rd).mono ?_; rintro e w6 hs; have x6 := hs.2.2.1.far1 hxl hxR hx1; obtain ⟨rfl, h6⟩ := HDX.out.first hs; have H6 := Lib.hid h6; clear h6 hs)
                    | (go_at_call 20; refine (refZeros T LT 0 xs k b nn _ H6.out.rr HLEN.out).mono ?_; rintro e w7 hs; obtain ⟨rfl, h7⟩ := H6.out.second hs; have H7 := Lib.hid h7; clear h7 hs))
                go_meet
                exact ⟨_, _, H7.out⟩
              have k4 : (kind == 4) = false := beq_eq_false_iff_ne.2 e4
              by_cases e5 : kind = 5
              · subst e5
                clear k1 k2 k3 k4 e1 e2 e3 e4
                go_wp2_with (go_at_call 21; refine (spoil_any R L k (xs.drop k) b _ HDX.out.rd).mono ?_; rintro e w6 hs; obtain ⟨rfl, h6⟩ := HDX.out.first' HDX.out.le hs; obtain ⟨_, _, _, _, _, q2, _, qf, _⟩ := rr_parts h6.rr; have H6 := Lib.hid h6; clear h6 hs)
                go_meet
                exact ⟨_, _, (H6.out.second (r := .bool true) ⟨rfl, H6.out.rr.setBad true, grownBy_set w6 T 2 _⟩).2⟩
              have k5 : (kind == 5) = false := beq_eq_false_iff_ne.2 e5
              clear e1 e2 e3 e4 e5
              go_wp2
              go_meet
              exact ⟨_, _, HDX.out⟩
            case rest =>
              obtain ⟨k2, b2, hk2⟩ := hcut
              have HE := Lib.hid hk2
              clear hk2 HDX HDD hx1 hxl hxR hxT
              go_wp2_with (first
                | (go_at_call 22; refine (end_any R L k2 _ b2 _ HE.out.rd).mono ?_; rintro e w8 ⟨rfl, rfl⟩)
                | (go_at_call 23; refine (refEnd T LT 0 xs k2 b2 _ HE.out.rr).mono ?_; rintro e w8 ⟨rfl, mm, rfl⟩))
              go_roundw
              case rel => exact ⟨j + 1, by omega, by omega, by go_num, k2, b2, HE.out.grown (by exact ⟨rfl, rfl, rfl, Nat.le_refl _, fun _ _ => rfl⟩)⟩
              case measure => simp [intOf]; omega
          · have hd : decide ((200 : Int) ≤ (j : Int)) = true := decide_eq_true (by omega)
            have HJ : Hid (∃ k b, Half w (wr.alloc (.cells #[.int .i64 kind, .int .i64 nn] 41)) R L T LT 0 xs k b k b) := ⟨k, b, HD.out.grown ((Below.refl _ _).alloc (Nat.le_refl _) _)⟩
            clear h200
            go_wp2
            go_meet
            exact HJ.out
        · go_wp2
          go_meet
          exact hr.out
    case rest =>
      obtain ⟨k, b, hk⟩ := hcut
      have HF := Lib.hid hk
      clear hk
      go_wp2_with (first
        | (go_at_call 21; refine (spoil_nil _).mono ?_; rintro e w' ⟨rfl, rfl⟩)
        | (go_at_call 19; refine (zeros_nil 1 _).mono ?_; rintro e w' ⟨rfl, rfl⟩)
        | (go_at_call 22; refine (end_nil _).mono ?_; rintro e w' ⟨rfl, rfl⟩)
        | (go_at_call 13; refine (number_rd_nil 1 _).mono ?_; rintro e w' ⟨rfl, rfl⟩)
        | (go_at_call 15; refine (bytes_nil 1 _).mono ?_; rintro e w' ⟨rfl, rfl⟩)
        | (go_at_call 17; refine (textR_nil _).mono ?_; rintro e w' ⟨rfl, rfl⟩))
      go_ret
      exact ⟨rfl, HF.out.bel⟩

theorem open_asks {H : Type} {enc : TypeId × Value → H} {w : World} {v : Value} {d : DataW H} {ps : List MemPlace}
    (hval : Value.okWide Try.prog w .any 0 34 v) (h : DataW.Trod enc Try.prog w 0 (fun _ => true) true 34 v d ps) :
    ∃ (a : Option Addr) (len cap : Nat) (x y : Nat → Int), v = .slice a len cap ∧ IsPairs w a len x y :=
  open_pairs_of Try.underlying34 Try.underlying41 rfl rfl Try.underlying3 Try.underlying3 rfl rfl (by kernel_rfl) (by kernel_rfl) (by kernel_rfl) hval h
end Go.Proofs.Ytdonackpbcflhaa
