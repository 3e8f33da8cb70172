/- Walks of the laws of the layer inode: copied. -/
import Derived.Test.YtebnekpccdcnmaaKc
import Derived.Outline
namespace Go.Proofs.Ytebnekpccdcnmaa
set_option linter.unusedVariables false
set_option linter.unusedSimpArgs false
open Go.RowKit

theorem XaOwn.at {w0 w : World} {a : Option Addr} {l c i : Nat} {XN : Nat → ByteArray} {VA : Nat → Option Addr} {VN VC : Nat → Nat} {VB : Nat → List Int} (h : XaOwn w0 w (.slice a l c) i XN VA VN VC VB) :
    l = i ∧ ∃ L, w0.heap.size ≤ L ∧ XaAt w L 0 a i c XN VA VN VC := by
  have h' := h.row
  rcases h.row.2 with ⟨e, e0⟩ | ⟨g, cap, cur, e, hg, hh, hnc, hcm, _⟩
  · simp only [Value.slice.injEq] at e
    obtain ⟨rfl, rfl, rfl⟩ := e
    subst e0
    exact ⟨rfl, w0.heap.size, Nat.le_refl _, Nat.le_refl _, by omega, fun h => absurd h (Nat.lt_irrefl _)⟩
  · simp only [Value.slice.injEq] at e
    obtain ⟨rfl, rfl, rfl⟩ := e
    exact ⟨rfl, g, hg, (xa_of_own h').1⟩
theorem XaOwn.val {w0 w : World} {v : Value} {i : Nat} {XN : Nat → ByteArray} {VA : Nat → Option Addr} {VN VC : Nat → Nat} {VB : Nat → List Int} (h : XaOwn w0 w v i XN VA VN VC VB) (j : Nat) (hj : j < i) (hr : ∀ x ∈ VB j, 0 ≤ x ∧ x < 256) :
    ∃ VL VO, w0.heap.size ≤ VL ∧ BtsAt w VL VO (.slice (VA j) (VN j) (VC j)) (VB j) := by
  obtain ⟨L, off, h1, h2⟩ := Bts.of_own (h.vals j hj) hr
  exact ⟨L, off, h1, h2⟩

theorem infoIno : (Try.prog.info? 31).map (·.size) = some 11 := by kernel_rfl
theorem ExAt.grown {w w' : World} {R : Option Nat} {L off n c : Nat} {a : Option Addr} {F H N : Nat → Int} (h : ExAt w L off a n c F H N) (hb : w.grownBy w' R) (hR : 0 < n → some L ≠ R) : ExAt w' L off a n c F H N :=
  ⟨h.1, h.2.1, fun hn => ⟨(h.2.2 hn).1, fun i hi => by
    have hk : ∀ o, w'.cell? ⟨L, o, none⟩ = w.cell? ⟨L, o, none⟩ := fun o => World.cell?_of_block (w := w) (hb.block L (h.lt hn) (hR hn))
    rw [hk, hk, hk]
    exact (h.2.2 hn).2 i hi⟩⟩
theorem XaAt.grown {w w' : World} {R : Option Nat} {L off n c : Nat} {a : Option Addr} {N : Nat → ByteArray} {VA : Nat → Option Addr} {VN VC : Nat → Nat} (h : XaAt w L off a n c N VA VN VC) (hb : w.grownBy w' R) (hR : 0 < n → some L ≠ R) : XaAt w' L off a n c N VA VN VC :=
  ⟨h.1, h.2.1, fun hn => ⟨(h.2.2 hn).1, fun i hi => by
    have hk : ∀ o, w'.cell? ⟨L, o, none⟩ = w.cell? ⟨L, o, none⟩ := fun o => World.cell?_of_block (w := w) (hb.block L (h.lt hn) (hR hn))
    rw [hk, hk]
    exact (h.2.2 hn).2 i hi⟩⟩
theorem InoM.grown {w w' : World} {R : Option Nat} {B : Nat} {v : Value} {D : InoD} (h : InoM w B v D) (hb : w.grownBy w' R) (hR : ∀ k, R = some k → k < B) : InoM w' B v D := by
  obtain ⟨xa, ea, xc, ec, L, off, L', off', VA, VC, hv, he, hx, hvb, h1, h2⟩ := h
  have hne : ∀ k, B ≤ k → some k ≠ R := fun k hk e => by have := hR k e.symm; omega
  refine ⟨xa, ea, xc, ec, L, off, L', off', VA, VC, hv, he.grown hb (fun _ => hne _ h1), hx.grown hb (fun _ => hne _ h2), fun i hi => ?_, h1, h2⟩
  obtain ⟨VL, VO, h3, h4⟩ := hvb i hi
  exact ⟨VL, VO, h3, h4.grown hb (fun _ => hne _ h3)⟩
theorem grown_row {w : World} {g : Nat} {cs : Array Value} : w.grownBy (w.setRow g cs) (some g) :=
  ⟨rfl, rfl, rfl, by simp, fun k _ hk => setRow_other w g k cs (fun e => hk (by rw [e]))⟩
theorem own_mono {w : World} {B B' E size n : Nat} {v : Value} {xs : List Value} (h : w.ownsRow B E size v n xs) (hB : B' ≤ B) : w.ownsRow B' E size v n xs := by
  refine ⟨h.1, ?_⟩
  rcases h.2 with h0 | ⟨g, cap, cur, hv, hg, r⟩
  · exact Or.inl h0
  · exact Or.inr ⟨g, cap, cur, hv, by omega, r⟩

set_option maxRecDepth 100000 in
set_option maxHeartbeats 4000000 in
theorem copied_walk (k m u g l s : Int) (t0 t1 : Nat) (ln : ByteArray) (xa ea : Option Addr) (xn xc en ec L off L' off' : Nat) (F H N : Nat → Int) (XN : Nat → ByteArray) (VA : Nat → Option Addr) (VN VC : Nat → Nat) (VB : Nat → List Int) (w : World)
    (he : ExAt w L off ea en ec F H N) (hx : XaAt w L' off' xa xn xc XN VA VN VC) (hv : ∀ i, i < xn → ∃ VL VO, BtsAt w VL VO (.slice (VA i) (VN i) (VC i)) (VB i))
    (hec : ea = none → ec = 0) (hvc : ∀ i, i < xn → VA i = none → VC i = 0) (hxl : xn * 40 ≤ 140737488351232) (hel : en * 24 ≤ 140737488351232) (hvl : ∀ i, i < xn → VN i ≤ 140737488351232) :
    Calls Try.prog 10 #[(Ino.mk k m u g l s t0 t1 ln xa xn xc ea en ec).val] w fun e w' => ∃ v, e = .returned v ∧ InoM w' w.heap.size v ⟨k, m, u, g, l, s, t0, t1, ln, xn, en, F, H, N, XN, VB⟩ ∧ Below w.heap.size w w' := by
  unfold Ino.val
  dsimp only
  have hsf : ∀ (a : Addr) (n : Nat) (m : Mode) (w : World), (store a (.float .f64 n) m).run Try.prog w = stored Try.prog w a (.float .f64 n) m := fun a n m w => run_store Try.prog w a _ m rfl
  go_enter Try.func10, Try.ntmps10
  go_upto_region 3 with fail
  have hal : Below w.heap.size w (w.alloc (.cells #[.int .i64 k, .int .i64 m, .int .i64 u, .int .i64 g, .int .i64 l, .int .i64 s, .float .f64 t0, .float .f64 t1, .string ln, .slice xa xn xc, .slice ea en ec] 31)) := (Below.refl _ _).alloc (Nat.le_refl _) _
  have hal2 : Below w.heap.size w ((w.alloc (.cells #[.int .i64 k, .int .i64 m, .int .i64 u, .int .i64 g, .int .i64 l, .int .i64 s, .float .f64 t0, .float .f64 t1, .string ln, .slice xa xn xc, .slice ea en ec] 31)).alloc (.cells #[.int .i64 0, .int .i64 0, .int .i64 0, .int .i64 0, .int .i64 0, .int .i64 0, .float .f64 0, .float .f64 0, .string ⟨#[]⟩, .slice none 0 0, .slice none 0 0] 31)) := hal.alloc hal.size _
  have HI := Lib.hid ((InoAt.new w k m u g l s t0 t1 ln xa xn xc ea en ec).below ((Below.refl (w.alloc (.cells #[.int .i64 k, .int .i64 m, .int .i64 u, .int .i64 g, .int .i64 l, .int .i64 s, .float .f64 t0, .float .f64 t1, .string ln, .slice xa xn xc, .slice ea en ec] 31)).heap.size (w.alloc (.cells #[.int .i64 k, .int .i64 m, .int .i64 u, .int .i64 g, .int .i64 l, .int .i64 s, .float .f64 t0, .float .f64 t1, .string ln, .slice xa xn xc, .slice ea en ec] 31))).alloc (Nat.le_refl _) (.cells #[.int .i64 0, .int .i64 0, .int .i64 0, .int .i64 0, .int .i64 0, .int .i64 0, .float .f64 0, .float .f64 0, .string ⟨#[]⟩, .slice none 0 0, .slice none 0 0] 31)))
  have HR := Lib.hid (InoAt.new (w.alloc (.cells #[.int .i64 k, .int .i64 m, .int .i64 u, .int .i64 g, .int .i64 l, .int .i64 s, .float .f64 t0, .float .f64 t1, .string ln, .slice xa xn xc, .slice ea en ec] 31)) 0 0 0 0 0 0 0 0 ⟨#[]⟩ none 0 0 none 0 0)
  rw [show (w.alloc (.cells #[.int .i64 k, .int .i64 m, .int .i64 u, .int .i64 g, .int .i64 l, .int .i64 s, .float .f64 t0, .float .f64 t1, .string ln, .slice xa xn xc, .slice ea en ec] 31)).heap.size = w.heap.size + 1 by simp] at HR
  have HW := Lib.hid hal2
  have HE := Lib.hid (he.below hal2)
  have HX := Lib.hid (hx.below hal2)
  have HV : Hid (∀ i, i < xn → ∃ VL VO, BtsAt ((w.alloc (.cells #[.int .i64 k, .int .i64 m, .int .i64 u, .int .i64 g, .int .i64 l, .int .i64 s, .float .f64 t0, .float .f64 t1, .string ln, .slice xa xn xc, .slice ea en ec] 31)).alloc (.cells #[.int .i64 0, .int .i64 0, .int .i64 0, .int .i64 0, .int .i64 0, .int .i64 0, .float .f64 0, .float .f64 0, .string ⟨#[]⟩, .slice none 0 0, .slice none 0 0] 31)) VL VO (.slice (VA i) (VN i) (VC i)) (VB i)) := fun i hi => by obtain ⟨VL, VO, hb⟩ := hv i hi; exact ⟨VL, VO, hb.below hal2⟩
  have hxn9 : xn ≤ 9223372036854775807 := by have := hx.1; have := hx.2.1; omega
  have HEC := Lib.hid hec
  have HVC := Lib.hid hvc
  have HXL := Lib.hid hxl
  have HEL := Lib.hid hel
  have HVL := Lib.hid hvl
  clear he hx hv hec hvc hxl hel hvl hal hal2
  generalize ((w.alloc (.cells #[.int .i64 k, .int .i64 m, .int .i64 u, .int .i64 g, .int .i64 l, .int .i64 s, .float .f64 t0, .float .f64 t1, .string ln, .slice xa xn xc, .slice ea en ec] 31)).alloc (.cells #[.int .i64 0, .int .i64 0, .int .i64 0, .int .i64 0, .int .i64 0, .int .i64 0, .float .f64 0, .float .f64 0, .string ⟨#[]⟩, .slice none 0 0, .slice none 0 0] 31)) = w1 at HI HR HW HE HX HV ⊢
  obtain ⟨Y, hY⟩ : ∃ X, Hid (w.heap.size + 1 = X) := ⟨_, rfl⟩
  rw [hY.out] at HR ⊢
  obtain ⟨X, hX⟩ : ∃ X, Hid (w.heap.size = X) := ⟨_, rfl⟩
  rw [hX.out] at HI HW ⊢
  go_loopw [3, 9] (fun lv iv wr => ∃ i : Nat, ∃ a l' c VA' VC', i ≤ xn ∧ iv = .int .i64 i ∧ lv = .slice a l' c ∧ Hid (XaOwn w1 wr (.slice a l' c) i XN VA' VN VC' VB)) (fun _ iv _ => xn - (intOf iv).toNat)
  case atStart => exact ⟨0, none, 0, 0, fun _ => none, fun _ => 0, Nat.zero_le _, rfl, rfl, XaOwn.nil (Below.refl _ _) _ _ _ _ _⟩
  case round =>
    obtain ⟨i, a, l', c, VA', VC', hix, rfl, rfl, ho⟩ := hrel
    have HIr := Lib.hid (HI.out.below ho.out.low)
    by_cases hlt : i < xn
    · have HXr := Lib.hid (HX.out.below ho.out.low)
      obtain ⟨ha, hcell⟩ := HXr.out.2.2 (by omega)
      subst ha
      obtain ⟨d0, d1⟩ := hcell i hlt
      obtain ⟨VL, VO, hvb⟩ := HV.out i hlt
      have hvb := hvb.below ho.out.low
      have hlv : VN i = (VB i).length := hvb.len.1
      have hnil := HVC.out i hlt
      have hvl := HVL.out i hlt
      obtain ⟨p, hp⟩ : ∃ x, Hid (XN i = x) := ⟨_, rfl⟩
      obtain ⟨va, hva⟩ : ∃ x, Hid (VA i = x) := ⟨_, rfl⟩
      obtain ⟨vn, hvn⟩ : ∃ x, Hid (VN i = x) := ⟨_, rfl⟩
      obtain ⟨vc, hvc⟩ : ∃ x, Hid (VC i = x) := ⟨_, rfl⟩
      obtain ⟨vb, hvbb⟩ : ∃ x, Hid (VB i = x) := ⟨_, rfl⟩
      rw [hp.out] at d0
      rw [hva.out, hvn.out, hvc.out] at d1
      rw [hva.out, hvn.out, hvc.out, hvbb.out] at hvb
      rw [hvn.out, hvbb.out] at hlv
      rw [hva.out, hvc.out] at hnil
      rw [hvn.out] at hvl
      have HLV := Lib.hid hlv
      clear hcell hlv
      go_upto_region 5 with fail
      have hal : Below wr.heap.size wr (wr.alloc (.cells #[.string p, .slice va vn vc] 60)) := (Below.refl _ _).alloc (Nat.le_refl _) _
      have hvb := hvb.below hal
      have ho2 := ho.out.below hal
      have hbox : (wr.alloc (.cells #[.string p, .slice va vn vc] 60)).heap[wr.heap.size]? = some (.cells #[.string p, .slice va vn vc] 60 (0, 0)) := heap_alloc_new wr _
      generalize (wr.alloc (.cells #[.string p, .slice va vn vc] 60)) = W at hvb ho2 hbox ⊢
      obtain ⟨Q, hQ⟩ : ∃ X, Hid (wr.heap.size = X) := ⟨_, rfl⟩
      rw [hQ.out] at hbox ⊢
      have y0 : W.cell? ⟨Q, 0, none⟩ = some (.string p) := cell_of_row _ _ 0 _ _ (0, 0) hbox
      have y1 : W.cell? ⟨Q, 1, none⟩ = some (.slice va vn vc) := cell_of_row _ _ 1 _ _ (0, 0) hbox
      obtain ⟨gg, cap, w2, hr1, hg1, hown1, hb1⟩ := run_copied2 (W.drewN 1) VL VO va vn vc vb hvb hnil (by omega)
      have hb1' : Below W.heap.size W w2 := ⟨hb1.os, hb1.tape, hb1.output, hb1.size, hb1.block⟩
      obtain rfl : vn = vb.length := HLV.out
      obtain ⟨a3, l3, c3, w3, hr2, ho3, hk3⟩ := (ho2.below hb1').push p gg cap vb (own_mono hown1 ho2.low.size) hp.out hvn.out hvbb.out (by have := HXL.out; omega)
      have hbox2 := (hb1'.block Q (lt_of_block hbox)).trans hbox
      have k0 : w2.cell? ⟨Q, 0, none⟩ = some (.string p) := cell_of_row _ _ 0 _ _ (0, 0) hbox2
      have k1 : w2.cell? ⟨Q, 1, none⟩ = some (.slice va vb.length vc) := cell_of_row _ _ 1 _ _ (0, 0) hbox2
      have HRUN1 : Hid ((Builtin.append_ #[32, 32] 32 #[.slice (some ⟨W.heap.size, 0, none⟩) 0 0, .slice va vb.length vc]).run Try.prog ((W.alloc (.cells #[] 5)).drew) = .ok (.slice (some ⟨gg, 0, none⟩) vb.length cap) w2) := hr1
      have hbox3 : w3.heap[Q]? = some (.cells #[.string p, .slice va vb.length vc] 60 (0, 0)) := (hk3 Q (lt_of_block hbox2) (fun e => by have := (ho.out.row.lt Q e).2; have := hQ.out; omega)).trans hbox2
      have HRUN2 := Lib.hid hr2
      have HO3 := Lib.hid ho3
      have z0 : w3.cell? ⟨Q, 0, none⟩ = some (.string p)  := cell_of_row _ _ 0 _ _ (0, 0) hbox3
      have z1 : w3.cell? ⟨Q, 1, none⟩ = some (.slice va vb.length vc) := cell_of_row _ _ 1 _ _ (0, 0) hbox3
      clear hr1 hr2 ho3 hown1 hb1 hb1' hg1 ho2 hvb d0 d1 HXr hnil hvl hbox hbox2 hbox3 hk3
      go_region_held3 (fun w' => w'.cell? ⟨Q, 0, none⟩ = some (.string p) ∧ w'.cell? ⟨Q, 1, none⟩ = some (.slice va vb.length vc))
        (first | go_keep | exact ⟨k0, k1⟩ | exact ⟨z0, z1⟩) (first | (refine step_append_run (by rfl) _ _ _ _ (by rfl) _ _ (by rfl) (by rfl) HRUN1.out ?_) | (refine step_append_run (by rfl) _ _ _ _ (by rfl) _ _ (by rfl) (by rfl) HRUN2.out ?_))
      go_wp2
      go_roundw
      case rel => exact ⟨i + 1, a3, l3, c3, _, _, by omega, by go_num, rfl, HO3⟩
      case measure => simp [intOf]; omega
    · obtain rfl : i = xn := by omega
      have HB := Lib.hid ho.out.low
      have HEr := Lib.hid (HE.out.below ho.out.low)
      have HRr := Lib.hid (HR.out.below ho.out.low)
      obtain ⟨hlx, LX, hLX, hxa⟩ := ho.out.at
      have HXA := Lib.hid hxa
      have HLX := Lib.hid hLX
      have HVAL : Hid (∀ j, j < i → ∃ VL VO, w1.heap.size ≤ VL ∧ BtsAt wr VL VO (.slice (VA' j) (VN j) (VC' j)) (VB j)) := fun j hj => ho.out.val j hj (by obtain ⟨VL, VO, hb⟩ := HV.out j hj; exact hb.range)
      obtain rfl : l' = i := hlx
      obtain ⟨gg, cap, w2, hr1, hex, hg1, hb1⟩ := copy_exts wr ea en ec L off F H N HEr.out HEC.out HEL.out
      have HRUN := Lib.hid hr1
      have HEX := Lib.hid hex
      have HG1 := Lib.hid hg1
      have HB2 := Lib.hid (HB.out.trans (hb1.mono HB.out.size))
      have HI2 := Lib.hid (HIr.out.below hb1)
      have HR2 := Lib.hid (HRr.out.below hb1)
      have HXA2 := Lib.hid (HXA.out.below hb1)
      have HVAL2 : Hid (∀ j, j < l' → ∃ VL VO, w1.heap.size ≤ VL ∧ BtsAt w2 VL VO (.slice (VA' j) (VN j) (VC' j)) (VB j)) := fun j hj => by
        obtain ⟨VL, VO, h1, h2⟩ := HVAL.out j hj
        exact ⟨VL, VO, h1, h2.below hb1⟩
      obtain ⟨_, _, _, _, _, _, _, _, _, c9, c10⟩ := HIr.out.cells
      have k9 : w2.frozen? ⟨X, 9, none⟩ = false := frozen_of_row w2 X 9 _ _ HI2.out
      have k10 : w2.frozen? ⟨X, 10, none⟩ = false := frozen_of_row w2 X 10 _ _ HI2.out
      have pz : (wr.alloc (.cells #[] 25)).cell? ⟨X, 10, none⟩ = some (.slice ea en ec) := (HIr.out.below ((Below.refl _ _).alloc (Nat.le_refl _) _)).cells.2.2.2.2.2.2.2.2.2.2
      clear ho hLX hxa hr1 hex hg1 hb1 HV HXA HVAL
      obtain ⟨d0, d1, d2, d3, d4, d5, d6, d7, d8, d9, d10⟩ := HI2.out.cells
      go_upto_region 8 with (at_builtin; refine wpList_append_run _ rfl _ _ _ _ rfl _ _ rfl rfl HRUN.out ?_)
      have HI3 : Hid (InoAt ((w2.setCell ⟨X, 9, none⟩ (.slice a l' c)).setCell ⟨X, 10, none⟩ (.slice (some ⟨gg, 0, none⟩) en cap)) X k m u g l s t0 t1 ln a l' c (some ⟨gg, 0, none⟩) en cap) := heap_setCell_same _ X 10 _ _ _ (heap_setCell_same _ X 9 _ _ _ HI2.out)
      have hg3 : w2.grownBy ((w2.setCell ⟨X, 9, none⟩ (.slice a l' c)).setCell ⟨X, 10, none⟩ (.slice (some ⟨gg, 0, none⟩) en cap)) (some X) := grown_then (grownBy_set _ X 9 _) (grownBy_set _ X 10 _)
      have hXlt := lt_of_block HI.out
      have hYlt := lt_of_block HR.out
      have hYX : Y = X + 1 := by have := hX.out; have := hY.out; omega
      have hsz := HB.out.size
      have hM2 : InoM w2 w1.heap.size (Ino.mk k m u g l s t0 t1 ln a l' c (some ⟨gg, 0, none⟩) en cap).val ⟨k, m, u, g, l, s, t0, t1, ln, l', en, F, H, N, XN, VB⟩ :=
        ⟨_, _, _, _, gg, 0, LX, 0, VA', VC', rfl, HEX.out, by
          have hvn : ∀ i, i < l' → VN i = (VB i).length := fun i hi => by obtain ⟨_, _, _, hb⟩ := HVAL2.out i hi; exact hb.len.1
          exact ⟨HXA2.out.1, HXA2.out.2.1, fun hn => ⟨(HXA2.out.2.2 hn).1, fun i hi => by
            have := (HXA2.out.2.2 hn).2 i hi
            rw [hvn i hi] at this
            exact this⟩⟩, fun i hi => by
          obtain ⟨VL, VO, h1, h2⟩ := HVAL2.out i hi
          rw [h2.len.1] at h2
          exact ⟨VL, VO, h1, h2⟩, Nat.le_trans hsz HG1.out, HLX.out⟩
      have HM3 := Lib.hid (hM2.grown hg3 (fun k hk => by simp only [Option.some.injEq] at hk; omega))
      have HR3 : Hid (InoAt _ Y _ _ _ _ _ _ _ _ _ _ _ _ _ _ _) := (hg3.block Y (lt_of_block HR2.out) (by simp only [ne_eq, Option.some.injEq]; omega)).trans HR2.out
      have HB3 : Hid (Below X w ((w2.setCell ⟨X, 9, none⟩ (.slice a l' c)).setCell ⟨X, 10, none⟩ (.slice (some ⟨gg, 0, none⟩) en cap))) := ((HW.out.trans (HB2.out.mono (by omega))).setCell (Nat.le_refl _) _).setCell (Nat.le_refl _) _
      have HXY := Lib.hid hYX
      have HX1 := Lib.hid hYlt
      clear hg3 hM2 hYX hXlt hYlt hsz d0 d1 d2 d3 d4 d5 d6 d7 d8 d9 d10 c9 c10 pz k9 k10
      generalize ((w2.setCell ⟨X, 9, none⟩ (.slice a l' c)).setCell ⟨X, 10, none⟩ (.slice (some ⟨gg, 0, none⟩) en cap)) = w3 at HI3 HM3 HR3 HB3 ⊢
      obtain ⟨d0, d1, d2, d3, d4, d5, d6, d7, d8, d9, d10⟩ := HI3.out.cells
      have HSI := Lib.hid infoIno
      have HS1 : Hid (Array.all (#[.int .i64 k, .int .i64 m, .int .i64 u, .int .i64 g, .int .i64 l, .int .i64 s, .float .f64 t0, .float .f64 t1, .string ln, .slice a l' c, .slice (some ⟨gg, 0, none⟩) en cap] : Array Value) (·.oneCell') = true) := by show _ = _; rw [← Array.all_toList]; rfl
      have HRH : Hid (w3.heap[Y]? = some (.cells #[.int .i64 0, .int .i64 0, .int .i64 0, .int .i64 0, .int .i64 0, .int .i64 0, .float .f64 0, .float .f64 0, .string ⟨#[]⟩, .slice none 0 0, .slice none 0 0] 31 (0, 0))) := HR3.out
      go_wp2_with (refine wpList_store_row rfl 31 (.tmp 2) (.tmp 31) rfl Y #[.int .i64 k, .int .i64 m, .int .i64 u, .int .i64 g, .int .i64 l, .int .i64 s, .float .f64 t0, .float .f64 t1, .string ln, .slice a l' c, .slice (some ⟨gg, 0, none⟩) en cap] rfl rfl 31 _ HRH.out HSI.out rfl HS1.out ?_)
      refine bodyPost_ret (v := .agg #[.int .i64 k, .int .i64 m, .int .i64 u, .int .i64 g, .int .i64 l, .int .i64 s, .float .f64 t0, .float .f64 t1, .string ln, .slice a l' c, .slice (some ⟨gg, 0, none⟩) en cap]) (results_cell_row rfl _ _ Y 31 #[.int .i64 k, .int .i64 m, .int .i64 u, .int .i64 g, .int .i64 l, .int .i64 s, .float .f64 t0, .float .f64 t1, .string ln, .slice a l' c, .slice (some ⟨gg, 0, none⟩) en cap] (0, 0) _ rfl (setRow_heap w3 Y _ _ _ _ HR3.out) Try.underlying31 rfl HSI.out) rfl ?_
      refine ⟨_, rfl, (HM3.out.grown grown_row (fun k hk => by simp only [Option.some.injEq] at hk; have := HX1.out; omega)).mono HW.out.size, ?_⟩
      rw [hX.out]
      exact HB3.out.grown grown_row (by have := lt_of_block HR3.out; have := HXY.out; omega) (fun k hk => by simp only [Option.some.injEq] at hk; have := HXY.out; omega)
end Go.Proofs.Ytebnekpccdcnmaa
