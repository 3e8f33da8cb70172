/- The layer extent: ExtentAll. -/
import Derived.Test.YtidifimhgnjomaaHh
namespace Go.Proofs.Ytidifimhgnjomaa
set_option linter.unusedVariables false
set_option linter.unusedSimpArgs false
open Go.ChangeShapes Go.WideShapes Go.ChangeAt Go.RowKit

/-- A slice of ints that came in. -/
theorem open_order {H : Type} {enc : TypeId × Value → H} {w : World} {v : Value} {d : DataW H} {ps : List MemPlace}
    (hval : Value.okWide Try.prog w .any 0 22 v) (h : DataW.Trod enc Try.prog w 0 (fun _ => true) true 22 v d ps) :
    ∃ (a : Option Addr) (len cap : Nat) (z : Nat × Nat × (Nat → Int)), v = .slice a len cap ∧ (InAt w z.1 z.2.1 a len cap z.2.2 ∧ ∀ i, i < len → -9223372036854775808 ≤ z.2.2 i ∧ z.2.2 i ≤ 9223372036854775807) := by
  obtain ⟨a0, len0, cap0, rfl⟩ := WideShapes.okWide_slice Try.underlying22 hval
  obtain ⟨fuel, hf⟩ := h
  rcases ChangeShapes.open_ints Try.underlying22 Try.underlying3 (by kernel_rfl) hf with ⟨hcs, _⟩ | ⟨x, l, c, zs, hcs, _, hl, hm, hz, _, hcell, hwz⟩
  · simp [Value.cells] at hcs
    obtain ⟨rfl, rfl, rfl⟩ := hcs
    exact ⟨none, 0, 0, (0, 0, fun _ => 0), rfl, ⟨Nat.le_refl _, by omega, fun h => absurd h (Nat.lt_irrefl _)⟩, fun i hi => absurd hi (Nat.not_lt_zero _)⟩
  · simp [Value.cells] at hcs
    obtain ⟨rfl, rfl, rfl⟩ := hcs
    have hmc : zs.length = cap0 := by simpa using hz
    obtain ⟨b, off, spot⟩ := x
    refine ⟨some ⟨b, off, spot⟩, len0, cap0, (b, off, fun i => zs.getD i 0), rfl, ⟨hl, by unfold maxLen at hm; exact hm, fun h0 => ?_⟩, fun i hi => ?_⟩
    · have hc := hcell 0 (by omega)
      have hspot : spot = none := by simpa [Addr.add] using World.cell?_spot hc
      subst hspot
      refine ⟨rfl, fun i hi => ?_⟩
      have h1 := hcell i (by omega)
      rw [add_at] at h1
      exact h1
    · exact bounds_i64 (hwz (zs.getD i 0) (by
        have : zs.getD i 0 = zs[i]'(by omega) := by simp [List.getD, show i < zs.length by omega]
        rw [this]; exact List.getElem_mem _))

theorem infoSeen40 : (Try.prog.info? 25).map (fun i => (i.zero, i.size, i.bytes)) = some (some (.agg (Array.replicate 40 (.bool false))), 40, 40) := by kernel_rfl
theorem zeroSeen40 (w : World) : (zeroValue 25).run Try.prog w = .ok (.agg (Array.replicate 40 (.bool false))) w := by
  obtain ⟨i0, hi, hz0, hz1, hz2⟩ := info_parts infoSeen40
  simp [zeroValue, typeInfo, hi, hz0]

/-- The ints of a list of blocks. -/
def ofN (l : List Nat) : List Int := l.map fun (k : Nat) => (k : Int)

theorem one_cell (x : Value) : ∀ i, i < 1 → (#[x] : Array Value)[i]? = some x := fun i hi => by
  obtain rfl : i = 0 := by omega
  rfl
/-- A number turned to unsigned, and cut to less than m. -/
theorem uconv (x : Int) (m : Nat) (h0 : 0 < m) (h1 : m ≤ 1000) : ∃ k : Nat, k < m ∧ wrap64 ((IntKind.u64.wrap x).tmod m) = (k : Int) := by
  have e : IntKind.u64.wrap x = x % 18446744073709551616 := rfl
  have hx := Int.emod_nonneg x (show (18446744073709551616 : Int) ≠ 0 by decide)
  rw [e, Int.tmod_eq_emod_of_nonneg hx]
  have h2 := Int.emod_nonneg (x % 18446744073709551616) (show (m : Int) ≠ 0 by omega)
  have h3 := Int.emod_lt_of_pos (x % 18446744073709551616) (show (0 : Int) < m by omega)
  obtain ⟨k, hk⟩ := Int.eq_ofNat_of_zero_le h2
  rw [hk] at h3 ⊢
  exact ⟨k, by omega, by unfold wrap64; omega⟩
/-- Where the gathering of the blocks stands. -/
structure Gath (w w0 : World) (B4 B5 B8 : Nat) (sc : Bool) (base : Int) (l : List Nat) (v : Value) (wr : World) : Prop where
  row : IRow wr w0.heap.size v (ofN l)
  arr : ∃ sb : Nat → Bool, Arr wr B8 40 25 (fun s => .bool (sb s)) ∧ ∀ s, s < 40 → (sb s = true ↔ s ∈ l)
  c4 : Arr wr B4 1 3 (fun _ => .int .i64 base)
  c5 : Arr wr B5 1 4 (fun _ => .bool sc)
  bel : Below w.heap.size w wr
  low : ∀ s ∈ l, s < 40
  one : l.Nodup
  ne : B8 ≠ B4 ∧ B8 ≠ B5 ∧ w.heap.size ≤ B8 ∧ B8 < w0.heap.size ∧ B4 < w0.heap.size ∧ B5 < w0.heap.size ∧ w0.heap.size ≤ wr.heap.size

theorem ofN_len (l : List Nat) : (ofN l).length = l.length := by simp [ofN]
theorem few_below : ∀ (n : Nat) (l : List Nat), l.Nodup → (∀ s ∈ l, s < n) → l.length ≤ n
  | 0, [], _, _ => Nat.le_refl _
  | 0, s :: l, _, h => absurd (h s (by simp)) (Nat.not_lt_zero _)
  | n + 1, l, hn, h => by
    have ih := few_below n (l.erase n) (hn.erase n) fun s hs => by
      have h1 := (hn.mem_erase_iff).1 hs
      have h2 := h s h1.2
      have h3 := h1.1
      omega
    by_cases e : n ∈ l
    · rw [List.length_erase_of_mem e] at ih; omega
    · rw [List.erase_of_not_mem e] at ih; omega
theorem few_of {l : List Nat} (hl : ∀ s ∈ l, s < 40) (hn : l.Nodup) : l.length ≤ 40 := few_below 40 l hn hl
theorem Gath.row_set {w w0 : World} {B4 B5 B8 : Nat} {sc : Bool} {base : Int} {l : List Nat} {v : Value} {wr : World} (h : Gath w w0 B4 B5 B8 sc base l v wr) (k : Nat) : IRow (wr.setCell ⟨B8, k, none⟩ (.bool true)) w0.heap.size v (ofN l) :=
  ownsRow_setCell_below h.row (by exact h.ne.2.2.2.1) _
theorem Gath.add {w w0 : World} {B4 B5 B8 : Nat} {sc : Bool} {base : Int} {l : List Nat} {v v' : Value} {wr w' : World} (h : Gath w w0 B4 B5 B8 sc base l v wr) {k : Nat} (hk : k < 40) (hkl : k ∉ l) {o : Obj}
    (ho : w'.ownsRow w0.heap.size 3 1 v' ((ofN l).length + 1) ((ofN l).map (Value.int .i64) ++ [.int .i64 k])) (hg : ((wr.setCell ⟨B8, k, none⟩ (.bool true)).alloc o).grownBy w' v.ownBlock) : Gath w w0 B4 B5 B8 sc base (l ++ [k]) v' w' := by
  obtain ⟨n1, n2, n3, n4, n5, n6, n7⟩ := h.ne
  have hne : ∀ B, B < w0.heap.size → some B ≠ v.ownBlock := fun B hB e => by have := (h.row.lt B e.symm).1; omega
  have hal : Below (wr.setCell ⟨B8, k, none⟩ (.bool true)).heap.size (wr.setCell ⟨B8, k, none⟩ (.bool true)) ((wr.setCell ⟨B8, k, none⟩ (.bool true)).alloc o) := (Below.refl _ _).alloc (Nat.le_refl _) _
  obtain ⟨sb, hA, hs⟩ := h.arr
  have hw : Below w.heap.size w (wr.setCell ⟨B8, k, none⟩ (.bool true)) := h.bel.setCell (by exact n3) _
  refine ⟨?_, ⟨fun s => if s = k then true else sb s, ?_, fun s hs2 => ?_⟩, ((h.c4.far (by exact n1.symm) _).below hal).grown hg (hne B4 n5), ((h.c5.far (by exact n2.symm) _).below hal).grown hg (hne B5 n6), (hw.trans (hal.mono hw.size)).grown hg (Nat.le_trans hw.size hal.size) (fun q hq => by have := (h.row.lt q hq).1; omega), fun s hs2 => ?_, ?_, n1, n2, n3, n4, n5, n6, ?_⟩
  · have : ofN (l ++ [k]) = ofN l ++ [(k : Int)] := by simp [ofN]
    rw [this]
    exact IRow.app ho
  · have e : (fun s => Value.bool (if s = k then true else sb s)) = (fun s => if s = k then Value.bool true else Value.bool (sb s)) := by funext s; split <;> rfl
    rw [e]
    exact ((hA.set k hk (.bool true)).below hal).grown hg (hne B8 n4)
  · by_cases e : s = k
    · subst e; simp
    · simp [e, hs s hs2]
  · rcases List.mem_append.1 hs2 with h1 | h1
    · exact h.low s h1
    · simp at h1; omega
  · rw [List.nodup_append]
    refine ⟨h.one, by simp, fun x hx y hy => ?_⟩
    simp at hy
    rintro rfl
    rw [hy] at hx
    exact hkl hx
  · have := hal.size
    have h2 := hg.size
    have : (wr.setCell ⟨B8, k, none⟩ (.bool true)).heap.size = wr.heap.size := by simp
    omega

structure Gath2 (w w0 : World) (B4 B5 B8 : Nat) (sc : Bool) (base : Int) (sb : Nat → Bool) (l : List Nat) (v : Value) (wr : World) : Prop where
  row : IRow wr w0.heap.size v (ofN l)
  arr : Arr wr B8 40 25 (fun s => .bool (sb s))
  c4 : Arr wr B4 1 3 (fun _ => .int .i64 base)
  c5 : Arr wr B5 1 4 (fun _ => .bool sc)
  bel : Below w.heap.size w wr
  low : ∀ s ∈ l, s < 40
  one : l.Nodup
  ne : B8 < w0.heap.size ∧ B4 < w0.heap.size ∧ B5 < w0.heap.size ∧ w.heap.size ≤ w0.heap.size ∧ w0.heap.size ≤ wr.heap.size
theorem Gath2.add {w w0 : World} {B4 B5 B8 : Nat} {sc : Bool} {base : Int} {sb : Nat → Bool} {l : List Nat} {v v' : Value} {wr w' : World} (h : Gath2 w w0 B4 B5 B8 sc base sb l v wr) {k : Nat} (hk : k < 40) (hkl : k ∉ l) {o : Obj}
    (ho : w'.ownsRow w0.heap.size 3 1 v' ((ofN l).length + 1) ((ofN l).map (Value.int .i64) ++ [.int .i64 k])) (hg : (wr.alloc o).grownBy w' v.ownBlock) : Gath2 w w0 B4 B5 B8 sc base sb (l ++ [k]) v' w' := by
  obtain ⟨n4, n5, n6, n7, n8⟩ := h.ne
  have hne : ∀ B, B < w0.heap.size → some B ≠ v.ownBlock := fun B hB e => by have := (h.row.lt B e.symm).1; omega
  have hal : Below wr.heap.size wr (wr.alloc o) := (Below.refl _ _).alloc (Nat.le_refl _) _
  refine ⟨?_, (h.arr.below hal).grown hg (hne B8 n4), (h.c4.below hal).grown hg (hne B4 n5), (h.c5.below hal).grown hg (hne B5 n6), (h.bel.trans (hal.mono h.bel.size)).grown hg (Nat.le_trans h.bel.size hal.size) (fun q hq => by have := (h.row.lt q hq).1; omega), fun s hs2 => ?_, ?_, n4, n5, n6, n7, ?_⟩
  · have : ofN (l ++ [k]) = ofN l ++ [(k : Int)] := by simp [ofN]
    rw [this]
    exact IRow.app ho
  · rcases List.mem_append.1 hs2 with h1 | h1
    · exact h.low s h1
    · simp at h1; omega
  · rw [List.nodup_append]
    refine ⟨h.one, by simp, fun x hx y hy => ?_⟩
    simp at hy
    rintro rfl
    rw [hy] at hx
    exact hkl hx
  · have := hal.size
    have h2 := hg.size
    omega

/-- Where the rest stands: the list is that of the homes g; the blocks, the base and the manner lie as they lay. -/
structure AllAt (w : World) (B4 B5 : Nat) (sc : Bool) (base : Int) (L6 : Nat) (a6 : Option Addr) (m c6 : Nat) (l : List Nat) (g : Nat → Int) (v : Value) (wr : World) : Prop where
  bel : Below w.heap.size w wr
  list : ExL wr v (bld g 40)
  blk : InAt wr L6 0 a6 m c6 (fun i => (ofN l).getD i 0)
  c4 : Arr wr B4 1 3 (fun _ => .int .i64 base)
  c5 : Arr wr B5 1 4 (fun _ => .bool sc)
theorem AllAt.below {w : World} {B4 B5 : Nat} {sc : Bool} {base : Int} {L6 : Nat} {a6 : Option Addr} {m c6 : Nat} {l : List Nat} {g : Nat → Int} {v : Value} {wr w' : World} (h : AllAt w B4 B5 sc base L6 a6 m c6 l g v wr) (hb : Below wr.heap.size wr w') : AllAt w B4 B5 sc base L6 a6 m c6 l g v w' :=
  ⟨h.bel.trans (hb.mono h.bel.size), h.list.below hb, h.blk.below hb, h.c4.below hb, h.c5.below hb⟩
theorem AllAt.list_ {w : World} {B4 B5 : Nat} {sc : Bool} {base : Int} {L6 : Nat} {a6 : Option Addr} {m c6 : Nat} {l : List Nat} {g g' : Nat → Int} {v v' : Value} {wr : World} (h : AllAt w B4 B5 sc base L6 a6 m c6 l g v wr) (hl : ExL wr v' (bld g' 40)) : AllAt w B4 B5 sc base L6 a6 m c6 l g' v' wr :=
  ⟨h.bel, hl, h.blk, h.c4, h.c5⟩
theorem ofN_at {l : List Nat} {i : Nat} (hi : i < l.length) : ∃ b, l[i]? = some b ∧ (ofN l).getD i 0 = (b : Int) := by
  refine ⟨l[i], List.getElem?_eq_getElem hi, ?_⟩
  rw [List.getD_eq_getElem?_getD]
  simp [ofN, hi]
theorem putHyp {h : Nat → Int} (hh : HomeFn h) {l : List Nat} {b : Nat} (hb : b < 40) (hn : b ∉ l) : ∀ s, s < 40 → gT h l s ≠ h b + 1 := by
  intro s hs e
  unfold gT at e
  by_cases hm : s ∈ l
  · rw [if_pos hm] at e
    have := hh.inj s b hs hb (by omega)
    rw [this] at hm; exact hn hm
  · rw [if_neg hm] at e
    have := hh.low b hb
    omega

theorem one_int (w : World) (x : Int) : InAt (w.alloc (.cells #[.int .i64 x] 3)) w.heap.size 0 (some ⟨w.heap.size, 0, none⟩) 1 1 (fun i => [x].getD i 0) := by
  refine ⟨Nat.le_refl _, by omega, fun _ => ⟨rfl, fun i hi => ?_⟩⟩
  obtain rfl : i = 0 := by omega
  exact cell_of_row _ _ 0 _ _ (0, 0) (heap_alloc_new w _)

set_option maxRecDepth 100000 in
set_option maxHeartbeats 1600000 in
/-- ExtentAll -/
theorem all_walk (a : Option Addr) (n c L off : Nat) (z : Nat → Int) (base0 : Int) (sc : Bool) (w : World) (h : InAt w L off a n c z) (h9 : ∀ i, i < n → -9223372036854775808 ≤ z i ∧ z i ≤ 9223372036854775807) (hb9 : -9223372036854775808 ≤ base0 ∧ base0 ≤ 9223372036854775807) :
    Calls Try.prog 3 #[.slice a n c, .int .i64 base0, .bool sc] w fun e w' => e = .returned (.bool true) ∧ Below w.heap.size w w' := by
  obtain ⟨i0, hi, hz0, hz1, hz2⟩ := info_parts infoInt
  have hn9 : n ≤ 9223372036854775807 := by have := h.1; have := h.2.1; omega
  have HB := Lib.hid h
  have H9 := Lib.hid h9
  clear h h9
  obtain ⟨Z, hZ⟩ : ∃ Z : Array Value, Hid (Z = Array.replicate 40 (.bool false)) := ⟨_, rfl⟩
  have hz : ∀ w, (zeroValue 25).run Try.prog w = .ok (.agg Z) w := fun w => by rw [hZ.out]; exact zeroSeen40 w
  have HB0 : Hid (Below w.heap.size w ((w.alloc (.cells #[.int .i64 base0] 3)).alloc (.cells #[.bool sc] 4))) := ((Below.refl _ _).alloc (Nat.le_refl _) _).alloc (by simp) _
  go_enter Try.func3, Try.ntmps3
  go_upto_region 3 with (go_at_call 6; refine (fixed_any _).mono ?_; rintro e w1 ⟨rfl, hb⟩; have HW1 := Lib.hid hb; clear hb)
  have hA4 : Arr w1 w.heap.size 1 3 (fun _ => .int .i64 base0) :=
    ((Arr.new w 1 3 #[.int .i64 base0] (fun _ => .int .i64 base0) rfl (one_cell _)).below ((Below.refl _ _).alloc (Nat.le_refl _) _)).below HW1.out
  have hA5 : Arr w1 (w.heap.size + 1) 1 4 (fun _ => .bool sc) := by
    have h := Arr.new (w.alloc (.cells #[.int .i64 base0] 3)) 1 4 #[.bool sc] (fun _ => .bool sc) rfl (one_cell _)
    have hs : (w.alloc (.cells #[.int .i64 base0] 3)).heap.size = w.heap.size + 1 := by simp
    rw [hs] at h
    exact h.below HW1.out
  have HBW : Hid (Below w.heap.size w w1) := HB0.out.trans (HW1.out.mono (by simp; omega))
  obtain ⟨B4, hB4⟩ : ∃ x, Hid (w.heap.size = x) := ⟨_, rfl⟩
  obtain ⟨B5, hB5⟩ : ∃ x, Hid (w.heap.size + 1 = x) := ⟨_, rfl⟩
  rw [hB5.out, hB4.out]
  rw [hB4.out] at hA4
  rw [hB5.out] at hA5
  have c4 := hA4.cell (i := 0) (by omega)
  have f4 := hA4.frozen 0
  have HA4 := Lib.hid hA4
  have HA5 := Lib.hid hA5
  clear hA4 hA5
  go_upto_region 4 with fail
  obtain ⟨base, hbase, eb⟩ := uconv base0 100 (by omega) (by omega)
  have hs4 := HA4.out.set 0 (by omega) (.int .i64 (base : Int))
  have HA4' : Hid (Arr (w1.setCell ⟨B4, 0, none⟩ (.int .i64 (base : Int))) B4 1 3 (fun _ => .int .i64 (base : Int))) := by
    obtain ⟨cs, h1, h2, h3⟩ := hs4
    refine ⟨cs, h1, h2, fun i hi => ?_⟩
    rw [h3 i hi]
    show some (if i = 0 then _ else _) = _
    rw [if_pos (by omega)]
  have HA5' : Hid (Arr (w1.setCell ⟨B4, 0, none⟩ (.int .i64 (base : Int))) B5 1 4 (fun _ => .bool sc)) := HA5.out.far (by have := hB4.out; have := hB5.out; show B5 ≠ B4; omega) _
  have HBW' : Hid (Below w.heap.size w (w1.setCell ⟨B4, 0, none⟩ (.int .i64 (base : Int)))) := HBW.out.setCell (by show w.heap.size ≤ B4; rw [hB4.out]; exact Nat.le_refl _) _
  rw [show ((100 : Nat) : Int) = 100 from rfl] at eb
  rw [eb]
  clear hs4 eb HA4 HA5 HBW c4 f4
  generalize (w1.setCell ⟨B4, 0, none⟩ (.int .i64 (base : Int))) = w2 at HA4' HA5' HBW' ⊢
  have HG0 : Hid (Gath w (w2.alloc (.cells Z 25)) B4 B5 w2.heap.size sc base [] (.slice none 0 0) (w2.alloc (.cells Z 25))) := by
    have hA := Arr.new w2 40 25 Z (fun _ => .bool false) (by rw [hZ.out]; simp) (fun i hi => by rw [hZ.out]; simp [hi])
    have hal : Below w2.heap.size w2 (w2.alloc (.cells Z 25)) := (Below.refl _ _).alloc (Nat.le_refl _) _
    have l4 := HA4'.out.lt
    have l5 := HA5'.out.lt
    have ls : (w2.alloc (.cells Z 25)).heap.size = w2.heap.size + 1 := by simp
    refine ⟨IRow.nil _ _, ⟨fun _ => false, hA, fun s hs => by simp⟩, HA4'.out.below hal, HA5'.out.below hal, HBW'.out.alloc HBW'.out.size _, (fun s hs => by cases hs), List.nodup_nil, by omega, by omega, HBW'.out.size, by omega, by omega, by omega, Nat.le_refl _⟩
  go_upto_block 0 with fail
  generalize (w2.alloc (.cells Z 25)) = w3 at HG0 ⊢
  obtain ⟨B8, hB8⟩ : ∃ x, Hid (w2.heap.size = x) := ⟨_, rfl⟩
  rw [hB8.out] at HG0 ⊢
  clear hz hZ HA4' HA5' HBW'
  go_cut [7] (fun v wx => ∃ l, Hid (Gath w w3 B4 B5 B8 sc base l v wx))
  case first =>
    go_wp2_with fail
    go_loopw [7, 35] (fun v i wr => ∃ k : Nat, k ≤ n ∧ i = .int .i64 k ∧ ∃ l, Hid (Gath w w3 B4 B5 B8 sc base l v wr)) (fun _ i _ => n - (intOf i).toNat)
    case atStart => exact ⟨0, Nat.zero_le _, rfl, _, HG0.out⟩
    case round =>
      obtain ⟨k, hk, rfl, l, hg⟩ := hrel
      by_cases hlt : k < n
      · have HBr := Lib.hid (HB.out.below hg.out.bel)
        obtain ⟨ha, hcell⟩ := HBr.out.2.2 (by omega)
        subst ha
        have c0 := hcell k hlt
        clear hcell
        obtain ⟨x, hx⟩ : ∃ x, Hid (z k = x) := ⟨_, rfl⟩
        rw [hx.out] at c0
        obtain ⟨q, hq40, eq⟩ := uconv x 40 (by omega) (by omega)
        rw [show ((40 : Nat) : Int) = 40 from rfl] at eq
        obtain ⟨sb, hA, hs⟩ := hg.out.arr
        have c1 := hA.cell hq40
        have f1 := hA.frozen q
        have HS := Lib.hid (hs q hq40)
        clear hs hA
        go_upto_region 10 with fail
        rw [eq]
        clear eq
        cases hsb : sb q
        · rw [hsb] at c1
          have HQ : Hid (q ∉ l) := fun hm => by have := HS.out.2 hm; rw [hsb] at this; cases this
          have HF := Lib.hid (few_of hg.out.low hg.out.one)
          clear hsb
          go_wp2_with (at_builtin; refine wpList_append_own _ rfl (.tmp 49) (.tmp 51) 22 rfl w3.heap.size 3 i0 (.int .i64 0) 1 8 Try.underlying22 hi hz0 hz1 hz2 rfl (by decide) _ _ _ rfl ((hg.out.row_set q).alloc _) ⟨wr.heap.size, 0, none⟩ 1 1 [.int .i64 (q : Int)] rfl rfl ?c2 (ints_oneCell .i64 [(q : Int)]) ?c3 ?c4 ?c5 ?_)
          case c2 =>
            have hsz : (wr.setCell ⟨B8, q, none⟩ (.bool true)).heap.size = wr.heap.size := by simp
            intro j u hu
            rw [← hsz]
            exact cell_one_new _ _ _ j u hu
          case c3 => have := HF.out; rw [ofN_len]; unfold maxLen; omega
          case c4 => have := HF.out; rw [ofN_len]; omega
          case c5 => have := hg.out.ne.2.2.2.2.2.2; simp; omega
          intro v3 w5 hown3 hgrow3 _
          have HG5 := Lib.hid (hg.out.add hq40 HQ.out hown3 hgrow3)
          clear hown3 hgrow3 c1 f1
          go_wp2
          go_roundw
          case rel => exact ⟨k + 1, by omega, by go_num, _, HG5⟩
          case measure => simp [intOf]; omega
        · rw [hsb] at c1
          clear hsb
          go_wp2
          go_roundw
          case rel => exact ⟨k + 1, by omega, by go_num, l, hg⟩
          case measure => simp [intOf]; omega
      · go_wp2
        go_meet
        exact ⟨l, hg⟩
  case rest =>
    obtain ⟨l, hg⟩ := hcut
    have HG := Lib.hid hg.out
    clear hg
    go_upto_block 2 with fail
    obtain ⟨sb, hA, hs⟩ := HG.out.arr
    have HG' : Hid (Gath2 w w3 B4 B5 B8 sc base sb l u7 wc) := ⟨HG.out.row, hA, HG.out.c4, HG.out.c5, HG.out.bel, HG.out.low, HG.out.one, HG.out.ne.2.2.2.1, HG.out.ne.2.2.2.2.1, HG.out.ne.2.2.2.2.2.1, by have := HG.out.ne; omega, HG.out.ne.2.2.2.2.2.2⟩
    have HS0 := Lib.hid hs
    clear hA hs
    go_cut [7] (fun v wx => ∃ l, Hid (Blocks l) ∧ Hid (Gath2 w w3 B4 B5 B8 sc base sb l v wx))
    case first =>
      go_wp2_with fail
      go_loopw [7, 54] (fun v i wr => ∃ k : Nat, k ≤ 40 ∧ i = .int .i64 k ∧ ∃ l, Hid (Gath2 w w3 B4 B5 B8 sc base sb l v wr) ∧ Hid (∀ s, s < k → s ∈ l) ∧ Hid (∀ s, k ≤ s → s < 40 → (sb s = true ↔ s ∈ l))) (fun _ i _ => 40 - (intOf i).toNat)
      case atStart => exact ⟨0, Nat.zero_le _, rfl, _, HG'.out, (fun s hs => by omega), fun s _ hs => HS0.out s hs⟩
      case round =>
        obtain ⟨k, hk, rfl, l, hg, hin, hs⟩ := hrel
        by_cases hlt : k < 40
        · have c1 := hg.out.arr.cell hlt
          have f1 := hg.out.arr.frozen k
          have HS := Lib.hid (hs.out k (Nat.le_refl _) hlt)
          cases hsb : sb k
          · rw [hsb] at c1
            have HQ : Hid (k ∉ l) := fun hm => by have := HS.out.2 hm; rw [hsb] at this; cases this
            have HF := Lib.hid (few_of hg.out.low hg.out.one)
            clear hsb
            go_wp2_with (at_builtin; refine wpList_append_own _ rfl (.tmp 61) (.tmp 63) 22 rfl w3.heap.size 3 i0 (.int .i64 0) 1 8 Try.underlying22 hi hz0 hz1 hz2 rfl (by decide) _ _ _ rfl (hg.out.row.alloc _) ⟨wr.heap.size, 0, none⟩ 1 1 [.int .i64 (k : Int)] rfl rfl (cell_one_new _ _ _) (ints_oneCell .i64 [(k : Int)]) ?c3 ?c4 ?c5 ?_)
            case c3 => have := HF.out; rw [ofN_len]; unfold maxLen; omega
            case c4 => have := HF.out; rw [ofN_len]; omega
            case c5 => have := hg.out.ne.2.2.2.2; simp; omega
            intro v3 w5 hown3 hgrow3 _
            have HG5 := Lib.hid (hg.out.add hlt HQ.out hown3 hgrow3)
            have HI5 : Hid (∀ s, s < k + 1 → s ∈ l ++ [k]) := fun s hs => by
              by_cases e : s = k
              · simp [e]
              · simp [hin.out s (by omega)]
            have HS5 : Hid (∀ s, k + 1 ≤ s → s < 40 → (sb s = true ↔ s ∈ l ++ [k])) := fun s h1 h2 => by
              rw [hs.out s (by omega) h2]
              have : s ≠ k := by omega
              simp [this]
            clear hown3 hgrow3 c1 f1
            go_wp2
            go_roundw
            case rel => exact ⟨k + 1, by omega, by go_num, _, HG5, HI5, HS5⟩
            case measure => simp [intOf]; omega
          · rw [hsb] at c1
            have HI5 : Hid (∀ s, s < k + 1 → s ∈ l) := fun s hs => by
              by_cases e : s = k
              · rw [e]; exact HS.out.1 hsb
              · exact hin.out s (by omega)
            clear hsb
            go_wp2
            go_roundw
            case rel => exact ⟨k + 1, by omega, by go_num, l, hg, HI5, fun s h1 h2 => hs.out s (by omega) h2⟩
            case measure => simp [intOf]; omega
        · obtain rfl : k = 40 := by omega
          have HBL : Hid (Blocks l) := ⟨hg.out.low, hg.out.one, hin.out⟩
          go_wp2
          go_meet
          exact ⟨l, HBL, hg⟩
    case rest =>
      obtain ⟨l2, hbl, hg2⟩ := hcut
      have HBL := Lib.hid hbl.out
      have HG2 := Lib.hid hg2.out
      clear hbl hg2
      obtain ⟨a6, c6, L6, hu, hin, _⟩ := HG2.out.row.inl
      rw [ofN_len] at hu hin
      subst hu
      obtain ⟨m, hm⟩ : ∃ m, Hid (l2.length = m) := ⟨_, rfl⟩
      rw [hm.out] at hin ⊢
      have hm40 : m ≤ 40 := by rw [← hm.out]; exact few_of HBL.out.low HBL.out.one
      have hb0 : (0 : Int) ≤ (base : Int) := by omega
      have hb1 : (base : Int) < 100 := by omega
      have HH := Lib.hid (homeV_fn sc hb0 hb1)
      obtain ⟨hv, hhv⟩ : ∃ hv : Nat → Int, Hid (hv = fun (s : Nat) => homeV sc (base : Int) (s : Int)) := ⟨_, rfl⟩
      rw [← hhv.out] at HH
      have HVs : Hid (∀ b : Nat, homeV sc (base : Int) (b : Int) = hv b) := fun b => by rw [hhv.out]
      have HA0 : Hid (AllAt w B4 B5 sc base L6 a6 m c6 l2 (gT hv (l2.take 0)) (.slice none 0 0) wc) :=
        ⟨HG2.out.bel, by rw [List.take_zero, gT_nil, bld_none]; exact ExL.nil _, hin, HG2.out.c4, HG2.out.c5⟩
      have hc6 := hin.1
      have hc7 := hin.2.1
      clear hin HG2
      go_upto_block 4 with fail
      go_cut [14] (fun v wx => Hid (AllAt w B4 B5 sc base L6 a6 m c6 l2 (gT hv l2) v wx))
      case first =>
        go_wp2_with fail
        go_loopw [14, 69] (fun v i wr => ∃ k : Nat, k ≤ m ∧ i = .int .i64 k ∧ Hid (AllAt w B4 B5 sc base L6 a6 m c6 l2 (gT hv (l2.take k)) v wr)) (fun _ i _ => m - (intOf i).toNat)
        case atStart => exact ⟨0, Nat.zero_le _, rfl, HA0.out⟩
        case round =>
          obtain ⟨k, hk, rfl, hd⟩ := hrel
          by_cases hlt : k < m
          · obtain ⟨ha, hcell⟩ := hd.out.blk.2.2 (by omega)
            subst ha
            have c0 := hcell k hlt
            obtain ⟨b, hlb, hob⟩ := ofN_at (l := l2) (i := k) (by rw [hm.out]; exact hlt)
            rw [Nat.zero_add] at c0
            have c1 : wr.cell? ⟨L6, k, none⟩ = some (.int .i64 (b : Int)) := by
              rw [c0]
              show some (Value.int .i64 ((ofN l2).getD k 0)) = _
              rw [hob]
            have hb40 : b < 40 := HBL.out.low b (List.mem_of_getElem? hlb)
            have hnb := not_before HBL.out.one hlb
            obtain ⟨a5, c5, L5, m5, F, H, N, rfl, hl, hbu⟩ := hd.out.list.built
            have HL := Lib.hid hl
            have HHo := gT_homes (h := hv) HH.out (l := l2.take k) (fun s hs => HBL.out.low s (List.mem_of_mem_take hs))
            have hpl := HH.out.low b hb40
            have hph := HH.out.high b hb40
            have HD := Lib.hid (hbu.put HHo hb40 hpl hph (gT_out hnb) (putHyp HH.out hb40 hnb))
            have HPT : Hid (putG (gT hv (l2.take k)) b (hv b) = gT hv (l2.take (k + 1))) := by show _ = _; rw [take_next hlb, gT_put]
            have HVb := Lib.hid (HVs.out b)
            obtain ⟨x, hx⟩ : ∃ x, Hid (hv b = x) := ⟨_, rfl⟩
            rw [hx.out] at HD HPT HVb hpl hph
            have HC4 := Lib.hid (hd.out.c4.cell (i := 0) (by omega))
            have HC5 := Lib.hid (hd.out.c5.cell (i := 0) (by omega))
            have hx9 : -9223372036854775808 ≤ x ∧ x ≤ 9223372036854775807 := by omega
            have hb9 : -9223372036854775808 ≤ (b : Int) ∧ (b : Int) ≤ 9223372036854775807 := by omega
            have hbi0 : (0 : Int) ≤ (b : Int) := by omega
            have hbi1 : (b : Int) < 40 := by omega
            clear hcell hob hnb hl hbu HHo hlb c0
            go_wp2_with (first
              | (go_at_call 7; refine (home_any7 B5 B4 sc (base : Int) (b : Int) _ HC5.out HC4.out hbi0 hbi1 hb0 hb1).mono ?_; rintro e w5 ⟨rfl, rfl⟩; rw [HVb.out])
              | (go_at_call 8; refine (put_any _ _ _ _ _ _ _ _ _ _ _ HL.out hb9 hx9).mono ?_; rintro e w6 ⟨v6, rfl, hv6, hb⟩; rw [HD.out] at hv6 ⊢; rw [HPT.out] at hv6; have HA6 := Lib.hid ((hd.out.below hb).list_ hv6); clear hb hv6))
            go_roundw
            case rel => exact ⟨k + 1, by omega, by go_num, HA6⟩
            case measure => simp [intOf]; omega
          · obtain rfl : k = m := by omega
            have HE : Hid (AllAt w B4 B5 sc base L6 a6 k c6 l2 (gT hv l2) u14 wr) := by
              have := hd.out
              rw [← hm.out, List.take_length] at this
              rw [hm.out] at this
              exact this
            go_wp2
            go_meet
            exact HE
      case rest =>
        have HA1 := Lib.hid hcut.out
        clear hcut HA0
        obtain ⟨a5, c5, L5, m5, F, H, N, rfl, hl, hbu⟩ := HA1.out.list.built
        have HBU := Lib.hid hbu
        have HL0 := Lib.hid hl
        have HHo := Lib.hid (gT_homes (h := hv) HH.out (l := l2) HBL.out.low)
        have hm5 : m5 = if sc = true then 40 else 1 := by
          have h1 : m5 = (bld (gT hv l2) 40).length := hbu.1
          have h2 := bld_all sc hb0 (l := l2) HBL.out.all
          rw [h1, hhv.out, h2]
        have HM5 := Lib.hid hm5
        clear hl hbu hm5
        go_upto_block 6 with fail
        go_cut [] (fun wx => Hid (AllAt w B4 B5 sc base L6 a6 m c6 l2 (gT hv l2) (.slice a5 m5 c5) wx ∧ ExAt wx L5 0 a5 m5 c5 F H N))
        case first =>
          go_wp2_with fail
          go_loopw [86] (fun i wr => ∃ k : Nat, k ≤ 40 ∧ i = .int .i64 k ∧ Hid (AllAt w B4 B5 sc base L6 a6 m c6 l2 (gT hv l2) (.slice a5 m5 c5) wr ∧ ExAt wr L5 0 a5 m5 c5 F H N)) (fun i _ => 40 - (intOf i).toNat)
          case atStart => exact ⟨0, Nat.zero_le _, rfl, HA1.out, HL0.out⟩
          case round =>
            obtain ⟨k, hk, rfl, hd⟩ := hrel
            by_cases hlt : k < 40
            · have hfi := HBU.out.find HHo.out hlt
              rw [gT_all (HBL.out.all k hlt)] at hfi
              have hpl := HH.out.low k hlt
              have hph := HH.out.high k hlt
              have HVb := Lib.hid (HVs.out k)
              obtain ⟨x, hx⟩ : ∃ x, Hid (hv k = x) := ⟨_, rfl⟩
              rw [hx.out] at hfi hpl hph HVb
              rw [if_neg (by omega), show x + 1 - 1 = x by omega] at hfi
              have HFI := Lib.hid hfi
              have hb9 : -9223372036854775808 ≤ (k : Int) ∧ (k : Int) ≤ 9223372036854775807 := by omega
              have hbi0 : (0 : Int) ≤ (k : Int) := by omega
              have hbi1 : (k : Int) < 40 := by omega
              clear hfi
              go_wp2_with (first
                | (go_at_call 9; refine (find_any _ _ _ _ _ _ _ _ _ _ hd.out.2 hb9).mono ?_; rintro e w5 ⟨rfl, hb⟩; rw [HFI.out]; have HD5 : Hid (AllAt w B4 B5 sc base L6 a6 m c6 l2 (gT hv l2) (.slice a5 m5 c5) w5 ∧ ExAt w5 L5 0 a5 m5 c5 F H N) := ⟨hd.out.1.below hb, hd.out.2.below hb⟩; have HC4 := Lib.hid (HD5.out.1.c4.cell (i := 0) (by omega)); have HC5 := Lib.hid (HD5.out.1.c5.cell (i := 0) (by omega)); clear hb)
                | (go_at_call 7; refine (home_any7 B5 B4 sc (base : Int) (k : Int) _ HC5.out HC4.out hbi0 hbi1 hb0 hb1).mono ?_; rintro e w6 ⟨rfl, rfl⟩; rw [HVb.out]))
              go_roundw
              case rel => exact ⟨k + 1, by omega, by go_num, HD5⟩
              case measure => simp [intOf]; omega
            · go_wp2
              go_meet
              exact hd
        case rest =>
          have HA2 := Lib.hid hcut.out
          clear hcut HA1 HL0
          go_upto_region 37 with fail
          go_cut [121] (fun v wx => v = .bool false ∧ Hid (AllAt w B4 B5 sc base L6 a6 m c6 l2 (gT hv l2) (.slice a5 m5 c5) wx))
          case first =>
            have HCH := Lib.hid (HBU.out.chk HHo.out)
            have HCN : Hid (cntE m5 F H N = 40) := by
              show _ = _
              rw [HBU.out.cnt HHo.out, cntG_all (fun s hs => by rw [gT_all (HBL.out.all s hs)]; have := HH.out.low s hs; omega)]
              rfl
            have hmm := @run_makeMap Try.prog
            have hm1 := map_one
            have hm2 := map_two
            cases sc
            · have e5 : m5 = 1 := HM5.out
              subst e5
              go_wp2_with (first
                | (go_at_call 10; refine (countE_any _ _ _ _ _ _ _ _ _ HA2.out.2).mono ?_; rintro e w5 ⟨rfl, hb⟩; rw [HCN.out]; have HA5 : Hid (AllAt w B4 B5 false base L6 a6 m c6 l2 (gT hv l2) (.slice a5 1 c5) w5 ∧ ExAt w5 L5 0 a5 1 c5 F H N) := ⟨HA2.out.1.below hb, HA2.out.2.below hb⟩; clear hb)
                | (go_at_call 11; refine (check_any _ _ _ _ _ _ _ _ _ HA5.out.2).mono ?_; rintro e w6 ⟨rfl, hb⟩; rw [HCH.out]; have HA6 := Lib.hid (HA5.out.1.below hb); have hlk := map_look w6 false; have hc5 := HA6.out.c5.cell (i := 0) (by omega); have hl5 := HA6.out.c5.lt; clear hb))
              go_meet
              exact ⟨rfl, HA6.out.below ((Below.refl _ _).alloc (Nat.le_refl _) _)⟩
            · have e5 : m5 = 40 := HM5.out
              subst e5
              go_wp2_with (first
                | (go_at_call 10; refine (countE_any _ _ _ _ _ _ _ _ _ HA2.out.2).mono ?_; rintro e w5 ⟨rfl, hb⟩; rw [HCN.out]; have HA5 : Hid (AllAt w B4 B5 true base L6 a6 m c6 l2 (gT hv l2) (.slice a5 40 c5) w5 ∧ ExAt w5 L5 0 a5 40 c5 F H N) := ⟨HA2.out.1.below hb, HA2.out.2.below hb⟩; clear hb)
                | (go_at_call 11; refine (check_any _ _ _ _ _ _ _ _ _ HA5.out.2).mono ?_; rintro e w6 ⟨rfl, hb⟩; rw [HCH.out]; have HA6 := Lib.hid (HA5.out.1.below hb); have hlk := map_look w6 true; have hc5 := HA6.out.c5.cell (i := 0) (by omega); have hl5 := HA6.out.c5.lt; clear hb))
              go_meet
              exact ⟨rfl, HA6.out.below ((Below.refl _ _).alloc (Nat.le_refl _) _)⟩
          case rest =>
            obtain ⟨rfl, hcc⟩ := hcut
            have HA3 : Hid (AllAt w B4 B5 sc base L6 a6 m c6 l2 (gT hv (l2.drop 0)) (.slice a5 m5 c5) wc) := by rw [List.drop_zero]; exact hcc.out
            clear hcc HA2 HBU
            go_wp2_with fail
            go_loopw [14, 124] (fun v i wr => ∃ k : Nat, k ≤ m ∧ i = .int .i64 k ∧ Hid (AllAt w B4 B5 sc base L6 a6 m c6 l2 (gT hv (l2.drop k)) v wr)) (fun _ i _ => m - (intOf i).toNat)
            case atStart => exact ⟨0, Nat.zero_le _, rfl, HA3.out⟩
            case round =>
              obtain ⟨k, hk, rfl, hd⟩ := hrel
              by_cases hlt : k < m
              · obtain ⟨ha, hcell⟩ := hd.out.blk.2.2 (by omega)
                subst ha
                have c0 := hcell k hlt
                obtain ⟨b, hlb, hob⟩ := ofN_at (l := l2) (i := k) (by rw [hm.out]; exact hlt)
                rw [Nat.zero_add] at c0
                have c1 : wr.cell? ⟨L6, k, none⟩ = some (.int .i64 (b : Int)) := by
                  rw [c0]
                  show some (Value.int .i64 ((ofN l2).getD k 0)) = _
                  rw [hob]
                have hb40 : b < 40 := HBL.out.low b (List.mem_of_getElem? hlb)
                have hnb := not_after HBL.out.one hlb
                obtain ⟨a7, c7, L7, m7, F7, H7, N7, rfl, hl, hbu⟩ := hd.out.list.built
                have HL := Lib.hid hl
                have HHd := gT_homes (h := hv) HH.out (l := l2.drop k) (fun s hs => HBL.out.low s (List.mem_of_mem_drop hs))
                have hpl := HH.out.low b hb40
                have hph := HH.out.high b hb40
                have hbi0 : (0 : Int) ≤ (b : Int) := by omega
                have hbi1 : (b : Int) < 40 := by omega
                have hbb : (b : Int) ≤ (b : Int) + 1 := by omega
                have hdd := hbu.drop HHd hbi0 hbb
                rw [drop_next hlb] at hdd
                rw [gT_drop hnb, gone_one hb40 (by rw [gT_all (by simp)]; omega), gT_all (by simp)] at hdd
                have HVb := Lib.hid (HVs.out b)
                obtain ⟨x, hx⟩ : ∃ x, Hid (hv b = x) := ⟨_, rfl⟩
                rw [hx.out] at HVb hpl hph
                rw [hx.out, show x + 1 - 1 = x by omega] at hdd
                have HD := Lib.hid hdd
                have hb9 : -9223372036854775808 ≤ (b : Int) ∧ (b : Int) ≤ 9223372036854775807 := by omega
                have hb9' : -9223372036854775808 ≤ (b : Int) + 1 ∧ (b : Int) + 1 ≤ 9223372036854775807 := by omega
                clear hcell hob hnb hl hbu HHd hlb c0 hdd hbb
                go_wp2_with (first
                  | (go_at_call 12; refine (drop_any _ _ _ _ _ _ _ _ _ _ _ HL.out hb9 hb9').mono ?_; rintro e w6 ⟨v6, u6', rfl, hv6, hu6, hb⟩; rw [HD.out] at hv6 hu6 ⊢; obtain ⟨a8, c8, L8, rfl, h8, _⟩ := hu6; have H8 := Lib.hid h8; have HA6 := Lib.hid ((hd.out.below hb).list_ hv6); have HC4 := Lib.hid (HA6.out.c4.cell (i := 0) (by omega)); have HC5 := Lib.hid (HA6.out.c5.cell (i := 0) (by omega)); have hcb := h8.1; have hcb2 := h8.2.1; clear hb hv6 h8)
                  | (go_at_call 7; refine (home_any7 B5 B4 sc (base : Int) (b : Int) _ HC5.out HC4.out hbi0 hbi1 hb0 hb1).mono ?_; rintro e w7 ⟨rfl, rfl⟩; rw [HVb.out])
                  | (go_at_call 13; refine (ints_any _ _ _ _ _ _ _ _ _ _ _ (H8.out.below ((Below.refl _ _).alloc (Nat.le_refl _) _)) (one_int w6 x)).mono ?_; rintro e w8 ⟨rfl, hb⟩; have HA8 := Lib.hid ((HA6.out.below ((Below.refl _ _).alloc (Nat.le_refl _) _)).below hb); clear hb))
                go_roundw
                case rel => exact ⟨k + 1, by omega, by go_num, HA8⟩
                case measure => simp [intOf]; omega
              · obtain rfl : k = m := by omega
                obtain ⟨a7, c7, L7, rfl, _⟩ := hd.out.list
                have hz7 : (bld (gT hv (List.drop k l2)) 40).length = 0 := by
                  rw [List.drop_eq_nil_of_le (by rw [hm.out]; exact Nat.le_refl _), gT_nil, bld_none]; rfl
                rw [hz7]
                have HBE := Lib.hid hd.out.bel
                clear hz7
                go_wp2
                go_ret
                exact ⟨rfl, HBE.out⟩

theorem all_frame (a : Option Addr) (n c : Nat) (z : Nat × Nat × (Nat → Int)) (base : Int) (sc : Bool) (w : World) (h : InAt w z.1 z.2.1 a n c z.2.2 ∧ ∀ i, i < n → -9223372036854775808 ≤ z.2.2 i ∧ z.2.2 i ≤ 9223372036854775807) (hb : (Lit.int .i64 base).wf = true) :
    Calls Try.prog 3 #[.slice a n c, .int .i64 base, .bool sc] w fun e w' => e = .returned (.bool true) ∧ Below w.heap.size w w' := all_walk a n c z.1 z.2.1 z.2.2 base sc w h.1 h.2 (bounds_i64 hb)
end Go.Proofs.Ytidifimhgnjomaa
