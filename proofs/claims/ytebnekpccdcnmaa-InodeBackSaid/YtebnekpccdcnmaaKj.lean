/- Walks of the layer inode: Decode's parts: From, size, the closure. -/
import Derived.Test.YtebnekpccdcnmaaKi
import Derived.Outline
import Derived.Laws.ResultCell
namespace Go.Proofs.Ytebnekpccdcnmaa
set_option linter.unusedVariables false
set_option linter.unusedSimpArgs false
open Go.RowKit

theorem from_good (a : Nat) (w : World) (ha : Hid (formW a = a)) : Calls Try.prog 33 #[.int .u64 a] w fun e w' => e = .returned (.tuple #[.float .f64 a, .int .i64 0]) ∧ w = w' := by
  have hf := run_frombits
  have hq : (((formW a : Nat) : Int) != (a : Int)) = false := by rw [ha.out]; simp
  go_enter Try.func33, Try.ntmps33
  go_wp2_with (go_at_call 17; refine (bits_any _ _).mono ?_; rintro e w' ⟨rfl, rfl⟩)
  go_ret2
  exact ⟨rfl, rfl⟩
theorem from_bad (a : Nat) (w : World) (ha : Hid (formW a ≠ a)) : Calls Try.prog 33 #[.int .u64 a] w fun e w' => e = .returned (.tuple #[.float .f64 0, .int .i64 12]) ∧ w = w' := by
  have hf := run_frombits
  have hq : (((formW a : Nat) : Int) != (a : Int)) = true := by have := ha.out; rw [bne_iff_ne]; omega
  go_enter Try.func33, Try.ntmps33
  go_wp2_with (go_at_call 17; refine (bits_any _ _).mono ?_; rintro e w' ⟨rfl, rfl⟩)
  go_ret2
  exact ⟨rfl, rfl⟩
/-- size -/
theorem size_any (k m u g l s : Int) (t0 t1 : Nat) (ln : ByteArray) (xa ea : Option Addr) (xn xc en ec : Nat) (w : World) (hx : xn ≤ 1000) (he : en ≤ 1000) :
    Calls Try.prog 36 #[.agg #[.int .i64 k, .int .i64 m, .int .i64 u, .int .i64 g, .int .i64 l, .int .i64 s, .float .f64 t0, .float .f64 t1, .string ln, .slice xa xn xc, .slice ea en ec]] w fun e w' => e = .returned (.int .i64 (94 + (xn : Int) * 54 + 1 + 3 * (en : Int))) ∧ Below w.heap.size w w' := by
  go_enter Try.func36, Try.ntmps36
  go_wp2
  go_ret
  exact ⟨rfl, (Below.refl _ _).alloc (Nat.le_refl _) _⟩
/-- The closure: a number of the reader that the variable at V holds. -/
theorem num_clo (V R L off : Nat) (s : St) (n : Nat) (w : World) (h1 : 1 ≤ n) (h4 : n ≤ 4) (hb : s.bytes) (h : Rdr w R L off s.xs s.sp) (hV : w.heap[V]? = some (.cells #[.pointer (some ⟨R, 0, none⟩)] 66 (0, 0))) :
    Calls Try.prog 31 #[.int .i64 n, .pointer (some ⟨V, 0, none⟩)] w fun e w' => e = .returned (.int .i64 (nS s n)) ∧ ∃ off', Rdr w' R L off' (nT s n).xs (nT s n).sp ∧ w.grownBy w' (some R) ∧ w'.heap.size = w.heap.size := by
  have c0 : w.cell? ⟨V, 0, none⟩ = some (.pointer (some ⟨R, 0, none⟩)) := cell_of_one hV
  have HN : Hid (∀ (Q : Ending → World → Prop), (∀ w' off', Rdr w' R L off' (nT s n).xs (nT s n).sp → w.grownBy w' (some R) → w'.heap.size = w.heap.size → Q (.returned (.int .u64 (nS s n))) w') → Calls Try.prog 32 #[.pointer (some ⟨R, 0, none⟩), .int .i64 n] w Q) := fun Q hQ => (number_rd R L off s.xs s.sp n w h).mono fun e w' hn => by
    unfold Numbered at hn
    rw [badN_mid h1 (by omega)] at hn
    obtain ⟨rfl, h2, h3, h5⟩ := hn
    exact hQ w' _ h2 h3 h5
  obtain ⟨q, hq⟩ : ∃ q, Hid (nS s n = q) := ⟨_, rfl⟩
  have hbd := num_bd h1 (by omega) hb
  have hle : (256 : Int) ^ n ≤ 4294967296 := by
    match n, h1, h4 with
    | 1, _, _ | 2, _, _ | 3, _, _ | 4, _, _ => decide
  rw [hq.out] at hbd HN ⊢
  have hq2 : IntKind.i64.wrap q = q := IntWalk.i64_in _ (by omega)
  clear hbd hle h hV hb h1 h4
  go_enter Try.func31, Try.ntmps31
  go_wp2_with (go_at_call 32; refine HN.out _ (fun w' off' h2 h3 h4 => ?_); have H2 := Lib.hid h2; have H3 := Lib.hid h3; have H4 := Lib.hid h4; clear h2 h3 h4)
  go_ret
  exact ⟨rfl, off', H2.out, H3.out, H4.out⟩

theorem x_size {s : St} {m : Nat} (h1 : 1 ≤ m) : (xS s m).size ≤ m := by
  unfold xS textV
  rw [badX_mid h1]
  have hl : (gotT s.xs s.sp m).length ≤ m := by
    unfold gotT
    split
    · simp
    · rw [List.length_take]; omega
  split
  · exact Nat.zero_le _
  · rw [strOfNums_size, List.length_drop, List.length_take]; omega
/-- Two results: a struct out of a cell, a temporary. -/
theorem results_row_tmp {P : Program} {fn : Func} {p u : Tmp} {ty : TypeId} (h : fn.results = #[.cell p ty, .tmp u]) (tmps : Array Value) (w : World) (g : Nat) (t : TypeId) (cs : Array Value) (fr : Nat × Nat) (d : TypeDesc)
    (hp : tmps.getD p undef = .pointer (some ⟨g, 0, none⟩)) (hg : w.heap[g]? = some (.cells cs t fr))
    (hu : P.underlying ty = some d) (hd : (match d with | .struct _ | .array _ _ => true | _ => false) = true) (hi : (P.info? ty).map (·.size) = some cs.size) (v2 : Value) (h2 : tmps.getD u undef = v2) :
    (results fn tmps).run P w = .ok (.tuple #[.agg cs, v2]) w := by
  rw [results_cell_tmp h, hp, h2]
  simp [asAddr, run_loadVar_row w g t ty cs fr d hg hu hd hi, Result.andThen]
theorem ex_at {B : Nat} {w : World} {a : Option Addr} {n c : Nat} {F H N : Nat → Int} (h : w.ownsRow B 25 3 (.slice a n c) n (catV (exC F H N) n)) : ∃ L, B ≤ L ∧ ExAt w L 0 a n c F H N := by
  have h' := h
  rcases h.2 with ⟨e, e0⟩ | ⟨g, cap, cur, e, hg, hh, hnc, hcm, _⟩
  · simp only [Value.slice.injEq] at e
    obtain ⟨rfl, rfl, rfl⟩ := e
    exact ⟨B, Nat.le_refl _, Nat.le_refl _, by omega, fun h => absurd h (Nat.lt_irrefl _)⟩
  · simp only [Value.slice.injEq] at e
    obtain ⟨rfl, _, rfl⟩ := e
    exact ⟨g, hg, (ex_of_own h').1⟩
theorem xa_at {B : Nat} {w : World} {a : Option Addr} {n c : Nat} {XN : Nat → ByteArray} {VA : Nat → Option Addr} {VN VC : Nat → Nat} (h : w.ownsRow B 60 2 (.slice a n c) n (catV (xaC XN VA VN VC) n)) : ∃ L, B ≤ L ∧ XaAt w L 0 a n c XN VA VN VC := by
  have h' := h
  rcases h.2 with ⟨e, e0⟩ | ⟨g, cap, cur, e, hg, hh, hnc, hcm, _⟩
  · simp only [Value.slice.injEq] at e
    obtain ⟨rfl, rfl, rfl⟩ := e
    exact ⟨B, Nat.le_refl _, Nat.le_refl _, by omega, fun h => absurd h (Nat.lt_irrefl _)⟩
  · simp only [Value.slice.injEq] at e
    obtain ⟨rfl, _, rfl⟩ := e
    exact ⟨g, hg, (xa_of_own h').1⟩
/-- The block at L is a row of bytes. -/
def U8At (w : World) (L : Nat) : Prop := ∃ cs fr, w.heap[L]? = some (.cells cs 5 fr)
/-- Attributes gathered in a row, each value in a row of bytes. -/
structure XaRow (B : Nat) (w : World) (v : Value) (i : Nat) (XN : Nat → ByteArray) (VA : Nat → Option Addr) (VC : Nat → Nat) (VB : Nat → List Int) : Prop where
  isSlice : ∃ a c, v = .slice a i c
  row : w.ownsRow B 60 2 v i (catV (xaC XN VA (fun j => (VB j).length) VC) i)
  vals : ∀ j, j < i → ∃ VL, B ≤ VL ∧ U8At w VL ∧ BtsAt w VL 0 (.slice (VA j) (VB j).length (VC j)) (VB j)
structure ExRow (B : Nat) (w : World) (v : Value) (i : Nat) (F H N : Nat → Int) : Prop where
  isSlice : ∃ a c, v = .slice a i c
  row : w.ownsRow B 25 3 v i (catV (exC F H N) i)
theorem XaRow.nil (B : Nat) (w : World) (XN : Nat → ByteArray) (VA : Nat → Option Addr) (VC : Nat → Nat) (VB : Nat → List Int) : XaRow B w (.slice none 0 0) 0 XN VA VC VB :=
  ⟨⟨none, 0, rfl⟩, World.ownsRow_nil _ _ _ _, fun j hj => absurd hj (Nat.not_lt_zero _)⟩
theorem ExRow.nil (B : Nat) (w : World) (F H N : Nat → Int) : ExRow B w (.slice none 0 0) 0 F H N := ⟨⟨none, 0, rfl⟩, World.ownsRow_nil _ _ _ _⟩
/-- A block below B, or of another type. -/
def Aside (B : Nat) (w : World) (q : Option Nat) (t1 t2 : TypeId) : Prop := ∀ k, q = some k → k < B ∨ ∃ cs t fr, w.heap[k]? = some (.cells cs t fr) ∧ t ≠ t1 ∧ t ≠ t2
theorem own_aside {w w' : World} {B E size n : Nat} {v : Value} {xs : List Value} {q : Option Nat} {t2 : TypeId} (h : w.ownsRow B E size v n xs) (hg : w.grownBy w' q) (hq : Aside B w q E t2) : w'.ownsRow B E size v n xs := by
  refine h.kept hg ?_
  rcases h.2 with ⟨rfl, _⟩ | ⟨g, cap, cur, rfl, hB, hh, _⟩
  · exact Or.inl rfl
  · refine Or.inr fun e => ?_
    rcases hq g e.symm with h1 | ⟨cs, t, fr, h1, h2, _⟩
    · omega
    · rw [hh] at h1
      simp only [Option.some.injEq, Obj.cells.injEq] at h1
      exact h2 h1.2.1.symm
theorem aside_swap {B : Nat} {w : World} {q : Option Nat} {t1 t2 : TypeId} (h : Aside B w q t1 t2) : Aside B w q t2 t1 := fun k hk => by
  rcases h k hk with h | ⟨cs, t, fr, h1, h2, h3⟩
  · exact Or.inl h
  · exact Or.inr ⟨cs, t, fr, h1, h3, h2⟩
theorem U8At.lt {w : World} {L : Nat} (h : U8At w L) : L < w.heap.size := by
  obtain ⟨cs, fr, h⟩ := h
  exact lt_of_block h
theorem u8_aside {w w' : World} {B L : Nat} {q : Option Nat} {t1 : TypeId} (h : U8At w L) (hB : B ≤ L) (hg : w.grownBy w' q) (hq : Aside B w q t1 5) : U8At w' L ∧ some L ≠ q := by
  have hne : some L ≠ q := fun e => by
    rcases hq L e.symm with h1 | ⟨cs, t, fr, h1, _, h2⟩
    · omega
    · obtain ⟨cs', fr', h⟩ := h
      rw [h] at h1
      simp only [Option.some.injEq, Obj.cells.injEq] at h1
      exact h2 h1.2.1.symm
  refine ⟨?_, hne⟩
  have hl := h.lt
  obtain ⟨cs', fr', h⟩ := h
  exact ⟨cs', fr', (hg.block L hl hne).trans h⟩
theorem XaRow.aside {B : Nat} {w w' : World} {v : Value} {i : Nat} {XN : Nat → ByteArray} {VA : Nat → Option Addr} {VC : Nat → Nat} {VB : Nat → List Int} {q : Option Nat} (h : XaRow B w v i XN VA VC VB) (hg : w.grownBy w' q) (hq : Aside B w q 60 5) : XaRow B w' v i XN VA VC VB :=
  ⟨h.isSlice, own_aside h.row hg hq, fun j hj => by
    obtain ⟨VL, h1, h2, h3⟩ := h.vals j hj
    obtain ⟨h4, h5⟩ := u8_aside h2 h1 hg hq
    exact ⟨VL, h1, h4, h3.grown hg (fun _ => h5)⟩⟩
theorem ExRow.aside {B : Nat} {w w' : World} {v : Value} {i : Nat} {F H N : Nat → Int} {q : Option Nat} {t2 : TypeId} (h : ExRow B w v i F H N) (hg : w.grownBy w' q) (hq : Aside B w q 25 t2) : ExRow B w' v i F H N := ⟨h.isSlice, own_aside h.row hg hq⟩
theorem aside_none (B : Nat) (w : World) (t1 t2 : TypeId) : Aside B w none t1 t2 := fun k hk => by cases hk
theorem aside_low {B k : Nat} (w : World) (t1 t2 : TypeId) (h : k < B) : Aside B w (some k) t1 t2 := fun j hj => by injection hj with hj; exact Or.inl (by omega)
theorem aside_row {B B' E size n : Nat} {w : World} {v : Value} {xs : List Value} {t1 t2 : TypeId} (h : w.ownsRow B' E size v n xs) (h1 : E ≠ t1) (h2 : E ≠ t2) : Aside B w v.ownBlock t1 t2 := fun k hk => by
  rcases h.2 with ⟨rfl, _⟩ | ⟨g, cap, cur, rfl, hB, hh, _⟩
  · cases hk
  · injection hk with hk
    have hk : g = k := hk
    subst hk
    exact Or.inr ⟨cur, E, (0, 0), hh, h1, h2⟩
theorem XaRow.below {B : Nat} {w w' : World} {v : Value} {i : Nat} {XN : Nat → ByteArray} {VA : Nat → Option Addr} {VC : Nat → Nat} {VB : Nat → List Int} (h : XaRow B w v i XN VA VC VB) (hb : Below w.heap.size w w') : XaRow B w' v i XN VA VC VB := h.aside (row_grown hb none) (aside_none _ _ _ _)
theorem ExRow.below {B : Nat} {w w' : World} {v : Value} {i : Nat} {F H N : Nat → Int} (h : ExRow B w v i F H N) (hb : Below w.heap.size w w') : ExRow B w' v i F H N := h.aside (t2 := 5) (row_grown hb none) (aside_none _ _ _ _)
/-- x.Xattrs = append(x.Xattrs, a) -/
theorem XaRow.push {B : Nat} {w : World} {v : Value} {i : Nat} {XN : Nat → ByteArray} {VA : Nat → Option Addr} {VC : Nat → Nat} {VB : Nat → List Int} (h : XaRow B w v i XN VA VC VB) (hB : B ≤ w.heap.size) (nm : ByteArray) (va : Option Addr) (vc : Nat) (vb : List Int) (VL g : Nat)
    (hVL : B ≤ VL) (hu : U8At w VL) (hbt : BtsAt w VL 0 (.slice va vb.length vc) vb) (hnew : w.heap[g]? = some (.cells #[.string nm, .slice va vb.length vc] 60 (0, 0))) (hXN : XN i = nm) (hVB : VB i = vb) (hlen : (i + 1) * 40 ≤ 140737488355328) :
    ∃ a c w', (Builtin.append_ #[29, 29] 29 #[v, .slice (some ⟨g, 0, none⟩) 1 1]).run Try.prog w = .ok (.slice a (i + 1) c) w' ∧
      XaRow B w' (.slice a (i + 1) c) (i + 1) XN (upd VA i va) (upd VC i vc) VB ∧ w.grownBy w' v.ownBlock := by
  obtain ⟨i0, hi, hz0, hz1, hz2⟩ := info_parts infoXat
  obtain ⟨v', w', hr, ho', hg, hiff⟩ := run_append_own (P := Try.prog) _ B 29 29 60 i0 _ 2 40 Try.underlying29 hi hz0 hz1 hz2 rfl (by decide) v i _ h.row ⟨g, 0, none⟩ 1 1 [.string nm, .slice va vb.length vc] rfl (by
    intro j u hj
    rw [add_at, Nat.zero_add]
    match j, hj with
    | 0, hj => rw [← hj]; exact cell_of_row _ _ 0 _ _ (0, 0) hnew
    | 1, hj => rw [← hj]; exact cell_of_row _ _ 1 _ _ (0, 0) hnew
    | j + 2, hj => cases hj) (by intro u hu; simp at hu; rcases hu with rfl | rfl <;> rfl) (by unfold maxLen; omega) hlen hB
  have e1 : catV (xaC XN VA (fun j => (VB j).length) VC) i = catV (xaC XN (upd VA i va) (fun j => (VB j).length) (upd VC i vc)) i := catV_eq i fun j hj => by
    unfold xaC
    rw [upd_other _ _ _ (by omega), upd_other _ _ _ (by omega)]
  have e2 : [.string nm, .slice va vb.length vc] = xaC XN (upd VA i va) (fun j => (VB j).length) (upd VC i vc) i := by
    unfold xaC
    rw [upd_same, upd_same, hXN]
    show _ = [Value.string nm, .slice va (VB i).length vc]
    rw [hVB]
  rw [e1, e2] at ho'
  have ho2 : w'.ownsRow B 60 2 v' (i + 1) (catV (xaC XN (upd VA i va) (fun j => (VB j).length) (upd VC i vc)) (i + 1)) := ho'
  have hsl : ∃ a c, v' = .slice a (i + 1) c := by
    rcases ho2.2 with ⟨_, e⟩ | ⟨g, cap, cur, e, _⟩
    · omega
    · exact ⟨_, _, e⟩
  obtain ⟨a, c, rfl⟩ := hsl
  refine ⟨a, c, w', hr, ⟨⟨_, _, rfl⟩, ho2, fun j hj => ?_⟩, hg⟩
  have ha : Aside B w v.ownBlock 9 5 := aside_row h.row (by decide) (by decide)
  by_cases e : j = i
  · rw [e, upd_same, upd_same, hVB]
    obtain ⟨h4, h5⟩ := u8_aside hu hVL hg ha
    exact ⟨VL, hVL, h4, hbt.grown hg (fun _ => h5)⟩
  · rw [upd_other _ _ _ e, upd_other _ _ _ e]
    obtain ⟨VL', h1, h2, h3⟩ := h.vals j (by omega)
    obtain ⟨h4, h5⟩ := u8_aside h2 h1 hg ha
    exact ⟨VL', h1, h4, h3.grown hg (fun _ => h5)⟩
/-- x.Extents = append(x.Extents, e) -/
theorem ExRow.push {B : Nat} {w : World} {v : Value} {i : Nat} {F H N : Nat → Int} (h : ExRow B w v i F H N) (hB : B ≤ w.heap.size) (f hh n : Int) (g : Nat)
    (hnew : w.heap[g]? = some (.cells #[.int .i64 f, .int .i64 hh, .int .i64 n] 25 (0, 0))) (hF : F i = f) (hH : H i = hh) (hN : N i = n) (hlen : (i + 1) * 24 ≤ 140737488355328) :
    ∃ a c w', (Builtin.append_ #[26, 26] 26 #[v, .slice (some ⟨g, 0, none⟩) 1 1]).run Try.prog w = .ok (.slice a (i + 1) c) w' ∧
      ExRow B w' (.slice a (i + 1) c) (i + 1) F H N ∧ w.grownBy w' v.ownBlock := by
  obtain ⟨i0, hi, hz0, hz1, hz2⟩ := info_parts infoExt
  obtain ⟨v', w', hr, ho', hg, hiff⟩ := run_append_own (P := Try.prog) _ B 26 26 25 i0 _ 3 24 Try.underlying26 hi hz0 hz1 hz2 rfl (by decide) v i _ h.row ⟨g, 0, none⟩ 1 1 [.int .i64 f, .int .i64 hh, .int .i64 n] rfl (by
    intro j u hj
    rw [add_at, Nat.zero_add]
    match j, hj with
    | 0, hj => rw [← hj]; exact cell_of_row _ _ 0 _ _ (0, 0) hnew
    | 1, hj => rw [← hj]; exact cell_of_row _ _ 1 _ _ (0, 0) hnew
    | 2, hj => rw [← hj]; exact cell_of_row _ _ 2 _ _ (0, 0) hnew
    | j + 3, hj => cases hj) (by intro u hu; simp at hu; rcases hu with rfl | rfl | rfl <;> rfl) (by unfold maxLen; omega) hlen hB
  have e2 : [.int .i64 f, .int .i64 hh, .int .i64 n] = exC F H N i := by
    unfold exC
    rw [hF, hH, hN]
  rw [e2] at ho'
  have ho2 : w'.ownsRow B 25 3 v' (i + 1) (catV (exC F H N) (i + 1)) := ho'
  have hsl : ∃ a c, v' = .slice a (i + 1) c := by
    rcases ho2.2 with ⟨_, e⟩ | ⟨g, cap, cur, e, _⟩
    · omega
    · exact ⟨_, _, e⟩
  obtain ⟨a, c, rfl⟩ := hsl
  exact ⟨a, c, w', hr, ⟨⟨_, _, rfl⟩, ho2⟩, hg⟩
/-- []byte(s), with its block's type. -/
theorem run_bytes_u8 (w : World) (s : ByteArray) (hs : s.size ≤ maxLen) : ∃ w' c, (convert 9 32 (.string s)).run Try.prog w = .ok (.slice (some ⟨w.heap.size, 0, none⟩) (strB s).length c) w' ∧
    Below w.heap.size w w' ∧ U8At w' w.heap.size ∧ BtsAt w' w.heap.size 0 (.slice (some ⟨w.heap.size, 0, none⟩) (strB s).length c) (strB s) := by
  refine ⟨Lib.bytesWorld w 5 s, grownCap w s.size 0 5, ?_, ?_, ⟨_, _, Lib.bytesWorld_at_new _ _ _⟩, ?_⟩
  · rw [strB_len]; exact Lib.run_convert_string_bytes w 9 32 5 s Try.underlying9 Try.underlying32 Try.underlying5
  · exact ⟨rfl, rfl, rfl, by rw [Lib.bytesWorld_size]; omega, fun k hk => Lib.bytesWorld_at_old _ _ _ k hk⟩
  · refine ⟨_, _, rfl, by rw [strB_len]; exact grownCap_ge _ _ _ _, grownCap_le_maxLen _ _ _ _ hs, strB_range s, fun _ => ⟨rfl, fun j hj => ?_⟩⟩
    rw [strB_len] at hj
    rw [Nat.zero_add, Lib.bytesWorld_cell w _ s j hj]
    unfold strB
    have : j < s.data.toList.length := by rw [← Lib.size_eq]; exact hj
    simp only [List.getD, List.getElem?_map, List.getElem?_eq_getElem this, Option.map_some, Option.getD_some]

/-- Where Decode stands: what is as it was when x was made; the reader; x. -/
structure Dc (wB w : World) (R L X off : Nat) (st : St) (k m u g l s : Int) (t0 t1 : Nat) (ln : ByteArray) (xa : Option Addr) (xn xc : Nat) (ea : Option Addr) (en ec : Nat) : Prop where
  os : w.os = wB.os
  tape : w.tape = wB.tape
  output : w.output = wB.output
  size : wB.heap.size ≤ w.heap.size
  keep : ∀ j, j < wB.heap.size → j ≠ R → j ≠ X → w.heap[j]? = wB.heap[j]?
  rdr : Rdr w R L off st.xs st.sp
  ino : InoAt w X k m u g l s t0 t1 ln xa xn xc ea en ec
section
variable {wB w w' : World} {R L X off : Nat} {st : St} {k m u g l s : Int} {t0 t1 : Nat} {ln : ByteArray} {xa : Option Addr} {xn xc : Nat} {ea : Option Addr} {en ec : Nat}
theorem Dc.toR (h : Dc wB w R L X off st k m u g l s t0 t1 ln xa xn xc ea en ec) (hRX : R ≠ X) {off' : Nat} {st' : St} (hr : Rdr w' R L off' st'.xs st'.sp) (hg : w.grownBy w' (some R)) : Dc wB w' R L X off' st' k m u g l s t0 t1 ln xa xn xc ea en ec :=
  ⟨hg.os.trans h.os, hg.tape.trans h.tape, hg.output.trans h.output, Nat.le_trans h.size hg.size, fun j hj h1 h2 => (hg.block j (Nat.lt_of_lt_of_le hj h.size) (fun e => h1 (by simpa using e))).trans (h.keep j hj h1 h2), hr,
    (hg.block X (lt_of_block h.ino) (fun e => hRX (by simpa using e.symm))).trans h.ino⟩
theorem Dc.toX (h : Dc wB w R L X off st k m u g l s t0 t1 ln xa xn xc ea en ec) (hRX : R ≠ X) (hLX : L ≠ X) {k' m' u' g' l' s' : Int} {t0' t1' : Nat} {ln' : ByteArray} {xa' : Option Addr} {xn' xc' : Nat} {ea' : Option Addr} {en' ec' : Nat} (hi : InoAt w' X k' m' u' g' l' s' t0' t1' ln' xa' xn' xc' ea' en' ec') (hg : w.grownBy w' (some X)) :
    Dc wB w' R L X off st k' m' u' g' l' s' t0' t1' ln' xa' xn' xc' ea' en' ec' :=
  ⟨hg.os.trans h.os, hg.tape.trans h.tape, hg.output.trans h.output, Nat.le_trans h.size hg.size, fun j hj h1 h2 => (hg.block j (Nat.lt_of_lt_of_le hj h.size) (fun e => h2 (by simpa using e))).trans (h.keep j hj h1 h2), h.rdr.grown hg (fun e => hRX (by simpa using e)) (fun _ e => hLX (by simpa using e)), hi⟩
theorem Dc.grow (h : Dc wB w R L X off st k m u g l s t0 t1 ln xa xn xc ea en ec) {q : Option Nat} (hg : w.grownBy w' q) (hq : ∀ j, q = some j → wB.heap.size ≤ j) (hR : R < wB.heap.size) (hL : L < wB.heap.size) (hX : X < wB.heap.size) : Dc wB w' R L X off st k m u g l s t0 t1 ln xa xn xc ea en ec :=
  have hne : ∀ j, j < wB.heap.size → some j ≠ q := fun j hj e => by have := hq j e.symm; omega
  ⟨hg.os.trans h.os, hg.tape.trans h.tape, hg.output.trans h.output, Nat.le_trans h.size hg.size, fun j hj h1 h2 => (hg.block j (Nat.lt_of_lt_of_le hj h.size) (hne j hj)).trans (h.keep j hj h1 h2), h.rdr.grown hg (hne R hR) (fun _ => hne L hL),
    (hg.block X (lt_of_block h.ino) (hne X hX)).trans h.ino⟩
theorem Dc.below (h : Dc wB w R L X off st k m u g l s t0 t1 ln xa xn xc ea en ec) (hb : Below w.heap.size w w') (hR : R < wB.heap.size) (hL : L < wB.heap.size) (hX : X < wB.heap.size) : Dc wB w' R L X off st k m u g l s t0 t1 ln xa xn xc ea en ec :=
  h.grow (row_grown hb none) (fun j hj => by cases hj) hR hL hX
theorem Dc.drew (h : Dc wB w R L X off st k m u g l s t0 t1 ln xa xn xc ea en ec) : Dc wB w.drew R L X off st k m u g l s t0 t1 ln xa xn xc ea en ec := ⟨h.os, h.tape, h.output, h.size, h.keep, h.rdr, h.ino⟩
theorem text_dc (h : Dc wB w R L X off st k m u g l s t0 t1 ln xa xn xc ea en ec) (hRX : R ≠ X) (c : Nat) (h1 : 1 ≤ c) (h2 : c ≤ 100) :
    Calls Try.prog 35 #[.pointer (some ⟨R, 0, none⟩), .int .i64 c] w fun e w' => e = .returned (.string (xS st c)) ∧ w.grownBy w' (some R) ∧ ∃ off', Dc wB w' R L X off' (xT st c) k m u g l s t0 t1 ln xa xn xc ea en ec :=
  (textR_any R L off st.xs st.sp c w h.rdr (by omega)).mono fun e w' hn => by
    unfold Texted at hn
    rw [badX_mid h1] at hn
    obtain ⟨rfl, h2, h3, h5⟩ := hn
    exact ⟨rfl, h3, _, h.toR hRX h2 h3⟩
theorem clo_dc (h : Dc wB w R L X off st k m u g l s t0 t1 ln xa xn xc ea en ec) (hRX : R ≠ X) {V : Nat} (hV : w.heap[V]? = some (.cells #[.pointer (some ⟨R, 0, none⟩)] 66 (0, 0))) (hb : st.bytes) (c : Nat) (h1 : 1 ≤ c) (h2 : c ≤ 4) :
    Calls Try.prog 31 #[.int .i64 c, .pointer (some ⟨V, 0, none⟩)] w fun e w' => e = .returned (.int .i64 (nS st c)) ∧ w.grownBy w' (some R) ∧ ∃ off', Dc wB w' R L X off' (nT st c) k m u g l s t0 t1 ln xa xn xc ea en ec :=
  (num_clo V R L off st c w h1 h2 hb h.rdr hV).mono fun e w' ⟨h1, off', h2, h3, _⟩ => ⟨h1, h3, off', h.toR hRX h2 h3⟩
theorem grown_set {q : Option Nat} (h : w.grownBy w' q) {Q i : Nat} (hQ : w.heap.size ≤ Q) (v : Value) : w.grownBy (w'.setCell ⟨Q, i, none⟩ v) q :=
  ⟨h.os, h.tape, h.output, by simpa [World.setCell] using h.size, fun k hk hne => (Below.heap_setCell _ _ _ _ (show k ≠ Q by omega)).trans (h.block k hk hne)⟩
theorem Dc.toBelow (h : Dc wB w R L X off st k m u g l s t0 t1 ln xa xn xc ea en ec) {B : Nat} {w0 : World} (hb : Below B w0 wB) (hB : B ≤ wB.heap.size) (hR : B ≤ R) (hX : B ≤ X) : Below B w0 w :=
  ⟨h.os.trans hb.os, h.tape.trans hb.tape, h.output.trans hb.output, Nat.le_trans hb.size h.size, fun j hj => (h.keep j (by omega) (by omega) (by omega)).trans (hb.block j hj)⟩
end
end Go.Proofs.Ytebnekpccdcnmaa
