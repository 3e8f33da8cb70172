/- The law's copied: an inode in new memory. -/
import Derived.Test.YtebnekpccdcnmaaKb
import Derived.Laws.AppendOwnNone
namespace Go.Proofs.Ytebnekpccdcnmaa
set_option linter.unusedVariables false
set_option linter.unusedSimpArgs false
open Go.RowKit

/-- The cells of the first n rows. -/
def catV (f : Nat → List Value) : Nat → List Value
  | 0 => []
  | n + 1 => catV f n ++ f n
theorem catV_len (f : Nat → List Value) (c : Nat) (hc : ∀ i, (f i).length = c) : ∀ n, (catV f n).length = n * c
  | 0 => by simp [catV]
  | n + 1 => by
    show (catV f n ++ f n).length = _
    rw [List.length_append, catV_len f c hc n, hc n, Nat.succ_mul]
theorem catV_at (f : Nat → List Value) (c : Nat) (hc : ∀ i, (f i).length = c) : ∀ n i j, i < n → j < c → (catV f n)[i * c + j]? = (f i)[j]?
  | 0, i, j, hi, _ => absurd hi (Nat.not_lt_zero _)
  | n + 1, i, j, hi, hj => by
    show (catV f n ++ f n)[i * c + j]? = _
    have hl := catV_len f c hc n
    by_cases e : i = n
    · subst e
      rw [List.getElem?_append_right (by omega), hl]
      congr 1; omega
    · have h1 : i + 1 ≤ n := by omega
      have h2 := Nat.mul_le_mul_right c h1
      rw [Nat.succ_mul] at h2
      rw [List.getElem?_append_left (by omega)]
      exact catV_at f c hc n i j (by omega) hj
theorem catV_mem (f : Nat → List Value) (P : Value → Prop) (h : ∀ i, ∀ u ∈ f i, P u) : ∀ n, ∀ u ∈ catV f n, P u
  | 0, u, hu => by cases hu
  | n + 1, u, hu => by
    rcases List.mem_append.1 hu with hu | hu
    · exact catV_mem f P h n u hu
    · exact h n u hu
theorem catV_eq {f g : Nat → List Value} : ∀ n, (∀ i, i < n → f i = g i) → catV f n = catV g n
  | 0, _ => rfl
  | n + 1, h => by
    show catV f n ++ f n = catV g n ++ g n
    rw [catV_eq n (fun i hi => h i (by omega)), h n (by omega)]
theorem add_at (L off k : Nat) : (⟨L, off, none⟩ : Addr).add k = ⟨L, off + k, none⟩ := by unfold Addr.add; by_cases h : k = 0 <;> simp [h]
theorem news_cat {w : World} {L off c n : Nat} {f : Nat → List Value} (hc0 : 0 < c) (hc : ∀ i, (f i).length = c) (h : ∀ i, i < n → ∀ j, j < c → w.cell? ⟨L, off + (i * c + j), none⟩ = (f i)[j]?) :
    ∀ j u, (catV f n)[j]? = some u → w.cell? ((⟨L, off, none⟩ : Addr).add j) = some u := by
  intro j u hj
  have hl := catV_len f c hc n
  have hjl : j < n * c := by
    rcases Nat.lt_or_ge j (n * c) with h | h
    · exact h
    · rw [List.getElem?_eq_none (by omega)] at hj; cases hj
  have h1 : j / c < n := (Nat.div_lt_iff_lt_mul hc0).2 hjl
  have h2 : j % c < c := Nat.mod_lt _ hc0
  have h3 : j / c * c + j % c = j := by rw [Nat.mul_comm]; exact Nat.div_add_mod j c
  rw [add_at, ← h3, h _ h1 _ h2, ← catV_at f c hc n _ _ h1 h2, h3]
  exact hj

theorem infoExt : (Try.prog.info? 25).map (fun i => (i.zero, i.size, i.bytes)) = some (some (.agg #[.int .i64 0, .int .i64 0, .int .i64 0]), 3, 24) := by kernel_rfl
theorem infoXat : (Try.prog.info? 60).map (fun i => (i.zero, i.size, i.bytes)) = some (some (.agg #[.string ByteArray.empty, .slice none 0 0]), 2, 40) := by kernel_rfl
def exC (F H N : Nat → Int) (i : Nat) : List Value := [.int .i64 (F i), .int .i64 (H i), .int .i64 (N i)]
def xaC (XN : Nat → ByteArray) (VA : Nat → Option Addr) (VN VC : Nat → Nat) (i : Nat) : List Value := [.string (XN i), .slice (VA i) (VN i) (VC i)]
theorem ex_of_own {w : World} {B g n cap : Nat} {F H N : Nat → Int} (ho : w.ownsRow B 25 3 (.slice (some ⟨g, 0, none⟩) n cap) n (catV (exC F H N) n)) : ExAt w g 0 (some ⟨g, 0, none⟩) n cap F H N ∧ B ≤ g := by
  have h' := ho
  obtain ⟨hl, h2⟩ := ho
  rcases h2 with ⟨h0, _⟩ | ⟨g', cap', cur, hv, hg, hh, hnc, hcm, hcs, htk⟩
  · cases h0
  · simp only [Value.slice.injEq, Option.some.injEq, Addr.mk.injEq, and_true, true_and] at hv
    obtain ⟨rfl, rfl⟩ := hv
    refine ⟨⟨hnc, by unfold maxLen at hcm; exact hcm, fun _ => ⟨rfl, fun i hi => ?_⟩⟩, hg⟩
    have hc : ∀ i, (exC F H N i).length = 3 := fun i => rfl
    have h0 := catV_at (exC F H N) 3 hc n i 0 hi (by omega)
    have h1 := catV_at (exC F H N) 3 hc n i 1 hi (by omega)
    have h3 := catV_at (exC F H N) 3 hc n i 2 hi (by omega)
    rw [Nat.zero_add, h'.cellAt (i * 3) (by omega), h'.cellAt (i * 3 + 1) (by omega), h'.cellAt (i * 3 + 2) (by omega), h1, h3]
    rw [Nat.add_zero] at h0
    rw [h0]
    exact ⟨rfl, rfl, rfl⟩
theorem xa_of_own {w : World} {B g n cap : Nat} {XN : Nat → ByteArray} {VA : Nat → Option Addr} {VN VC : Nat → Nat} (ho : w.ownsRow B 60 2 (.slice (some ⟨g, 0, none⟩) n cap) n (catV (xaC XN VA VN VC) n)) : XaAt w g 0 (some ⟨g, 0, none⟩) n cap XN VA VN VC ∧ B ≤ g := by
  have h' := ho
  obtain ⟨hl, h2⟩ := ho
  rcases h2 with ⟨h0, _⟩ | ⟨g', cap', cur, hv, hg, hh, hnc, hcm, hcs, htk⟩
  · cases h0
  · simp only [Value.slice.injEq, Option.some.injEq, Addr.mk.injEq, and_true, true_and] at hv
    obtain ⟨rfl, rfl⟩ := hv
    refine ⟨⟨hnc, by unfold maxLen at hcm; exact hcm, fun _ => ⟨rfl, fun i hi => ?_⟩⟩, hg⟩
    have hc : ∀ i, (xaC XN VA VN VC i).length = 2 := fun i => rfl
    have h0 := catV_at (xaC XN VA VN VC) 2 hc n i 0 hi (by omega)
    have h1 := catV_at (xaC XN VA VN VC) 2 hc n i 1 hi (by omega)
    rw [Nat.zero_add, h'.cellAt (i * 2) (by omega), h'.cellAt (i * 2 + 1) (by omega), h1]
    rw [Nat.add_zero] at h0
    rw [h0]
    exact ⟨rfl, rfl⟩
/-- append([]api.Extent{}, list...): a copy in new memory. -/
theorem copy_exts (w : World) (a : Option Addr) (n c L off : Nat) (F H N : Nat → Int) (h : ExAt w L off a n c F H N) (hc : a = none → c = 0) (hlen : n * 24 ≤ 140737488351232) :
    ∃ g cap w', (Builtin.append_ #[26, 26] 26 #[.slice (some ⟨w.heap.size, 0, none⟩) 0 0, .slice a n c]).run Try.prog (w.alloc (.cells #[] 25)) = .ok (.slice (some ⟨g, 0, none⟩) n cap) w' ∧
      ExAt w' g 0 (some ⟨g, 0, none⟩) n cap F H N ∧ w.heap.size ≤ g ∧ Below w.heap.size w w' := by
  obtain ⟨i0, hi, hz0, hz1, hz2⟩ := info_parts infoExt
  have hown := World.ownsRow_lit (base := w.heap.size) (e := 25) (size := 3) w #[] 0 (Nat.le_refl _) (by decide) rfl
  have hb0 : Below w.heap.size w (w.alloc (.cells #[] 25)) := (Below.refl _ _).alloc (Nat.le_refl _) _
  have hsz : (w.alloc (.cells #[] 25)).heap.size = w.heap.size + 1 := by simp
  cases a with
  | none =>
    obtain rfl := hc rfl
    obtain rfl : n = 0 := by have := h.1; omega
    exact ⟨w.heap.size, 0, _, run_append_owned_none (P := Try.prog) (w.alloc (.cells #[] 25)) w.heap.size 26 26 25 i0 3 Try.underlying26 hi _ 0 _ hown, ⟨Nat.le_refl _, by decide, fun h => absurd h (Nat.lt_irrefl _)⟩, Nat.le_refl _, hb0⟩
  | some ad =>
    have hl3 : (catV (exC F H N) n).length = n * 3 := catV_len _ 3 (fun _ => rfl) n
    have hnews : ∀ j u, (catV (exC F H N) n)[j]? = some u → (w.alloc (.cells #[] 25)).cell? (ad.add j) = some u := by
      by_cases hn : n = 0
      · subst hn
        intro j u hj
        cases hj
      · have hbb := h.below hb0
        obtain ⟨he, h4⟩ := hbb.2.2 (by omega)
        simp only [Option.some.injEq] at he
        subst he
        refine news_cat (c := 3) (by omega) (fun _ => rfl) (fun i hi j hj => ?_)
        obtain ⟨k0, k1, k2⟩ := h4 i hi
        match j, hj with
        | 0, _ => exact k0
        | 1, _ => rw [← Nat.add_assoc]; exact k1
        | 2, _ => rw [← Nat.add_assoc]; exact k2
    obtain ⟨v', w', hr, ho, hg, hiff⟩ := run_append_own (P := Try.prog) (w.alloc (.cells #[] 25)) w.heap.size 26 26 25 i0 _ 3 24 Try.underlying26 hi hz0 hz1 hz2 rfl (by decide) _ 0 _ hown ad n c _ hl3 hnews (catV_mem _ _ (fun i u hu => by
      unfold exC at hu
      simp at hu
      rcases hu with rfl | rfl | rfl <;> rfl) n) (by unfold maxLen; omega) (by omega) (by rw [hsz]; omega)
    rw [Nat.zero_add] at ho
    have hg' : (w.alloc (.cells #[] 25)).grownBy w' (some w.heap.size) := hg
    have hbel : Below w.heap.size w w' := hb0.grown hg' (by rw [hsz]; omega) (by intro k hk; simp at hk; omega)
    have ho2 := ho
    obtain ⟨hl, h2⟩ := ho
    rcases h2 with ⟨he, h0⟩ | ⟨g, cap, cur, he, hgb, hgg, hnc, hcm, r⟩
    · exfalso
      have := hiff.1 he
      simp at this
    · subst he
      have ho' : w'.ownsRow w.heap.size 25 3 (.slice (some ⟨g, 0, none⟩) n cap) n (catV (exC F H N) n) := ho2
      exact ⟨g, cap, w', hr, (ex_of_own ho').1, hgb, hbel⟩
/-- append([]byte{}, b...), b nil or not: a copy in new memory. -/
theorem run_copied2 (w : World) (L off : Nat) (a : Option Addr) (n c : Nat) (xs : List Int) (h : BtsAt w L off (.slice a n c) xs) (hc : a = none → c = 0) (hlen : n ≤ 140737488355328) :
    ∃ g cap w', (Builtin.append_ #[32, 32] 32 #[.slice (some ⟨w.heap.size, 0, none⟩) 0 0, .slice a n c]).run Try.prog (w.alloc (.cells #[] 5)) = .ok (.slice (some ⟨g, 0, none⟩) n cap) w' ∧
      w.heap.size ≤ g ∧ w'.ownsRow w.heap.size 5 1 (.slice (some ⟨g, 0, none⟩) n cap) n (xs.map (Value.int .u8)) ∧ Below w.heap.size w w' := by
  cases a with
  | some ad => exact run_copied w L off ad n c xs h hlen
  | none =>
    obtain rfl := hc rfl
    obtain rfl : n = 0 := by have := h.len.2.1; omega
    obtain rfl : xs = [] := List.eq_nil_of_length_eq_zero h.len.1.symm
    obtain ⟨i0, hi, hz0, hz1, hz2⟩ := info_parts Try.infoByte
    have hown := World.ownsRow_lit (base := w.heap.size) (e := 5) (size := 1) w #[] 0 (Nat.le_refl _) (by decide) rfl
    exact ⟨w.heap.size, 0, _, run_append_owned_none (P := Try.prog) (w.alloc (.cells #[] 5)) w.heap.size 32 32 5 i0 1 Try.underlying32 hi _ 0 _ hown, Nat.le_refl _, hown, (Below.refl _ _).alloc (Nat.le_refl _) _⟩
/-- Attributes gathered in a row of the call's own, each value in a row of its own. -/
structure XaOwn (w0 w : World) (v : Value) (i : Nat) (XN : Nat → ByteArray) (VA : Nat → Option Addr) (VN VC : Nat → Nat) (VB : Nat → List Int) : Prop where
  isSlice : ∃ a l c, v = .slice a l c
  row : w.ownsRow w0.heap.size 60 2 v i (catV (xaC XN VA VN VC) i)
  vals : ∀ j, j < i → w.ownsRow w0.heap.size 5 1 (.slice (VA j) (VN j) (VC j)) (VN j) ((VB j).map (Value.int .u8))
  low : Below w0.heap.size w0 w
theorem XaOwn.nil {w0 w : World} (h : Below w0.heap.size w0 w) (XN : Nat → ByteArray) (VA : Nat → Option Addr) (VN VC : Nat → Nat) (VB : Nat → List Int) : XaOwn w0 w (.slice none 0 0) 0 XN VA VN VC VB :=
  ⟨⟨none, 0, 0, rfl⟩, World.ownsRow_nil _ _ _ _, fun j hj => absurd hj (Nat.not_lt_zero _), h⟩
theorem own_below {w w' : World} {B E size n : Nat} {v : Value} {xs : List Value} (h : w.ownsRow B E size v n xs) (hb : Below w.heap.size w w') : w'.ownsRow B E size v n xs :=
  h.kept (row_grown hb none) (by cases v.ownBlock <;> simp)
theorem XaOwn.below {w0 w w' : World} {v : Value} {i : Nat} {XN : Nat → ByteArray} {VA : Nat → Option Addr} {VN VC : Nat → Nat} {VB : Nat → List Int} (h : XaOwn w0 w v i XN VA VN VC VB) (hb : Below w.heap.size w w') : XaOwn w0 w' v i XN VA VN VC VB :=
  ⟨h.isSlice, own_below h.row hb, fun j hj => own_below (h.vals j hj) hb, h.low.trans (hb.mono h.low.size)⟩
theorem own_apart {w : World} {B B' E E' s s' n n' : Nat} {v v' : Value} {xs xs' : List Value} (h : w.ownsRow B E s v n xs) (h' : w.ownsRow B' E' s' v' n' xs') (hE : E ≠ E') : v.ownBlock = none ∨ v.ownBlock ≠ v'.ownBlock := by
  rcases h.2 with ⟨rfl, _⟩ | ⟨g, cap, cur, rfl, _, hh, _⟩
  · exact Or.inl rfl
  · refine Or.inr fun e => ?_
    rcases h'.2 with ⟨rfl, _⟩ | ⟨g', cap', cur', rfl, _, hh', _⟩
    · cases e
    · have e' : g = g' := by simpa [Value.ownBlock] using e
      subst e'
      rw [hh] at hh'
      simp only [Option.some.injEq, Obj.cells.injEq] at hh'
      exact hE hh'.2.1
def upd {α : Type} (f : Nat → α) (i : Nat) (x : α) (j : Nat) : α := if j = i then x else f j
theorem upd_same {α : Type} (f : Nat → α) (i : Nat) (x : α) : upd f i x i = x := if_pos rfl
theorem upd_other {α : Type} (f : Nat → α) (i : Nat) (x : α) {j : Nat} (h : j ≠ i) : upd f i x j = f j := if_neg h
/-- l = append(l, api.Xattr{Name: nm, Value: val}) -/
theorem XaOwn.push {w0 w : World} {v : Value} {i : Nat} {XN : Nat → ByteArray} {VA : Nat → Option Addr} {VN VC : Nat → Nat} {VB : Nat → List Int} (h : XaOwn w0 w v i XN VA VN VC VB) (nm : ByteArray) (g cap : Nat) (ys : List Int)
    (ho : w.ownsRow w0.heap.size 5 1 (.slice (some ⟨g, 0, none⟩) ys.length cap) ys.length (ys.map (Value.int .u8))) (hXN : XN i = nm) (hVN : VN i = ys.length) (hVB : VB i = ys) (hlen : (i + 1) * 40 ≤ 140737488355328) :
    ∃ a l c w', (Builtin.append_ #[29, 29] 29 #[v, .slice (some ⟨w.heap.size, 0, none⟩) 1 1]).run Try.prog (w.alloc (.cells #[.string nm, .slice (some ⟨g, 0, none⟩) ys.length cap] 60)) = .ok (.slice a l c) w' ∧
      XaOwn w0 w' (.slice a l c) (i + 1) XN (upd VA i (some ⟨g, 0, none⟩)) VN (upd VC i cap) VB ∧ ∀ k, k < w.heap.size → v.ownBlock ≠ some k → w'.heap[k]? = w.heap[k]? := by
  obtain ⟨i0, hi, hz0, hz1, hz2⟩ := info_parts infoXat
  have hal : Below w.heap.size w (w.alloc (.cells #[.string nm, .slice (some ⟨g, 0, none⟩) ys.length cap] 60)) := (Below.refl _ _).alloc (Nat.le_refl _) _
  have h2 := h.below hal
  have hnew := heap_alloc_new w (.cells #[.string nm, .slice (some ⟨g, 0, none⟩) ys.length cap] 60)
  obtain ⟨v', w', hr, ho', hg, hiff⟩ := run_append_own (P := Try.prog) _ w0.heap.size 29 29 60 i0 _ 2 40 Try.underlying29 hi hz0 hz1 hz2 rfl (by decide) v i _ h2.row ⟨w.heap.size, 0, none⟩ 1 1 [.string nm, .slice (some ⟨g, 0, none⟩) ys.length cap] rfl (by
    intro j u hj
    rw [add_at, Nat.zero_add]
    match j, hj with
    | 0, hj => rw [← hj]; exact cell_of_row _ _ 0 _ _ (0, 0) hnew
    | 1, hj => rw [← hj]; exact cell_of_row _ _ 1 _ _ (0, 0) hnew
    | j + 2, hj => cases hj) (by intro u hu; simp at hu; rcases hu with rfl | rfl <;> rfl) (by unfold maxLen; omega) hlen (by have := h2.low.size; exact this)
  have hrow : catV (xaC XN VA VN VC) i ++ [.string nm, .slice (some ⟨g, 0, none⟩) ys.length cap] = catV (xaC XN (upd VA i (some ⟨g, 0, none⟩)) VN (upd VC i cap)) (i + 1) := by
    have e1 : catV (xaC XN VA VN VC) i = catV (xaC XN (upd VA i (some ⟨g, 0, none⟩)) VN (upd VC i cap)) i := catV_eq i fun j hj => by
      unfold xaC
      rw [upd_other _ _ _ (by omega), upd_other _ _ _ (by omega)]
    have e2 : [.string nm, .slice (some ⟨g, 0, none⟩) ys.length cap] = xaC XN (upd VA i (some ⟨g, 0, none⟩)) VN (upd VC i cap) i := by
      unfold xaC
      rw [upd_same, upd_same, hXN, hVN]
    rw [e1, e2]
    rfl
  rw [hrow] at ho'
  have hsl : ∃ a l c, v' = .slice a l c := by
    rcases ho'.2 with ⟨e, _⟩ | ⟨g, cap, cur, e, _⟩
    · exact ⟨_, _, _, e⟩
    · exact ⟨_, _, _, e⟩
  obtain ⟨a, l, c, rfl⟩ := hsl
  refine ⟨a, l, c, w', hr, ⟨⟨_, _, _, rfl⟩, ho', fun j hj => ?_, h2.low.grown hg h2.low.size (fun k hk => (h2.row.lt k hk).1)⟩, fun k hk hne => (hg.block k (by simp; omega) (fun e => hne e.symm)).trans (hal.block k hk)⟩
  by_cases e : j = i
  · rw [e, upd_same, upd_same, hVN, hVB]
    exact (own_below ho hal).kept hg (own_apart (own_below ho hal) h2.row (by decide))
  · rw [upd_other _ _ _ e, upd_other _ _ _ e]
    exact (h2.vals j (by omega)).kept hg (own_apart (h2.vals j (by omega)) h2.row (by decide))
end Go.Proofs.Ytebnekpccdcnmaa
