/- The layer inode, plainly: bytes read, and what was written. -/
import Derived.Test.YtebnekpccdcnmaaKe
namespace Go.Proofs.Ytebnekpccdcnmaa
set_option linter.unusedVariables false
set_option linter.unusedSimpArgs false
open Go.RowKit

theorem badT_app (a b : List Int) (n : Int) (h : n = a.length) : badT (a ++ b) false n = false := by
  unfold badT
  rw [decide_eq_false (by omega), decide_eq_false (by rw [List.length_append]; omega)]; rfl
theorem gotT_app (a b : List Int) (n : Int) (h : n = a.length) : gotT (a ++ b) false n = a := by
  unfold gotT
  rw [badT_app a b n h, if_neg (by simp), h, Int.toNat_natCast, List.take_left']
  rfl
theorem restT_app (a b : List Int) (n : Int) (h : n = a.length) : restT (a ++ b) false n = b := by
  unfold restT
  rw [badT_app a b n h, if_neg (by simp), h, Int.toNat_natCast, List.drop_left']
  rfl

theorem beB_succ (v n : Nat) : beB v (n + 1) = beB (v / 256) n ++ [((v % 256 : Nat) : Int)] := by
  unfold beB
  rw [List.range_succ, List.map_append]
  congr 1
  · refine List.map_congr_left fun i hi => ?_
    have hi' : i < n := List.mem_range.1 hi
    have e : n + 1 - 1 - i = (n - 1 - i) + 1 := by omega
    rw [e, Nat.pow_succ, Nat.mul_comm, Nat.div_div_eq_div_mul]
  · simp
theorem foldB_beB (n : Nat) : ∀ v : Nat, v < 256 ^ n → foldB (beB v n) = (v : Int) := by
  induction n with
  | zero => intro v hv; have : v = 0 := by simpa using hv
            subst this; rfl
  | succ n ih =>
    intro v hv
    rw [beB_succ, foldB_snoc, ih (v / 256) (by rw [Nat.pow_succ] at hv; exact Nat.div_lt_of_lt_mul (by rw [Nat.mul_comm]; exact hv))]
    omega
theorem strOf_strB (s : ByteArray) : strOfNums (strB s) = s := by
  unfold strOfNums strB
  rw [List.map_map]
  have : (fun n : Int => UInt8.ofNat n.toNat) ∘ (fun b : UInt8 => (b.toNat : Int)) = id := by
    funext b; simp
  rw [this, List.map_id]

/-- What a reader has left, and whether it is spoilt. -/
structure St where
  xs : List Int
  sp : Bool
def nS (s : St) (n : Nat) : Int := numV s.xs s.sp n
def nT (s : St) (n : Nat) : St := ⟨restT s.xs s.sp n, badT s.xs s.sp n⟩
def xS (s : St) (n : Nat) : ByteArray := textV s.xs s.sp n
def xT (s : St) (n : Nat) : St := ⟨restT s.xs s.sp n, textBad s.xs s.sp n⟩
def St.bytes (s : St) : Prop := ∀ x ∈ s.xs, 0 ≤ x ∧ x < 256
theorem badN_mid {sp : Bool} {n : Nat} (h1 : 1 ≤ n) (h8 : n ≤ 8) : badN sp n = sp := by
  unfold badN
  rw [decide_eq_false (by omega), decide_eq_false (by omega)]; simp
theorem badX_mid {sp : Bool} {n : Nat} (h1 : 1 ≤ n) : badX sp n = sp := by
  unfold badX
  rw [decide_eq_false (by omega)]; simp
theorem restT_mem {xs : List Int} {sp : Bool} {n : Int} {x : Int} (h : x ∈ restT xs sp n) : x ∈ xs := by
  unfold restT at h
  split at h
  · exact h
  · exact List.mem_of_mem_drop h
theorem nT_bytes {s : St} {n : Nat} (h : s.bytes) : (nT s n).bytes := fun x hx => h x (restT_mem hx)
theorem xT_bytes {s : St} {n : Nat} (h : s.bytes) : (xT s n).bytes := fun x hx => h x (restT_mem hx)
theorem got_mid {xs : List Int} {sp : Bool} {n : Nat} (h : badT xs sp n = false) : sp = false ∧ n ≤ xs.length ∧ gotT xs sp n = xs.take n ∧ restT xs sp n = xs.drop n := by
  have h2 : ¬ (sp = true ∨ (n : Int) < 0 ∨ (xs.length : Int) < n) := fun hc => by rw [(badT_iff xs sp n).2 hc] at h; cases h
  refine ⟨?_, by omega, ?_, ?_⟩
  · cases sp
    · rfl
    · exact absurd (Or.inl rfl) h2
  · unfold gotT; rw [h, if_neg (by simp), Int.toNat_natCast]
  · unfold restT; rw [h, if_neg (by simp), Int.toNat_natCast]
/-- The number of g bytes, and back. -/
theorem beB_foldB : ∀ (n : Nat) (g : List Int), g.length = n → (∀ x ∈ g, 0 ≤ x ∧ x < 256) → beB (foldB g).toNat n = g
  | 0, g, hl, _ => by
    have : g = [] := List.eq_nil_of_length_eq_zero hl
    subst this; rfl
  | n + 1, g, hl, hr => by
    have hne : g ≠ [] := by intro e; subst e; cases hl
    obtain ⟨g', x, rfl⟩ : ∃ g' x, g = g' ++ [x] := ⟨g.dropLast, g.getLast hne, (List.dropLast_concat_getLast hne).symm⟩
    have hl' : g'.length = n := by simpa using hl
    have hx := hr x (by simp)
    have hb := foldB_bd g' (fun y hy => hr y (by simp [hy]))
    have ih := beB_foldB n g' hl' (fun y hy => hr y (by simp [hy]))
    rw [foldB_snoc, beB_succ]
    have e1 : (foldB g' * 256 + x).toNat / 256 = (foldB g').toNat := by omega
    have e2 : (((foldB g' * 256 + x).toNat % 256 : Nat) : Int) = x := by omega
    rw [e1, e2, ih]
theorem num_bd {s : St} {n : Nat} (h1 : 1 ≤ n) (h8 : n ≤ 8) (hb : s.bytes) : 0 ≤ nS s n ∧ nS s n < 256 ^ n := by
  unfold nS numV
  rw [badN_mid h1 h8]
  have hr : ∀ x ∈ gotT s.xs s.sp n, 0 ≤ x ∧ x < 256 := by
    intro x hx
    unfold gotT at hx
    split at hx
    · cases hx
    · exact hb x (List.mem_of_mem_take hx)
  have := foldB_bd _ hr
  refine ⟨this.1, Int.lt_of_lt_of_le this.2 ?_⟩
  have hl : (gotT s.xs s.sp n).length ≤ n := by
    unfold gotT
    split
    · simp
    · rw [List.length_take]; omega
  have h2 : (256 : Nat) ^ (gotT s.xs s.sp n).length ≤ 256 ^ n := Nat.pow_le_pow_right (by decide) hl
  have h3 : (((256 : Nat) ^ (gotT s.xs s.sp n).length : Nat) : Int) ≤ (((256 : Nat) ^ n : Nat) : Int) := Int.ofNat_le.2 h2
  simpa using h3
theorem n_good {v n : Nat} {ys : List Int} (h1 : 1 ≤ n) (h8 : n ≤ 8) (hv : v < 256 ^ n) : nS ⟨beB v n ++ ys, false⟩ n = v ∧ nT ⟨beB v n ++ ys, false⟩ n = ⟨ys, false⟩ := by
  have hl : (n : Int) = (beB v n).length := by rw [beB_len]
  unfold nS nT numV
  dsimp only
  rw [badN_mid h1 h8, gotT_app _ _ _ hl, restT_app _ _ _ hl, badT_app _ _ _ hl, foldB_beB n v hv]
  exact ⟨rfl, rfl⟩
theorem n_sound {s : St} {n : Nat} (h1 : 1 ≤ n) (h8 : n ≤ 8) (hb : s.bytes) (h : (nT s n).sp = false) : s.sp = false ∧ s.xs = beB (nS s n).toNat n ++ (nT s n).xs := by
  obtain ⟨h2, h3, h4, h5⟩ := got_mid (show badT s.xs s.sp n = false from h)
  refine ⟨h2, ?_⟩
  unfold nS nT numV
  dsimp only
  rw [badN_mid h1 h8, h4, h5, beB_foldB n _ (by rw [List.length_take]; omega) (fun x hx => hb x (List.mem_of_mem_take hx)), List.take_append_drop]
theorem strB_strOf (l : List Int) (h : ∀ x ∈ l, 0 ≤ x ∧ x < 256) : strB (strOfNums l) = l := by
  unfold strB
  rw [strOfNums_data, List.map_map]
  refine (List.map_congr_left fun x hx => ?_).trans (List.map_id l)
  have := h x hx
  show ((UInt8.ofNat x.toNat).toNat : Int) = x
  rw [UInt8.toNat_ofNat']
  omega
theorem x_good {t : ByteArray} {m : Nat} {ys : List Int} (hm : t.size + 1 ≤ m) : xS ⟨textB t m ++ ys, false⟩ m = t ∧ xT ⟨textB t m ++ ys, false⟩ m = ⟨ys, false⟩ := by
  have hl : (m : Int) = (textB t m).length := by rw [textB_len t m hm]
  have hz : (textB t m).getD 0 0 = (t.size : Int) := rfl
  have hd : (textB t m).drop (1 + t.size) = List.replicate (m - 1 - t.size) 0 := by
    unfold textB
    rw [Nat.add_comm, List.drop_succ_cons, List.drop_append_of_le_length (by rw [strB_len]; exact Nat.le_refl _), List.drop_eq_nil_of_le (by rw [strB_len]; exact Nat.le_refl _)]
    rfl
  have hN : noText (textB t m) m = false := by
    unfold noText
    rw [hz, Int.toNat_natCast, hd, decide_eq_false (by omega)]
    simp
  have hne : (textB t m).isEmpty = false := rfl
  unfold xS xT textV textBad
  dsimp only
  rw [badX_mid (by omega), gotT_app _ _ _ hl, restT_app _ _ _ hl, badT_app _ _ _ hl, hN, hne, hz, Int.toNat_natCast, textB_takeS]
  refine ⟨?_, rfl⟩
  rw [if_neg (by simp)]
  exact strOf_strB t
theorem all_zero {l : List Int} (h : l.all (· == 0) = true) : l = List.replicate l.length 0 := by
  refine List.eq_replicate_iff.2 ⟨rfl, fun x hx => ?_⟩
  have := List.all_eq_true.1 h x hx
  simpa using this
theorem x_sound {s : St} {m : Nat} (h1 : 1 ≤ m) (hb : s.bytes) (h : (xT s m).sp = false) : s.sp = false ∧ (xS s m).size + 1 ≤ m ∧ s.xs = textB (xS s m) m ++ (xT s m).xs := by
  have h0 : textBad s.xs s.sp m = false := h
  unfold textBad at h0
  rw [badX_mid h1, Bool.or_eq_false_iff] at h0
  obtain ⟨h2, h3, h4, h5⟩ := got_mid h0.1
  refine ⟨h2, ?_⟩
  have hgl : (gotT s.xs s.sp m).length = m := by rw [h4, List.length_take]; omega
  have hgr : ∀ x ∈ gotT s.xs s.sp m, 0 ≤ x ∧ x < 256 := by rw [h4]; exact fun x hx => hb x (List.mem_of_mem_take hx)
  have hxs : s.xs = gotT s.xs s.sp m ++ (xT s m).xs := by
    show _ = _ ++ restT s.xs s.sp m
    rw [h4, h5, List.take_append_drop]
  have hxv : xS s m = if (gotT s.xs s.sp m).isEmpty || noText (gotT s.xs s.sp m) m then ByteArray.empty else strOfNums (((gotT s.xs s.sp m).take (1 + ((gotT s.xs s.sp m).getD 0 0).toNat)).drop 1) := by
    unfold xS textV
    rw [badX_mid h1]
  have hno := h0.2
  generalize gotT s.xs s.sp m = g at hgl hgr hxs hxv hno
  match g, hgl with
  | [], hgl => exact absurd hgl (by simp; omega)
  | x :: g', hgl =>
    have he : (x :: g').isEmpty = false := rfl
    rw [he] at hxv hno
    have hno2 : noText (x :: g') m = false := by simpa using hno
    rw [hno2, if_neg (by simp)] at hxv
    have hgd : (x :: g').getD 0 0 = x := rfl
    unfold noText at hno2
    rw [hgd, Bool.or_eq_false_iff] at hno2
    rw [hgd] at hxv
    obtain ⟨z, rfl⟩ := Int.eq_ofNat_of_zero_le (hgr x (List.mem_cons_self ..)).1
    have hz1 : z + 1 ≤ m := by have := of_decide_eq_false hno2.1; omega
    have hz2 : ((z : Int) :: g').drop (1 + (z : Int).toNat) = List.replicate (m - 1 - z) 0 := by
      have h6 : (((z : Int) :: g').drop (1 + (z : Int).toNat)).all (· == 0) = true := by simpa using hno2.2
      rw [all_zero h6, List.length_drop, hgl, Int.toNat_natCast]
      congr 1; omega
    rw [Int.toNat_natCast, Nat.add_comm, List.drop_succ_cons] at hz2
    rw [Int.toNat_natCast, Nat.add_comm, List.take_succ_cons, List.drop_succ_cons, List.drop_zero] at hxv
    have hgl' : g'.length + 1 = m := hgl
    have hsz : (xS s m).size = z := by rw [hxv, strOfNums_size, List.length_take]; omega
    refine ⟨by omega, ?_⟩
    rw [hxs]
    congr 1
    unfold textB
    rw [hsz, hxv, strB_strOf _ (fun y hy => hgr y (List.mem_cons_of_mem _ (List.mem_of_mem_take hy))), ← hz2, List.take_append_drop]

/-- The lists from i on, c of them. -/
def catR (f : Nat → List Int) (i : Nat) : Nat → List Int
  | 0 => []
  | c + 1 => f i ++ catR f (i + 1) c
theorem catL_add (f : Nat → List Int) : ∀ c i, catL f (i + c) = catL f i ++ catR f i c
  | 0, i => by simp [catR]
  | c + 1, i => by
    rw [show i + (c + 1) = (i + 1) + c by omega, catL_add f c (i + 1)]
    show (catL f i ++ f i) ++ _ = catL f i ++ (f i ++ _)
    rw [List.append_assoc]
theorem catL_catR (f : Nat → List Int) (n : Nat) : catL f n = catR f 0 n := by
  have := catL_add f n 0
  rw [Nat.zero_add] at this
  exact this
theorem catL_congr {f g : Nat → List Int} : ∀ n, (∀ i, i < n → f i = g i) → catL f n = catL g n
  | 0, _ => rfl
  | n + 1, h => by
    show catL f n ++ f n = catL g n ++ g n
    rw [catL_congr n (fun i hi => h i (by omega)), h n (by omega)]

/-! The numbers ahead, the times, the link, the attributes, the extents: what is left, and what is read. -/
def sN (bs : List Int) : Nat → St
  | 0 => ⟨bs, false⟩
  | i + 1 => nT (sN bs i) (nb i)
def hV (bs : List Int) (i : Nat) : Int := nS (sN bs i) (nb i)
/-- Is the time at hand in its one form? -/
def tOk (s : St) : Bool := formW (nS s 8).toNat == (nS s 8).toNat
def tT (b : Bool) (s : St) : St := ⟨(nT s 8).xs, (nT s 8).sp || (b && !tOk s)⟩
def tS (b : Bool) (s : St) : Nat := if b && !tOk s then 0 else (nS s 8).toNat
def sT (b : Bool) (bs : List Int) : Nat → St
  | 0 => sN bs 6
  | i + 1 => tT b (sT b bs i)
def tV (b : Bool) (bs : List Int) (i : Nat) : Nat := tS b (sT b bs i)
def sL (b : Bool) (bs : List Int) : St := xT (sT b bs 2) 65
def lV (b : Bool) (bs : List Int) : ByteArray := xS (sT b bs 2) 65
def cX (b : Bool) (bs : List Int) : Int := nS (sL b bs) 1
def sX (b : Bool) (bs : List Int) : Nat → St
  | 0 => nT (sL b bs) 1
  | i + 1 => xT (xT (sX b bs i) 13) 41
def xNm (b : Bool) (bs : List Int) (i : Nat) : ByteArray := xS (sX b bs i) 13
def xVl (b : Bool) (bs : List Int) (i : Nat) : ByteArray := xS (xT (sX b bs i) 13) 41
def few (b : Bool) (m : Nat) (c : Int) : Nat := if b then min c.toNat m else c.toNat
def nX (b : Bool) (bs : List Int) : Nat := few b 5 (cX b bs)
def cE (b : Bool) (bs : List Int) : Int := nS (sX b bs (nX b bs)) 1
def nT3 (s : St) : St := nT (nT (nT s 1) 1) 1
def sE (b : Bool) (bs : List Int) : Nat → St
  | 0 => nT (sX b bs (nX b bs)) 1
  | i + 1 => nT3 (sE b bs i)
def nE (b : Bool) (bs : List Int) : Nat := few b 41 (cE b bs)
def qF (b : Bool) (bs : List Int) (i : Nat) : Int := nS (sE b bs i) 1
def qH (b : Bool) (bs : List Int) (i : Nat) : Int := nS (nT (sE b bs i) 1) 1
def qN (b : Bool) (bs : List Int) (i : Nat) : Int := nS (nT (nT (sE b bs i) 1) 1) 1
/-- What is read. -/
def prs (b : Bool) (bs : List Int) : InoD :=
  ⟨hV bs 0, hV bs 1, hV bs 2, hV bs 3, hV bs 4, hV bs 5, tV b bs 0, tV b bs 1, lV b bs, nX b bs, nE b bs, qF b bs, qH b bs, qN b bs, xNm b bs, fun i => strB (xVl b bs i)⟩

theorem nb_mid (i : Nat) : 1 ≤ nb i ∧ nb i ≤ 8 := by
  match i with
  | 0 | 1 | 2 | 3 | 4 => simp [nb]
  | _ + 5 => simp [nb]
theorem sN_bytes {bs : List Int} (h : ∀ x ∈ bs, 0 ≤ x ∧ x < 256) : ∀ i, (sN bs i).bytes
  | 0 => h
  | i + 1 => nT_bytes (sN_bytes h i)
theorem sT_bytes {b : Bool} {bs : List Int} (h : ∀ x ∈ bs, 0 ≤ x ∧ x < 256) : ∀ i, (sT b bs i).bytes
  | 0 => sN_bytes h 6
  | i + 1 => fun x hx => sT_bytes h i x (restT_mem hx)
theorem sX_bytes {b : Bool} {bs : List Int} (h : ∀ x ∈ bs, 0 ≤ x ∧ x < 256) : ∀ i, (sX b bs i).bytes
  | 0 => nT_bytes (xT_bytes (sT_bytes h 2))
  | i + 1 => xT_bytes (xT_bytes (sX_bytes h i))
theorem sE_bytes {b : Bool} {bs : List Int} (h : ∀ x ∈ bs, 0 ≤ x ∧ x < 256) : ∀ i, (sE b bs i).bytes
  | 0 => nT_bytes (sX_bytes h _)
  | i + 1 => nT_bytes (nT_bytes (nT_bytes (sE_bytes h i)))

/-! What is read stands in the bytes, if nothing spoilt the reader. -/
theorem sN_sound {bs : List Int} (h : ∀ x ∈ bs, 0 ≤ x ∧ x < 256) : ∀ i, (sN bs i).sp = false → bs = catL (fun j => beB (hV bs j).toNat (nb j)) i ++ (sN bs i).xs
  | 0, _ => rfl
  | i + 1, hs => by
    obtain ⟨h1, h2⟩ := n_sound (nb_mid i).1 (nb_mid i).2 (sN_bytes h i) hs
    have ih := sN_sound h i h1
    show bs = (catL _ i ++ _) ++ _
    rw [List.append_assoc]
    exact ih.trans (by rw [h2]; rfl)
theorem tT_sound {s : St} (hb : s.bytes) (h : (tT true s).sp = false) : s.sp = false ∧ formW (tS true s) = tS true s ∧ tS true s = (nS s 8).toNat ∧ s.xs = beB (formW (tS true s)) 8 ++ (tT true s).xs := by
  have h0 : ((nT s 8).sp || (true && !tOk s)) = false := h
  rw [Bool.or_eq_false_iff] at h0
  have hk : tOk s = true := by simpa using h0.2
  obtain ⟨h1, h2⟩ := n_sound (by decide) (by decide) hb h0.1
  have e : tS true s = (nS s 8).toNat := by unfold tS; rw [hk]; rfl
  have hf : formW (tS true s) = tS true s := by rw [e]; unfold tOk at hk; simpa using hk
  refine ⟨h1, hf, e, ?_⟩
  rw [hf, e]
  exact h2
theorem sT_sound {bs : List Int} (h : ∀ x ∈ bs, 0 ≤ x ∧ x < 256) : ∀ i, (sT true bs i).sp = false → (sN bs 6).sp = false ∧ (sN bs 6).xs = catL (fun j => beB (formW (tV true bs j)) 8) i ++ (sT true bs i).xs
  | 0, hs => ⟨hs, rfl⟩
  | i + 1, hs => by
    obtain ⟨h1, _, _, h2⟩ := tT_sound (sT_bytes h i) hs
    obtain ⟨h3, h4⟩ := sT_sound h i h1
    refine ⟨h3, ?_⟩
    show _ = (catL _ i ++ _) ++ _
    rw [List.append_assoc]
    exact h4.trans (by rw [h2]; rfl)
theorem sX_sound {b : Bool} {bs : List Int} (h : ∀ x ∈ bs, 0 ≤ x ∧ x < 256) : ∀ i, (sX b bs i).sp = false → (nT (sL b bs) 1).sp = false ∧ (nT (sL b bs) 1).xs = xattL (xNm b bs) (fun i => strB (xVl b bs i)) i ++ (sX b bs i).xs
  | 0, hs => ⟨hs, rfl⟩
  | i + 1, hs => by
    obtain ⟨h1, _, h2⟩ := x_sound (by decide) (xT_bytes (sX_bytes h i)) hs
    obtain ⟨h1', _, h2'⟩ := x_sound (by decide) (sX_bytes h i) h1
    obtain ⟨h3, h4⟩ := sX_sound h i h1'
    refine ⟨h3, ?_⟩
    have e : strOfNums (strB (xVl b bs i)) = xVl b bs i := strOf_strB _
    show _ = (catL _ i ++ (textB (xNm b bs i) 13 ++ textB (strOfNums (strB (xVl b bs i))) 41)) ++ (xT (xT (sX b bs i) 13) 41).xs
    rw [e, List.append_assoc, List.append_assoc]
    exact h4.trans (by rw [h2', h2]; rfl)
theorem beB_byte {v : Int} (h0 : 0 ≤ v) (h1 : v < 256) : beB v.toNat 1 = [v] := by
  rw [beB_one _ (by omega), Int.toNat_of_nonneg h0]
theorem sE_sound {b : Bool} {bs : List Int} (h : ∀ x ∈ bs, 0 ≤ x ∧ x < 256) : ∀ i, (sE b bs i).sp = false → (nT (sX b bs (nX b bs)) 1).sp = false ∧ (nT (sX b bs (nX b bs)) 1).xs = extL (qF b bs) (qH b bs) (qN b bs) i ++ (sE b bs i).xs
  | 0, hs => ⟨hs, rfl⟩
  | i + 1, hs => by
    have b0 := sE_bytes (b := b) h i
    have b1 := nT_bytes (n := 1) b0
    have b2 := nT_bytes (n := 1) b1
    obtain ⟨h1, h2⟩ := n_sound (by decide) (by decide) b2 hs
    obtain ⟨h3, h4⟩ := n_sound (by decide) (by decide) b1 h1
    obtain ⟨h5, h6⟩ := n_sound (by decide) (by decide) b0 h3
    obtain ⟨h7, h8⟩ := sE_sound h i h5
    have n0 := num_bd (n := 1) (by decide) (by decide) b0
    have n1 := num_bd (n := 1) (by decide) (by decide) b1
    have n2 := num_bd (n := 1) (by decide) (by decide) b2
    rw [beB_byte n0.1 n0.2] at h6
    rw [beB_byte n1.1 n1.2] at h4
    rw [beB_byte n2.1 n2.2] at h2
    refine ⟨h7, ?_⟩
    show _ = (catL _ i ++ [qF b bs i, qH b bs i, qN b bs i]) ++ _
    rw [List.append_assoc]
    exact h8.trans (by rw [h6, h4, h2]; rfl)
/-- All that was read, and what is left. -/
theorem prs_sound {bs : List Int} (h : ∀ x ∈ bs, 0 ≤ x ∧ x < 256) (hs : (sE true bs (nE true bs)).sp = false) :
    bs = ((((((headL (hV bs 0).toNat (hV bs 1).toNat (hV bs 2).toNat (hV bs 3).toNat (hV bs 4).toNat (hV bs 5).toNat 6 ++ timesL (tV true bs 0) (tV true bs 1) 2) ++ textB (lV true bs) 65) ++ beB (cX true bs).toNat 1) ++ xattL (xNm true bs) (fun i => strB (xVl true bs i)) (nX true bs)) ++ beB (cE true bs).toNat 1) ++ extL (qF true bs) (qH true bs) (qN true bs) (nE true bs)) ++ (sE true bs (nE true bs)).xs ∧
      (lV true bs).size + 1 ≤ 65 := by
  obtain ⟨h1, h2⟩ := sE_sound h _ hs
  obtain ⟨h3, h4⟩ := n_sound (by decide) (by decide) (sX_bytes h _) h1
  obtain ⟨h5, h6⟩ := sX_sound h _ h3
  obtain ⟨h7, h8⟩ := n_sound (by decide) (by decide) (xT_bytes (sT_bytes h 2)) h5
  obtain ⟨h9, h10, h11⟩ := x_sound (by decide) (sT_bytes h 2) h7
  obtain ⟨h12, h13⟩ := sT_sound h 2 h9
  have h14 := sN_sound h 6 h12
  have h8 : (sL true bs).xs = beB (cX true bs).toNat 1 ++ (nT (sL true bs) 1).xs := h8
  have h11 : (sT true bs 2).xs = textB (lV true bs) 65 ++ (sL true bs).xs := h11
  have h4 : (sX true bs (nX true bs)).xs = beB (cE true bs).toNat 1 ++ (nT (sX true bs (nX true bs)) 1).xs := h4
  refine ⟨?_, h10⟩
  have e1 : headL (hV bs 0).toNat (hV bs 1).toNat (hV bs 2).toNat (hV bs 3).toNat (hV bs 4).toNat (hV bs 5).toNat 6 = catL (fun j => beB (hV bs j).toNat (nb j)) 6 := rfl
  have e2 : timesL (tV true bs 0) (tV true bs 1) 2 = catL (fun j => beB (formW (tV true bs j)) 8) 2 := rfl
  rw [e1, e2]
  simp only [List.append_assoc]
  exact h14.trans (by rw [h13, h11, h8, h6, h4, h2])

/-! What was written is read back. -/
theorem sN_good {f : Nat → Nat} {ys : List Int} (hf : ∀ i, i < 6 → f i < 256 ^ nb i) : ∀ i, i ≤ 6 → sN (catR (fun j => beB (f j) (nb j)) 0 6 ++ ys) i = ⟨catR (fun j => beB (f j) (nb j)) i (6 - i) ++ ys, false⟩
  | 0, _ => rfl
  | i + 1, hi => by
    have ih := sN_good (ys := ys) hf i (by omega)
    show nT (sN _ i) (nb i) = _
    rw [ih, show 6 - i = (6 - (i + 1)) + 1 by omega]
    show nT ⟨(beB (f i) (nb i) ++ catR _ (i + 1) _) ++ ys, false⟩ (nb i) = _
    rw [List.append_assoc]
    exact (n_good (nb_mid i).1 (nb_mid i).2 (hf i (by omega))).2
theorem hV_good {f : Nat → Nat} {ys : List Int} (hf : ∀ i, i < 6 → f i < 256 ^ nb i) (i : Nat) (hi : i < 6) : hV (catR (fun j => beB (f j) (nb j)) 0 6 ++ ys) i = f i := by
  unfold hV
  rw [sN_good hf i (by omega), show 6 - i = (6 - (i + 1)) + 1 by omega]
  show nS ⟨(beB (f i) (nb i) ++ catR _ (i + 1) _) ++ ys, false⟩ (nb i) = _
  rw [List.append_assoc]
  exact (n_good (nb_mid i).1 (nb_mid i).2 (hf i hi)).1
theorem t_good {b : Bool} {t : Nat} {ys : List Int} (ht : t < 256 ^ 8) (hf : formW t = t) : tT b ⟨beB t 8 ++ ys, false⟩ = ⟨ys, false⟩ ∧ tS b ⟨beB t 8 ++ ys, false⟩ = t := by
  obtain ⟨h1, h2⟩ := n_good (ys := ys) (by decide) (by decide) ht
  have hk : tOk ⟨beB t 8 ++ ys, false⟩ = true := by
    unfold tOk
    rw [h1, Int.toNat_natCast, hf]; simp
  unfold tT tS
  rw [h1, h2, hk]
  cases b <;> exact ⟨rfl, by simp⟩
theorem sX_good {b : Bool} {bs : List Int} {XN : Nat → ByteArray} {VB : Nat → List Int} {ys : List Int} (n : Nat) (h0 : nT (sL b bs) 1 = ⟨catR (fun i => textB (XN i) 13 ++ textB (strOfNums (VB i)) 41) 0 n ++ ys, false⟩) (hx : ∀ i, i < n → (XN i).size ≤ 12 ∧ (VB i).length ≤ 40) :
    ∀ i, i ≤ n → sX b bs i = ⟨catR (fun i => textB (XN i) 13 ++ textB (strOfNums (VB i)) 41) i (n - i) ++ ys, false⟩
  | 0, _ => h0
  | i + 1, hi => by
    have ih := sX_good n h0 hx i (by omega)
    obtain ⟨h1, h2⟩ := hx i (by omega)
    show xT (xT (sX b bs i) 13) 41 = _
    rw [ih, show n - i = (n - (i + 1)) + 1 by omega]
    show xT (xT ⟨((textB (XN i) 13 ++ textB (strOfNums (VB i)) 41) ++ catR _ (i + 1) _) ++ ys, false⟩ 13) 41 = _
    rw [List.append_assoc, List.append_assoc, (x_good (by omega)).2, (x_good (by rw [strOfNums_size]; omega)).2]
theorem sX_read {b : Bool} {bs : List Int} {XN : Nat → ByteArray} {VB : Nat → List Int} {ys : List Int} (n : Nat) (h0 : nT (sL b bs) 1 = ⟨catR (fun i => textB (XN i) 13 ++ textB (strOfNums (VB i)) 41) 0 n ++ ys, false⟩) (hx : ∀ i, i < n → (XN i).size ≤ 12 ∧ (VB i).length ≤ 40) (i : Nat) (hi : i < n) :
    xNm b bs i = XN i ∧ xVl b bs i = strOfNums (VB i) := by
  obtain ⟨h1, h2⟩ := hx i hi
  unfold xNm xVl
  rw [sX_good n h0 hx i (by omega), show n - i = (n - (i + 1)) + 1 by omega]
  show xS ⟨((textB (XN i) 13 ++ textB (strOfNums (VB i)) 41) ++ catR _ (i + 1) _) ++ ys, false⟩ 13 = _ ∧ xS (xT ⟨((textB (XN i) 13 ++ textB (strOfNums (VB i)) 41) ++ catR _ (i + 1) _) ++ ys, false⟩ 13) 41 = _
  rw [List.append_assoc, List.append_assoc, (x_good (by omega)).2, (x_good (by omega)).1, (x_good (by rw [strOfNums_size]; omega)).1]
  exact ⟨rfl, rfl⟩
theorem byte_good {x : Int} {ys : List Int} (h0 : 0 ≤ x) (h1 : x < 256) : nS ⟨x :: ys, false⟩ 1 = x ∧ nT ⟨x :: ys, false⟩ 1 = ⟨ys, false⟩ := by
  obtain ⟨v, rfl⟩ := Int.eq_ofNat_of_zero_le h0
  have := n_good (v := v) (n := 1) (ys := ys) (by decide) (by decide) (by omega)
  rw [beB_one v (by omega)] at this
  exact this
theorem sE_good {b : Bool} {bs : List Int} {F H N : Nat → Int} {ys : List Int} (n : Nat) (h0 : nT (sX b bs (nX b bs)) 1 = ⟨catR (fun i => [F i, H i, N i]) 0 n ++ ys, false⟩) (hx : ∀ i, i < n → (0 ≤ F i ∧ F i < 256) ∧ (0 ≤ H i ∧ H i < 256) ∧ (0 ≤ N i ∧ N i < 256)) :
    ∀ i, i ≤ n → sE b bs i = ⟨catR (fun i => [F i, H i, N i]) i (n - i) ++ ys, false⟩
  | 0, _ => h0
  | i + 1, hi => by
    have ih := sE_good n h0 hx i (by omega)
    obtain ⟨h1, h2, h3⟩ := hx i (by omega)
    show nT (nT (nT (sE b bs i) 1) 1) 1 = _
    rw [ih, show n - i = (n - (i + 1)) + 1 by omega]
    show nT (nT (nT ⟨F i :: H i :: N i :: (catR _ (i + 1) _ ++ ys), false⟩ 1) 1) 1 = _
    rw [(byte_good h1.1 h1.2).2, (byte_good h2.1 h2.2).2, (byte_good h3.1 h3.2).2]
theorem sE_read {b : Bool} {bs : List Int} {F H N : Nat → Int} {ys : List Int} (n : Nat) (h0 : nT (sX b bs (nX b bs)) 1 = ⟨catR (fun i => [F i, H i, N i]) 0 n ++ ys, false⟩) (hx : ∀ i, i < n → (0 ≤ F i ∧ F i < 256) ∧ (0 ≤ H i ∧ H i < 256) ∧ (0 ≤ N i ∧ N i < 256)) (i : Nat) (hi : i < n) :
    qF b bs i = F i ∧ qH b bs i = H i ∧ qN b bs i = N i := by
  obtain ⟨h1, h2, h3⟩ := hx i hi
  unfold qF qH qN
  rw [sE_good n h0 hx i (by omega), show n - i = (n - (i + 1)) + 1 by omega]
  show nS ⟨F i :: H i :: N i :: (catR _ (i + 1) _ ++ ys), false⟩ 1 = _ ∧ nS (nT ⟨F i :: H i :: N i :: (catR _ (i + 1) _ ++ ys), false⟩ 1) 1 = _ ∧ nS (nT (nT ⟨F i :: H i :: N i :: (catR _ (i + 1) _ ++ ys), false⟩ 1) 1) 1 = _
  rw [(byte_good h1.1 h1.2).2, (byte_good h2.1 h2.2).2, (byte_good h1.1 h1.2).1, (byte_good h2.1 h2.2).1, (byte_good h3.1 h3.2).1]
  exact ⟨rfl, rfl, rfl⟩
end Go.Proofs.Ytebnekpccdcnmaa
