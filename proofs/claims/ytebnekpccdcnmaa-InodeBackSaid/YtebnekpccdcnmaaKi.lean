/- The layer inode, plainly: a payload leads back to what it was made of, and only a payload is taken. -/
import Derived.Test.YtebnekpccdcnmaaKh
namespace Go.Proofs.Ytebnekpccdcnmaa
set_option linter.unusedVariables false
set_option linter.unusedSimpArgs false
open Go.RowKit

theorem RightP.same {m : Nat} {F H N F' H' N' : Nat → Int} (h : RightP m F H N) (he : ∀ i, i < m → F i = F' i ∧ H i = H' i ∧ N i = N' i) : RightP m F' H' N' := by
  refine ⟨fun i hi => ?_, fun i hi => ?_, fun k i hk hi => ?_⟩
  · obtain ⟨e1, e2, e3⟩ := he i hi
    rw [← e1, ← e2, ← e3]; exact h.one i hi
  · obtain ⟨e1, e2, e3⟩ := he i (by omega)
    obtain ⟨e4, e5, e6⟩ := he (i + 1) hi
    rw [← e1, ← e2, ← e3, ← e4, ← e5]; exact h.next i hi
  · obtain ⟨e1, e2, e3⟩ := he i hi
    obtain ⟨e4, e5, e6⟩ := he k (by omega)
    rw [← e2, ← e3, ← e5, ← e6]; exact h.apart k i hk hi
theorem rgt_same {m : Nat} {F H N F' H' N' : Nat → Int} (he : ∀ i, i < m → F i = F' i ∧ H i = H' i ∧ N i = N' i) : rgt m F H N = rgt m F' H' N' := by
  have he' : ∀ i, i < m → F' i = F i ∧ H' i = H i ∧ N' i = N i := fun i hi => ⟨(he i hi).1.symm, (he i hi).2.1.symm, (he i hi).2.2.symm⟩
  by_cases h : Right m F H N
  · rw [rgt_good h, rgt_good ⟨h.1, h.2.same he⟩]
  · rw [rgt_bad h, rgt_bad (fun h' => h ⟨h'.1, h'.2.same he'⟩)]
theorem XGood.same {n : Nat} {N N' : Nat → ByteArray} {VN VN' : Nat → Nat} (h : XGood n N VN) (he : ∀ i, i < n → N i = N' i ∧ VN i = VN' i) : XGood n N' VN' := by
  intro i hi
  obtain ⟨h1, h2⟩ := h i hi
  obtain ⟨e1, e2⟩ := he i hi
  refine ⟨by rw [← e1, ← e2]; exact h1, fun i' hi' => ?_⟩
  rw [← (he i' (by omega)).1, ← e1]; exact h2 i' hi'
theorem xrgt_same {n : Nat} {N N' : Nat → ByteArray} {VN VN' : Nat → Nat} (he : ∀ i, i < n → N i = N' i ∧ VN i = VN' i) : xrgt n N VN = xrgt n N' VN' := by
  by_cases h : n ≤ 4 ∧ XGood n N VN
  · rw [xrgt_good h, xrgt_good ⟨h.1, h.2.same he⟩]
  · rw [xrgt_bad h, xrgt_bad (fun h' => h ⟨h'.1, h'.2.same fun i hi => ⟨(he i hi).1.symm, (he i hi).2.symm⟩⟩)]
theorem endOk_same {s : Int} {F N F' N' : Nat → Int} : ∀ {en : Nat}, (∀ i, i < en → F i = F' i ∧ N i = N' i) → endOk s F N en = endOk s F' N' en
  | 0, _ => rfl
  | i + 1, h => by
    show decide (F i + N i ≤ (s + 440 - 1).tdiv 440) = decide (F' i + N' i ≤ (s + 440 - 1).tdiv 440)
    rw [(h i (by omega)).1, (h i (by omega)).2]
theorem right_same {D E : InoD} (h : SameD D E) : rightD D = rightD E := by
  obtain ⟨k, m, u, g, l, s, t0, t1, ln, xn, en, F, H, N, XN, VB⟩ := D
  obtain ⟨k', m', u', g', l', s', t0', t1', ln', xn', en', F', H', N', XN', VB'⟩ := E
  obtain ⟨rfl, rfl, rfl, rfl, rfl, rfl, rfl, rfl, rfl, rfl, rfl, s12, s13⟩ := h
  have s12 : ∀ i, i < xn → XN i = XN' i ∧ VB i = VB' i := s12
  have s13 : ∀ i, i < en → F i = F' i ∧ H i = H' i ∧ N i = N' i := s13
  unfold rightD rightB
  dsimp only
  rw [rgt_same s13, endOk_same (fun i hi => ⟨(s13 i hi).1, (s13 i hi).2.2⟩), xrgt_same (VN := InoD.VN ⟨k, m, u, g, l, s, t0, t1, ln, xn, en, F, H, N, XN, VB⟩) (VN' := InoD.VN ⟨k, m, u, g, l, s, t0, t1, ln, xn, en, F', H', N', XN', VB'⟩) (fun i hi => ⟨(s12 i hi).1, by show (VB i).length = (VB' i).length; rw [(s12 i hi).2]⟩)]
theorem pay_same {D E : InoD} (h : SameD D E) : payD D = payD E := by
  obtain ⟨k, m, u, g, l, s, t0, t1, ln, xn, en, F, H, N, XN, VB⟩ := D
  obtain ⟨k', m', u', g', l', s', t0', t1', ln', xn', en', F', H', N', XN', VB'⟩ := E
  obtain ⟨rfl, rfl, rfl, rfl, rfl, rfl, rfl, rfl, rfl, rfl, rfl, s12, s13⟩ := h
  have s12 : ∀ i, i < xn → XN i = XN' i ∧ VB i = VB' i := s12
  have s13 : ∀ i, i < en → F i = F' i ∧ H i = H' i ∧ N i = N' i := s13
  unfold payD payL bodyL xattL extL
  dsimp only
  rw [catL_congr xn (fun i hi => by rw [(s12 i hi).1, (s12 i hi).2] : ∀ i, i < xn → textB (XN i) 13 ++ textB (strOfNums (VB i)) 41 = textB (XN' i) 13 ++ textB (strOfNums (VB' i)) 41), catL_congr en (fun i hi => by rw [(s13 i hi).1, (s13 i hi).2.1, (s13 i hi).2.2] : ∀ i, i < en → [F i, H i, N i] = [F' i, H' i, N' i])]

/-- What a right inode fits in. -/
theorem right_fitsD {D : InoD} (h : rightD D = true) : ∃ k m u g l s : Nat, D.k = k ∧ D.m = m ∧ D.u = u ∧ D.g = g ∧ D.l = l ∧ D.s = s ∧ Fits k m u g l s D.t0 D.t1 D.ln D.xn D.en D.F D.H D.N D.XN D.VN := right_fits h
theorem right_times {D : InoD} (h : rightD D = true) : formW D.t0 = D.t0 ∧ formW D.t1 = D.t1 := by
  unfold rightD rightB at h
  rcases Bool.or_eq_true _ _ ▸ h with h | h
  · unfold freeB at h
    simp only [Bool.and_eq_true, beq_iff_eq] at h
    obtain ⟨_, _, _, _, _, _, h6, h7, _⟩ := h
    have e0 : D.t0 = 0 := by omega
    have e1 : D.t1 = 0 := by omega
    rw [e0, e1, form0]; exact ⟨rfl, rfl⟩
  · simp only [Bool.and_eq_true] at h
    obtain ⟨⟨⟨_, h1⟩, h2⟩, _⟩ := h
    unfold timeB at h1 h2
    simp only [beq_iff_eq] at h1 h2
    exact ⟨by omega, by omega⟩
theorem strOf_inj {a b : List Int} (ha : ∀ x ∈ a, 0 ≤ x ∧ x < 256) (h : strOfNums a = strOfNums b) (hb : ∀ x ∈ b, 0 ≤ x ∧ x < 256) : a = b := by
  have := congrArg strB h
  rwa [strB_strOf a ha, strB_strOf b hb] at this
/-- The values of the attributes are bytes. -/
def InoD.bytes (D : InoD) : Prop := ∀ i, i < D.xn → ∀ x ∈ D.VB i, 0 ≤ x ∧ x < 256
theorem InoM.bytes {w : World} {B : Nat} {v : Value} {D : InoD} (h : InoM w B v D) : D.bytes := fun i hi => by
  obtain ⟨xa, ea, xc, ec, L, off, L', off', VA, VC, hv, he, hx, hvb, h1, h2⟩ := h
  obtain ⟨VL, VO, _, hb⟩ := hvb i hi
  exact hb.range
def bodD (D : InoD) : List Int := bodyL D.k.toNat D.m.toNat D.u.toNat D.g.toNat D.l.toNat D.s.toNat D.t0 D.t1 D.ln D.xn D.en D.F D.H D.N D.XN D.VB
theorem payD_eq (D : InoD) : payD D = bodD D ++ List.replicate (440 - (bodD D).length) 0 := rfl
theorem bod_len {D : InoD} (h : rightD D = true) : (bodD D).length = 95 + D.xn * 54 + D.en * 3 ∧ D.xn ≤ 4 ∧ D.en ≤ 40 := by
  obtain ⟨k, m, u, g, l, s, h1, h2, h3, h4, h5, h6, hf⟩ := right_fitsD h
  have hx := hf.xn4
  have he := hf.ex.1
  refine ⟨?_, hx, he⟩
  unfold bodD bodyL
  have h7 := xatt_len D.XN D.VB D.xn (fun j hj => ⟨(hf.xs j hj).1, by rw [strOfNums_size]; exact (hf.xs j hj).2⟩)
  simp only [List.length_append, head_len, times_len, textB_len D.ln 65 (by have := hf.ln64; omega), beB_len, h7, ext_len]
  omega
theorem times2 (t0 t1 : Nat) : timesL t0 t1 2 = beB (formW t0) 8 ++ beB (formW t1) 8 := by
  unfold timesL
  simp [catL, tv]
/-- A payload leads back to what it was made of. -/
theorem prs_good {D : InoD} (h : rightD D = true) (hw : D.wide) (hbt : D.bytes) (b : Bool) :
    SameD D (prs b (payD D)) ∧ sE b (payD D) (nE b (payD D)) = ⟨List.replicate (440 - (bodD D).length) 0, false⟩ ∧ cX b (payD D) = D.xn ∧ cE b (payD D) = D.en ∧ (sE b (payD D) 0).sp = false := by
  obtain ⟨hw0, hw1⟩ := hw
  obtain ⟨tf0, tf1⟩ := right_times h
  obtain ⟨k, m, u, g, l, s, h1, h2, h3, h4, h5, h6, hf⟩ := right_fitsD h
  have hx4 := hf.xn4
  have he40 := hf.ex.1
  generalize hZ : List.replicate (440 - (bodD D).length) (0 : Int) = Z
  have hfv : ∀ i, i < 6 → fv k m u g l s i < 256 ^ nb i := fun i _ => by
    have := (fv_fits hf i).1
    rwa [Nat.pow_mul] at this
  obtain ⟨R4, hR4⟩ : ∃ R, R = catR (fun i => [D.F i, D.H i, D.N i]) 0 D.en ++ Z := ⟨_, rfl⟩
  obtain ⟨R3, hR3⟩ : ∃ R, R = beB D.en 1 ++ R4 := ⟨_, rfl⟩
  obtain ⟨R2, hR2⟩ : ∃ R, R = catR (fun i => textB (D.XN i) 13 ++ textB (strOfNums (D.VB i)) 41) 0 D.xn ++ R3 := ⟨_, rfl⟩
  obtain ⟨R1, hR1⟩ : ∃ R, R = textB D.ln 65 ++ (beB D.xn 1 ++ R2) := ⟨_, rfl⟩
  have hbs : payD D = catR (fun j => beB (fv k m u g l s j) (nb j)) 0 6 ++ (beB D.t0 8 ++ (beB D.t1 8 ++ R1)) := by
    rw [payD_eq, hZ, hR1, hR2, hR3, hR4]
    unfold bodD bodyL
    rw [h1, h2, h3, h4, h5, h6, Int.toNat_natCast, Int.toNat_natCast, Int.toNat_natCast, Int.toNat_natCast, Int.toNat_natCast, Int.toNat_natCast, show headL k m u g l s 6 = catR (fun j => beB (fv k m u g l s j) (nb j)) 0 6 from catL_catR _ 6,
      show xattL D.XN D.VB D.xn = catR (fun i => textB (D.XN i) 13 ++ textB (strOfNums (D.VB i)) 41) 0 D.xn from catL_catR _ _, show extL D.F D.H D.N D.en = catR (fun i => [D.F i, D.H i, D.N i]) 0 D.en from catL_catR _ _, times2, tf0, tf1]
    generalize catR (fun j => beB (fv k m u g l s j) (nb j)) 0 6 = A1
    simp only [List.append_assoc]
  generalize payD D = bs at hbs ⊢
  have e6 : sN bs 6 = ⟨beB D.t0 8 ++ (beB D.t1 8 ++ R1), false⟩ := by rw [hbs, sN_good hfv 6 (Nat.le_refl _)]; rfl
  have ehv : ∀ i, i < 6 → hV bs i = fv k m u g l s i := fun i hi => by rw [hbs]; exact hV_good hfv i hi
  have hw0' : D.t0 < 256 ^ 8 := hw0
  have hw1' : D.t1 < 256 ^ 8 := hw1
  have eT1 : sT b bs 1 = ⟨beB D.t1 8 ++ R1, false⟩ := by show tT b (sN bs 6) = _; rw [e6]; exact (t_good hw0' tf0).1
  have eT2 : sT b bs 2 = ⟨R1, false⟩ := by show tT b (sT b bs 1) = _; rw [eT1]; exact (t_good hw1' tf1).1
  have eV0 : tV b bs 0 = D.t0 := by show tS b (sN bs 6) = _; rw [e6]; exact (t_good hw0' tf0).2
  have eV1 : tV b bs 1 = D.t1 := by show tS b (sT b bs 1) = _; rw [eT1]; exact (t_good hw1' tf1).2
  have hln := hf.ln64
  have eL : sL b bs = ⟨beB D.xn 1 ++ R2, false⟩ := by unfold sL; rw [eT2, hR1]; exact (x_good (by omega)).2
  have eLV : lV b bs = D.ln := by unfold lV; rw [eT2, hR1]; exact (x_good (by omega)).1
  have ecx : cX b bs = D.xn := by unfold cX; rw [eL]; exact (n_good (by decide) (by decide) (by omega)).1
  have enx : nX b bs = D.xn := by
    unfold nX few; rw [ecx, Int.toNat_natCast]
    cases b <;> simp; omega
  have eX0 : nT (sL b bs) 1 = ⟨catR (fun i => textB (D.XN i) 13 ++ textB (strOfNums (D.VB i)) 41) 0 D.xn ++ R3, false⟩ := by rw [eL, ← hR2]; exact (n_good (by decide) (by decide) (by omega)).2
  have hxs : ∀ i, i < D.xn → (D.XN i).size ≤ 12 ∧ (D.VB i).length ≤ 40 := fun i hi => hf.xs i hi
  have eXn : sX b bs (nX b bs) = ⟨R3, false⟩ := by
    rw [enx, sX_good D.xn eX0 hxs D.xn (Nat.le_refl _), Nat.sub_self]; rfl
  have ece : cE b bs = D.en := by unfold cE; rw [eXn, hR3]; exact (n_good (by decide) (by decide) (by omega)).1
  have ene : nE b bs = D.en := by
    unfold nE few; rw [ece, Int.toNat_natCast]
    cases b <;> simp; omega
  have eE0 : nT (sX b bs (nX b bs)) 1 = ⟨catR (fun i => [D.F i, D.H i, D.N i]) 0 D.en ++ Z, false⟩ := by rw [eXn, hR3, ← hR4]; exact (n_good (by decide) (by decide) (by omega)).2
  have hes : ∀ i, i < D.en → (0 ≤ D.F i ∧ D.F i < 256) ∧ (0 ≤ D.H i ∧ D.H i < 256) ∧ (0 ≤ D.N i ∧ D.N i < 256) := fun i hi => by
    obtain ⟨o1, o2, o3, o4, o5, o6⟩ := hf.ex.2.one i hi
    omega
  refine ⟨⟨?_, ?_, ?_, ?_, ?_, ?_, eV0.symm, eV1.symm, eLV.symm, enx.symm, ene.symm, fun i hi => ?_, fun i hi => ?_⟩, ?_, ecx, ece, ?_⟩
  · rw [h1]; exact (ehv 0 (by omega)).symm
  · rw [h2]; exact (ehv 1 (by omega)).symm
  · rw [h3]; exact (ehv 2 (by omega)).symm
  · rw [h4]; exact (ehv 3 (by omega)).symm
  · rw [h5]; exact (ehv 4 (by omega)).symm
  · rw [h6]; exact (ehv 5 (by omega)).symm
  · obtain ⟨r1, r2⟩ := sX_read D.xn eX0 hxs i hi
    refine ⟨r1.symm, ?_⟩
    show D.VB i = strB (xVl b bs i)
    rw [r2, strB_strOf _ (hbt i hi)]
  · obtain ⟨r1, r2, r3⟩ := sE_read D.en eE0 hes i hi
    exact ⟨r1.symm, r2.symm, r3.symm⟩
  · rw [ene, sE_good D.en eE0 hes D.en (Nat.le_refl _), Nat.sub_self]; rfl
  · show (nT (sX b bs (nX b bs)) 1).sp = false
    rw [eE0]
/-- Two right inodes of one payload hold the same. -/
theorem pay_inj {D E : InoD} (hD : rightD D = true) (wD : D.wide) (bD : D.bytes) (hE : rightD E = true) (wE : E.wide) (bE : E.bytes) (h : payD D = payD E) : SameD D E := by
  have h1 := (prs_good hD wD bD true).1
  have h2 := (prs_good hE wE bE true).1
  rw [← h] at h2
  obtain ⟨a1, a2, a3, a4, a5, a6, a7, a8, a9, a10, a11, a12, a13⟩ := h1
  obtain ⟨b1, b2, b3, b4, b5, b6, b7, b8, b9, b10, b11, b12, b13⟩ := h2
  exact ⟨a1.trans b1.symm, a2.trans b2.symm, a3.trans b3.symm, a4.trans b4.symm, a5.trans b5.symm, a6.trans b6.symm, a7.trans b7.symm, a8.trans b8.symm, a9.trans b9.symm, a10.trans b10.symm, a11.trans b11.symm,
    fun i hi => by
      have hi' : i < E.xn := by rw [b10, ← a10]; exact hi
      exact ⟨(a12 i hi).1.trans (b12 i hi').1.symm, (a12 i hi).2.trans (b12 i hi').2.symm⟩,
    fun i hi => by
      have hi' : i < E.en := by rw [b11, ← a11]; exact hi
      exact ⟨(a13 i hi).1.trans (b13 i hi').1.symm, (a13 i hi).2.1.trans (b13 i hi').2.1.symm, (a13 i hi).2.2.trans (b13 i hi').2.2.symm⟩⟩
theorem prs_wide {b : Bool} {bs : List Int} (h : ∀ x ∈ bs, 0 ≤ x ∧ x < 256) : (prs b bs).wide := by
  have hv : ∀ i, W (tV b bs i) := fun i => by
    have := num_bd (n := 8) (by decide) (by decide) (sT_bytes (b := b) h i)
    unfold W tV tS
    split <;> omega
  exact ⟨hv 0, hv 1⟩
theorem prs_bytes (b : Bool) (bs : List Int) : (prs b bs).bytes := fun i _ => strB_range _
/-- The noughts behind. -/
def zT (s : St) (n : Int) : St := ⟨restT s.xs s.sp n, zerosBad s.xs s.sp n⟩
def zN (xn en : Nat) : Int := max 0 (440 - (94 + (xn : Int) * 54 + 1 + 3 * (en : Int)))
/-- The program takes the bytes. -/
noncomputable def takes (bs : List Int) : Bool := (endV (zT (sE true bs (nE true bs)) (zN (nX true bs) (nE true bs))).xs (zT (sE true bs (nE true bs)) (zN (nX true bs) (nE true bs))).sp == 0) && (rightD (prs true bs) && !(hV bs 0 == 0 && !bs.all (· == 0)))
theorem zN_of {xn en : Nat} (hx : xn ≤ 4) (he : en ≤ 40) : zN xn en = ((440 - (95 + xn * 54 + en * 3) : Nat) : Int) := by unfold zN; omega
theorem takes_sound {bs : List Int} (h : ∀ x ∈ bs, 0 ≤ x ∧ x < 256) (hl : bs.length = 440) (ht : takes bs = true) : rightD (prs true bs) = true ∧ payD (prs true bs) = bs := by
  unfold takes at ht
  simp only [Bool.and_eq_true, beq_iff_eq] at ht
  obtain ⟨he, hr, _⟩ := ht
  refine ⟨hr, ?_⟩
  obtain ⟨hbl, hx4, he40⟩ := bod_len hr
  have hz := zN_of hx4 he40
  have hx4' : nX true bs ≤ 4 := hx4
  have he40' : nE true bs ≤ 40 := he40
  have hz' : zN (nX true bs) (nE true bs) = ((440 - (95 + nX true bs * 54 + nE true bs * 3) : Nat) : Int) := hz
  rw [hz'] at he
  obtain ⟨r, hrr⟩ : ∃ r, r = 440 - (95 + nX true bs * 54 + nE true bs * 3) := ⟨_, rfl⟩
  rw [← hrr] at he
  obtain ⟨sf, hsf⟩ : ∃ s, s = sE true bs (nE true bs) := ⟨_, rfl⟩
  rw [← hsf] at he
  unfold endV at he
  have he2 : ((zT sf r).sp || !(zT sf r).xs.isEmpty) = false := by
    cases hq : ((zT sf r).sp || !(zT sf r).xs.isEmpty)
    · rfl
    · rw [hq] at he; cases he
  rw [Bool.or_eq_false_iff] at he2
  obtain ⟨hz1, hz2⟩ := he2
  have hz3 : zerosBad sf.xs sf.sp r = false := hz1
  unfold zerosBad at hz3
  rw [Bool.or_eq_false_iff] at hz3
  obtain ⟨g1, g2, g3, g4⟩ := got_mid hz3.1
  have hz4 : (zT sf r).xs = [] := by simpa using hz2
  have hz5 : sf.xs.drop r = [] := by rw [← g4]; exact hz4
  have hz6 : sf.xs.take r = List.replicate r 0 := by
    have hall : (gotT sf.xs sf.sp r).all (· == 0) = true := by simpa using hz3.2
    rw [g3] at hall
    rw [all_zero hall, List.length_take]
    congr 1; omega
  have hz7 : sf.xs = List.replicate r 0 := by rw [← List.take_append_drop r sf.xs, hz5, hz6, List.append_nil]
  obtain ⟨hp, hln⟩ := prs_sound h (by rw [← hsf]; exact g1)
  rw [← hsf, hz7] at hp
  have ecx : (cX true bs).toNat = nX true bs := by
    have : nX true bs = min (cX true bs).toNat 5 := rfl
    omega
  have ece : (cE true bs).toNat = nE true bs := by
    have : nE true bs = min (cE true bs).toNat 41 := rfl
    omega
  rw [ecx, ece] at hp
  have hp2 : bs = bodD (prs true bs) ++ List.replicate r 0 := hp
  have hlen : (bodD (prs true bs)).length + r = 440 := by
    have := congrArg List.length hp2
    rw [List.length_append, List.length_replicate, hl] at this
    omega
  rw [payD_eq, show 440 - (bodD (prs true bs)).length = r by omega, ← hp2]
/-- The payload of a free inode is noughts. -/
theorem free_pay {D : InoD} (h : rightD D = true) (hk : D.k = 0) : (payD D).all (· == 0) = true := by
  have hn : noneB D.m D.u D.g D.l D.s D.t0 D.t1 D.ln D.xn D.en = true := by
    unfold rightD at h
    rw [hk, right_free] at h
    exact h
  unfold noneB at hn
  simp only [Bool.and_eq_true, beq_iff_eq] at hn
  obtain ⟨h1, h2, h3, h4, h5, h6, h7, h8, h9, h10⟩ := hn
  have e0 : D.t0 = 0 := by omega
  have e1 : D.t1 = 0 := by omega
  have ex : D.xn = 0 := by omega
  have ee : D.en = 0 := by omega
  have hls := isE_size _ h8
  have hsb : strB D.ln = [] := List.eq_nil_of_length_eq_zero (by rw [strB_len]; exact hls)
  have hb0 : ∀ n, (beB 0 n).all (· == 0) = true := fun n => by
    unfold beB
    simp
  rw [payD_eq]
  unfold bodD bodyL
  rw [hk, h1, h2, h3, h4, h5, e0, e1, ex, ee]
  have hh : (headL 0 0 0 0 0 0 6).all (· == 0) = true := by decide
  have ht : (timesL 0 0 2).all (· == 0) = true := by decide
  have hT : (textB D.ln 65).all (· == 0) = true := by
    unfold textB
    rw [hsb, hls]
    simp
  rw [Int.toNat_zero]
  have hX : (xattL D.XN D.VB 0) = [] := rfl
  have hE : (extL D.F D.H D.N 0) = [] := rfl
  have hR : ∀ n, (List.replicate n (0 : Int)).all (· == 0) = true := fun n => by simp
  rw [hX, hE]
  generalize headL 0 0 0 0 0 0 6 = A at hh ⊢
  generalize timesL 0 0 2 = A2 at ht ⊢
  generalize textB D.ln 65 = A3 at hT ⊢
  have hB := hb0 1
  generalize beB 0 1 = A4 at hB ⊢
  simp only [List.all_append, hh, ht, hT, hB, hR, List.all_nil, Bool.and_self]
theorem end_zeros (r : Nat) : endV (zT ⟨List.replicate r 0, false⟩ (r : Int)).xs (zT ⟨List.replicate r 0, false⟩ (r : Int)).sp = 0 := by
  have hl : (r : Int) = (List.replicate r (0 : Int)).length := by simp
  have g1 := gotT_app (List.replicate r (0 : Int)) [] r hl
  have g2 := badT_app (List.replicate r (0 : Int)) [] r hl
  have g3 := restT_app (List.replicate r (0 : Int)) [] r hl
  rw [List.append_nil] at g1 g2 g3
  have e : zT ⟨List.replicate r 0, false⟩ (r : Int) = ⟨[], false⟩ := by
    unfold zT zerosBad
    dsimp only
    rw [g1, g2, g3]
    simp
  rw [e]; rfl
theorem takes_of {bs : List Int} {s : St} {z : Int} (h1 : sE true bs (nE true bs) = s) (h2 : zN (nX true bs) (nE true bs) = z) (h3 : endV (zT s z).xs (zT s z).sp = 0) (h4 : rightD (prs true bs) = true) (h5 : (hV bs 0 == 0 && !bs.all (· == 0)) = false) : takes bs = true := by
  unfold takes
  rw [h1, h2, h3, h4, h5]; rfl
theorem prs_xn (b : Bool) (bs : List Int) : (prs b bs).xn = nX b bs := rfl
theorem prs_en (b : Bool) (bs : List Int) : (prs b bs).en = nE b bs := rfl
theorem prs_k (b : Bool) (bs : List Int) : (prs b bs).k = hV bs 0 := rfl
theorem takes_good {D : InoD} (h : rightD D = true) (hw : D.wide) (hb : D.bytes) : takes (payD D) = true := by
  have hp := prs_good h hw hb true
  have hfp := fun e => free_pay h e
  obtain ⟨hbl, hx4, he40⟩ := bod_len h
  generalize payD D = bs at hp hfp ⊢
  obtain ⟨h1, h2, h3, h4, _⟩ := hp
  have hnx := h1.xn
  have hne := h1.en
  have hk := h1.k
  have hr := right_same h1
  rw [prs_xn] at hnx
  rw [prs_en] at hne
  rw [prs_k] at hk
  rw [h] at hr
  have hz : zN (nX true bs) (nE true bs) = ((440 - (bodD D).length : Nat) : Int) := by rw [← hnx, ← hne, zN_of hx4 he40, hbl]
  generalize 440 - (bodD D).length = r at h2 hz
  refine takes_of h2 hz (end_zeros r) hr.symm ?_
  rw [← hk]
  by_cases e : D.k = 0
  · rw [hfp e]; simp
  · rw [beq_eq_false_iff_ne.2 e]; rfl
end Go.Proofs.Ytebnekpccdcnmaa
