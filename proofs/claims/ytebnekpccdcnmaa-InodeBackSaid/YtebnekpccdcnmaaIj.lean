/- Walks of the layer inode: Encode refuses; what the document fixes. -/
import Derived.Test.YtebnekpccdcnmaaIh
namespace Go.Proofs.Ytebnekpccdcnmaa
set_option linter.unusedVariables false
set_option linter.unusedSimpArgs false
open Go.RowKit

theorem xatt_len2 (XN : Nat → ByteArray) (VB : Nat → List Int) (n : Nat) (h : ∀ i, i < n → (XN i).size ≤ 12 ∧ (strOfNums (VB i)).size ≤ 40) : (xattL XN VB n).length = n * 54 :=
  catL_len _ _ _ fun i hi => by
    obtain ⟨h1, h2⟩ := h i hi
    show (textB (XN i) 13 ++ textB (strOfNums (VB i)) 41).length = 54
    rw [List.length_append, textB_len _ _ (by omega), textB_len _ _ (by omega)]

set_option maxRecDepth 100000 in
theorem encode_bad (k m u g l s : Int) (t0 t1 : Nat) (ln : ByteArray) (xa ea : Option Addr) (xn xc en ec L off L' off' : Nat) (F H N : Nat → Int) (XN : Nat → ByteArray) (VA : Nat → Option Addr) (VN VC : Nat → Nat) (w : World)
    (h : ExAt w L off ea en ec F H N) (hx : XaAt w L' off' xa xn xc XN VA VN VC) (hr : rightB k m u g l s t0 t1 ln xn en F H N XN VN = false) :
    Calls Try.prog 7 #[(Ino.mk k m u g l s t0 t1 ln xa xn xc ea en ec).val] w fun e w' => e = .returned (.tuple #[.slice none 0 0, .int .i64 3]) ∧ Below w.heap.size w w' := by
  unfold Ino.val
  dsimp only
  have hal : Below w.heap.size w (w.alloc (.cells #[.int .i64 k, .int .i64 m, .int .i64 u, .int .i64 g, .int .i64 l, .int .i64 s, .float .f64 t0, .float .f64 t1, .string ln, .slice xa xn xc, .slice ea en ec] 31)) := (Below.refl _ _).alloc (Nat.le_refl _) _
  have HW1 := Lib.hid hal
  have HE1 := Lib.hid (h.below hal)
  have HX1 := Lib.hid (hx.below hal)
  have HC : Hid (∀ w, ExAt w L off ea en ec F H N → XaAt w L' off' xa xn xc XN VA VN VC → Calls Try.prog 9 #[.agg #[.int .i64 k, .int .i64 m, .int .i64 u, .int .i64 g, .int .i64 l, .int .i64 s, .float .f64 t0, .float .f64 t1, .string ln, .slice xa xn xc, .slice ea en ec]] w fun e w' => e = .returned (.int .i64 3) ∧ Below w.heap.size w w') := fun w h hx => by
    have := check_ino k m u g l s t0 t1 ln xa ea xn xc en ec L off L' off' F H N XN VA VN VC w h hx
    rw [if_neg (by rw [hr]; simp)] at this
    exact this
  clear h hx hr hal
  go_enter Try.func7, Try.ntmps7
  go_wp2_with (go_at_call 9; refine (HC.out _ HE1.out HX1.out).mono ?_; rintro e w2 ⟨rfl, hb⟩; have HB2 := Lib.hid (HW1.out.trans (hb.mono HW1.out.size)); clear hb)
  go_ret2
  exact ⟨rfl, HB2.out⟩

theorem pay_len {k m u g l s : Nat} {t0 t1 : Nat} {ln : ByteArray} {xn en : Nat} {F H N : Nat → Int} {XN : Nat → ByteArray} {VB : Nat → List Int} {VN : Nat → Nat} (h : Fits k m u g l s t0 t1 ln xn en F H N XN VN) (hv : ∀ i, i < xn → (VB i).length = VN i) :
    (payL k m u g l s t0 t1 ln xn en F H N XN VB).length = 440 := by
  have h1 := xatt_len2 XN VB xn (fun j hj => ⟨(h.xs j hj).1, by rw [strOfNums_size, hv j hj]; exact (h.xs j hj).2⟩)
  have h2 := h.xn4
  have h3 := h.ex.1
  have hb : (bodyL k m u g l s t0 t1 ln xn en F H N XN VB).length ≤ 440 := by
    unfold bodyL
    simp only [List.length_append, head_len, times_len, textB_len ln 65 (by have := h.ln64; omega), beB_len, h1, ext_len]
    omega
  unfold payL
  rw [List.length_append, List.length_replicate]
  omega

def Z1 : Nat → Int := fun _ => 0
def ZN : Nat → ByteArray := fun _ => ByteArray.empty
def ZA : Nat → Option Addr := fun _ => none
def Z0 : Nat → Nat := fun _ => 0
def ZB : Nat → List Int := fun _ => []
theorem noEx (w : World) : ExAt w 0 0 none 0 0 Z1 Z1 Z1 := ⟨Nat.le_refl _, by omega, fun h => absurd h (Nat.lt_irrefl _)⟩
theorem noXa (w : World) : XaAt w 0 0 none 0 0 ZN ZA Z0 Z0 := ⟨Nat.le_refl _, by omega, fun h => absurd h (Nat.lt_irrefl _)⟩
theorem right0 : Right 0 Z1 Z1 Z1 := ⟨by omega, RightP.zero _ _ _⟩
theorem xright0 (N : Nat → ByteArray) (VN : Nat → Nat) : xrgt 0 N VN = true := xrgt_good ⟨by omega, XGood.zero _ _⟩
theorem form0 : formW 0 = 0 := by decide
theorem time0 : timeB 0 = true := by unfold timeB; rw [form0]; rfl
theorem fixed_right : rightB 1 420 0 0 1 0 0 0 ByteArray.empty 0 0 Z1 Z1 Z1 ZN Z0 = true := by
  unfold rightB
  have h1 : freeB 1 420 0 0 1 0 0 0 ByteArray.empty 0 0 = false := by unfold freeB; simp
  have h2 : goodB 1 420 0 0 1 0 = true := by decide
  have h3 : linkOk 1 0 ByteArray.empty 0 = true := by unfold linkOk; simp
  rw [rgt_good right0, xright0, time0, h1, h2, h3]
  rfl
theorem fixed_wrong : rightB 9 0 0 0 0 0 0 0 ByteArray.empty 0 0 Z1 Z1 Z1 ZN Z0 = false := by
  unfold rightB
  have : goodB 9 0 0 0 0 0 = false := by decide
  have h2 : freeB 9 0 0 0 0 0 0 0 ByteArray.empty 0 0 = false := by decide
  rw [this, h2]
  simp
theorem fixed_fits : Fits 1 420 0 0 1 0 0 0 ByteArray.empty 0 0 Z1 Z1 Z1 ZN Z0 :=
  ⟨by omega, by omega, by omega, by omega, by omega, by omega, by decide, by omega, fun i hi => absurd hi (Nat.not_lt_zero _), right0⟩
theorem fixed_head : strOfNums ((payL 1 420 0 0 1 0 0 0 ByteArray.empty 0 0 Z1 Z1 Z1 ZN ZB).take 12) = ⟨#[1, 1, 164, 0, 0, 0, 0, 1, 0, 0, 0, 0]⟩ := by decide +kernel

set_option maxRecDepth 100000 in
/-- What the document fixes. -/
theorem fixed_of (HE : Hid (∀ w, Calls Try.prog 7 #[.agg #[.int .i64 1, .int .i64 420, .int .i64 0, .int .i64 0, .int .i64 1, .int .i64 0, .float .f64 0, .float .f64 0, .string ⟨#[]⟩, .slice none 0 0, .slice none 0 0]] w fun e w' => ∃ v, e = .returned (.tuple #[v, .int .i64 0]) ∧ Bts w' w.heap.size v (payL 1 420 0 0 1 0 0 0 ByteArray.empty 0 0 Z1 Z1 Z1 ZN ZB) ∧ Below w.heap.size w w')) (w : World) : Calls Try.prog 8 #[] w fun e w' => e = .returned (.bool true) ∧ Below w.heap.size w w' := by
  have HC : Hid (∀ w, Calls Try.prog 9 #[.agg #[.int .i64 9, .int .i64 0, .int .i64 0, .int .i64 0, .int .i64 0, .int .i64 0, .float .f64 0, .float .f64 0, .string ⟨#[]⟩, .slice none 0 0, .slice none 0 0]] w fun e w' => e = .returned (.int .i64 3) ∧ Below w.heap.size w w') := fun w => by
    have := check_ino 9 0 0 0 0 0 0 0 ByteArray.empty none none 0 0 0 0 0 0 0 0 Z1 Z1 Z1 ZN ZA Z0 Z0 w (noEx w) (noXa w)
    rw [if_neg (by rw [fixed_wrong]; simp)] at this
    exact this
  have HPL : Hid ((payL 1 420 0 0 1 0 0 0 ByteArray.empty 0 0 Z1 Z1 Z1 ZN ZB).length = 440) := pay_len fixed_fits (fun i hi => absurd hi (Nat.not_lt_zero _))
  have HPH := Lib.hid fixed_head
  generalize payL 1 420 0 0 1 0 0 0 ByteArray.empty 0 0 Z1 Z1 Z1 ZN ZB = pay at HE HPL HPH
  go_enter Try.func8, Try.ntmps8
  go_upto_region 2 with (go_at_call 7; refine (HE.out _).mono ?_; rintro e w1 ⟨v, rfl, ⟨Lv, Ov, hLv, hv⟩, hb⟩; obtain ⟨av, cv, rfl, _⟩ := id hv; have HV := Lib.hid hv; have HB := Lib.hid hb; clear hb hv hLv)
  rw [HPL.out] at HV ⊢
  have ht := HV.out.take 12 (by omega) cv (by have := HV.out.len; omega) (by have := HV.out.len; unfold maxLen; omega)
  have hstr := Bts.run_str ⟨Lv, Ov, Nat.zero_le _, ht⟩ 32 9 5 Try.underlying32 Try.underlying5 Try.underlying9
  rw [HPH.out] at hstr
  have hcv : 12 ≤ cv := by have := HV.out.len; omega
  go_wp2_with (go_at_call 9; refine (HC.out _).mono ?_; rintro e w2 ⟨rfl, hb⟩; have HB2 := Lib.hid (HB.out.trans (hb.mono HB.out.size)); clear hb)
  go_ret
  exact ⟨rfl, HB2.out⟩
end Go.Proofs.Ytebnekpccdcnmaa
