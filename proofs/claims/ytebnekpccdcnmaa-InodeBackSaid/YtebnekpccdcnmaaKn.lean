/- Both Decodes, of any bytes; what they answer, compared. -/
import Derived.Test.YtebnekpccdcnmaaKm
namespace Go.Proofs.Ytebnekpccdcnmaa
set_option linter.unusedVariables false
set_option linter.unusedSimpArgs false
open Go.RowKit

theorem payD_len {D : InoD} (h : rightD D = true) : (payD D).length = 440 := by
  obtain ⟨h1, h2, h3⟩ := bod_len h
  rw [payD_eq, List.length_append, List.length_replicate]
  omega
theorem not_440 {bs : List Int} (h : bs.length ≠ 440) : ∀ D, rightD D = true → D.wide → D.bytes → payD D ≠ bs := fun D hD _ _ e => h (by rw [← e]; exact payD_len hD)

set_option maxRecDepth 100000 in
theorem decode_p (b0 : Option Addr) (n c L0 off0 : Nat) (bs : List Int) (w : World) (h : BtsAt w L0 off0 (.slice b0 n c) bs) : Calls Try.prog 14 #[.slice b0 n c] w (DecP bs w) := by
  by_cases hl : bs.length = 440
  · exact decode_440 b0 n c L0 off0 bs w h hl
  · have HN := Lib.hid (not_440 hl)
    have hn : n ≠ 440 := by have := h.len.1; omega
    have hn1 : ((n : Int) != 440) = true := by rw [bne_iff_ne]; omega
    have HAL : Hid (Below w.heap.size w (w.alloc (.cells #[.int .i64 0, .int .i64 0, .int .i64 0, .int .i64 0, .int .i64 0, .int .i64 0, .float .f64 0, .float .f64 0, .string ⟨#[]⟩, .slice none 0 0, .slice none 0 0] 31))) := (Below.refl _ _).alloc (Nat.le_refl _) _
    have HSI := Lib.hid infoIno
    have HZH : Hid ((w.alloc (.cells #[.int .i64 0, .int .i64 0, .int .i64 0, .int .i64 0, .int .i64 0, .int .i64 0, .float .f64 0, .float .f64 0, .string ⟨#[]⟩, .slice none 0 0, .slice none 0 0] 31)).heap[w.heap.size]? = some (.cells #[.int .i64 0, .int .i64 0, .int .i64 0, .int .i64 0, .int .i64 0, .int .i64 0, .float .f64 0, .float .f64 0, .string ⟨#[]⟩, .slice none 0 0, .slice none 0 0] 31 (0, 0))) := heap_alloc_new w _
    have HZ1 : Hid (Array.all (#[.int .i64 0, .int .i64 0, .int .i64 0, .int .i64 0, .int .i64 0, .int .i64 0, .float .f64 0, .float .f64 0, .string ⟨#[]⟩, .slice none 0 0, .slice none 0 0] : Array Value) (·.oneCell') = true) := by show _ = _; rw [← Array.all_toList]; rfl
    clear h hl hn
    go_enter Try.func14, Try.ntmps14
    go_upto_region 2 with fail
    generalize (w.alloc (.cells #[.int .i64 0, .int .i64 0, .int .i64 0, .int .i64 0, .int .i64 0, .int .i64 0, .float .f64 0, .float .f64 0, .string ⟨#[]⟩, .slice none 0 0, .slice none 0 0] 31)) = w1 at HAL HZH ⊢
    obtain ⟨Z, hZ⟩ : ∃ X, Hid (w.heap.size = X) := ⟨_, rfl⟩
    rw [hZ.out] at HZH HAL ⊢
    go_wp2_with ((refine wpList_store_row rfl 31 (.tmp 2) (.tmp 15) rfl Z #[.int .i64 0, .int .i64 0, .int .i64 0, .int .i64 0, .int .i64 0, .int .i64 0, .float .f64 0, .float .f64 0, .string ⟨#[]⟩, .slice none 0 0, .slice none 0 0] rfl rfl 31 _ HZH.out HSI.out rfl HZ1.out ?_))
    exact bodyPost_ret (v := .tuple #[.agg #[.int .i64 0, .int .i64 0, .int .i64 0, .int .i64 0, .int .i64 0, .int .i64 0, .float .f64 0, .float .f64 0, .string ⟨#[]⟩, .slice none 0 0, .slice none 0 0], .int .i64 12]) (results_row_tmp rfl _ _ Z 31 #[.int .i64 0, .int .i64 0, .int .i64 0, .int .i64 0, .int .i64 0, .int .i64 0, .float .f64 0, .float .f64 0, .string ⟨#[]⟩, .slice none 0 0, .slice none 0 0] (0, 0) _ rfl (setRow_heap w1 Z _ _ _ _ HZH.out) Try.underlying31 rfl HSI.out (.int .i64 12) rfl) rfl
      ⟨by rw [hZ.out]; exact HAL.out.grown grown_row (by have := lt_of_block HZH.out; omega) (fun k hk => by simp only [Option.some.injEq] at hk; omega), Or.inr ⟨HN.out, rfl⟩⟩
set_option maxRecDepth 100000 in
theorem refDecode_p (b0 : Option Addr) (n c L0 off0 : Nat) (bs : List Int) (w : World) (h : BtsAt w L0 off0 (.slice b0 n c) bs) : Calls Try.prog 15 #[.slice b0 n c] w (DecP bs w) := by
  by_cases hl : bs.length = 440
  · exact refDecode_440 b0 n c L0 off0 bs w h hl
  · have HN := Lib.hid (not_440 hl)
    have hn : n ≠ 440 := by have := h.len.1; omega
    have hn1 : ((n : Int) != 440) = true := by rw [bne_iff_ne]; omega
    have HAL : Hid (Below w.heap.size w (w.alloc (.cells #[.int .i64 0, .int .i64 0, .int .i64 0, .int .i64 0, .int .i64 0, .int .i64 0, .float .f64 0, .float .f64 0, .string ⟨#[]⟩, .slice none 0 0, .slice none 0 0] 31))) := (Below.refl _ _).alloc (Nat.le_refl _) _
    have HSI := Lib.hid infoIno
    have HZH : Hid ((w.alloc (.cells #[.int .i64 0, .int .i64 0, .int .i64 0, .int .i64 0, .int .i64 0, .int .i64 0, .float .f64 0, .float .f64 0, .string ⟨#[]⟩, .slice none 0 0, .slice none 0 0] 31)).heap[w.heap.size]? = some (.cells #[.int .i64 0, .int .i64 0, .int .i64 0, .int .i64 0, .int .i64 0, .int .i64 0, .float .f64 0, .float .f64 0, .string ⟨#[]⟩, .slice none 0 0, .slice none 0 0] 31 (0, 0))) := heap_alloc_new w _
    have HZ1 : Hid (Array.all (#[.int .i64 0, .int .i64 0, .int .i64 0, .int .i64 0, .int .i64 0, .int .i64 0, .float .f64 0, .float .f64 0, .string ⟨#[]⟩, .slice none 0 0, .slice none 0 0] : Array Value) (·.oneCell') = true) := by show _ = _; rw [← Array.all_toList]; rfl
    clear h hl hn
    go_enter Try.func15, Try.ntmps15
    go_upto_region 2 with fail
    generalize (w.alloc (.cells #[.int .i64 0, .int .i64 0, .int .i64 0, .int .i64 0, .int .i64 0, .int .i64 0, .float .f64 0, .float .f64 0, .string ⟨#[]⟩, .slice none 0 0, .slice none 0 0] 31)) = w1 at HAL HZH ⊢
    obtain ⟨Z, hZ⟩ : ∃ X, Hid (w.heap.size = X) := ⟨_, rfl⟩
    rw [hZ.out] at HZH HAL ⊢
    go_wp2_with ((refine wpList_store_row rfl 31 (.tmp 2) (.tmp 14) rfl Z #[.int .i64 0, .int .i64 0, .int .i64 0, .int .i64 0, .int .i64 0, .int .i64 0, .float .f64 0, .float .f64 0, .string ⟨#[]⟩, .slice none 0 0, .slice none 0 0] rfl rfl 31 _ HZH.out HSI.out rfl HZ1.out ?_))
    exact bodyPost_ret (v := .tuple #[.agg #[.int .i64 0, .int .i64 0, .int .i64 0, .int .i64 0, .int .i64 0, .int .i64 0, .float .f64 0, .float .f64 0, .string ⟨#[]⟩, .slice none 0 0, .slice none 0 0], .int .i64 12]) (results_row_tmp rfl _ _ Z 31 #[.int .i64 0, .int .i64 0, .int .i64 0, .int .i64 0, .int .i64 0, .int .i64 0, .float .f64 0, .float .f64 0, .string ⟨#[]⟩, .slice none 0 0, .slice none 0 0] (0, 0) _ rfl (setRow_heap w1 Z _ _ _ _ HZH.out) Try.underlying31 rfl HSI.out (.int .i64 12) rfl) rfl
      ⟨by rw [hZ.out]; exact HAL.out.grown grown_row (by have := lt_of_block HZH.out; omega) (fun k hk => by simp only [Option.some.injEq] at hk; omega), Or.inr ⟨HN.out, rfl⟩⟩

/-- What the inode holds that has nothing. -/
def D0 : InoD := ⟨0, 0, 0, 0, 0, 0, 0, 0, ⟨#[]⟩, 0, 0, fun _ => 0, fun _ => 0, fun _ => 0, fun _ => ByteArray.empty, fun _ => []⟩
theorem zero_m (w : World) : InoM w w.heap.size zeroI D0 :=
  ⟨none, none, 0, 0, w.heap.size, 0, w.heap.size, 0, fun _ => none, fun _ => 0, rfl, ⟨Nat.le_refl _, by omega, fun h => absurd h (Nat.lt_irrefl _)⟩, ⟨Nat.le_refl _, by omega, fun h => absurd h (Nat.lt_irrefl _)⟩, fun i hi => absurd hi (Nat.not_lt_zero _), Nat.le_refl _, Nat.le_refl _⟩
/-- What a Decode of bs answers, plainly. -/
def DecR (bs : List Int) (D : InoD) (q : Int) : Prop := (q = 0 ∧ rightD D = true ∧ payD D = bs ∧ D.wide ∧ D.bytes) ∨ (q = 12 ∧ D = D0 ∧ ∀ D, rightD D = true → D.wide → D.bytes → payD D ≠ bs)
def DecQ (bs : List Int) (w : World) (e : Ending) (w' : World) : Prop :=
  ∃ k m u g l s t0 t1 ln xa xn xc ea en ec D q, e = .returned (.tuple #[.agg #[.int .i64 k, .int .i64 m, .int .i64 u, .int .i64 g, .int .i64 l, .int .i64 s, .float .f64 t0, .float .f64 t1, .string ln, .slice xa xn xc, .slice ea en ec], .int .i64 q]) ∧
    InoM w' w.heap.size (.agg #[.int .i64 k, .int .i64 m, .int .i64 u, .int .i64 g, .int .i64 l, .int .i64 s, .float .f64 t0, .float .f64 t1, .string ln, .slice xa xn xc, .slice ea en ec]) D ∧ Below w.heap.size w w' ∧ DecR bs D q
theorem dec_q {bs : List Int} {w w' : World} {e : Ending} (h : DecP bs w e w') : DecQ bs w e w' := by
  obtain ⟨hb, ⟨D, v, rfl, hm, hr, hp, hw⟩ | ⟨hn, rfl⟩⟩ := h
  · have hm' := hm
    obtain ⟨xa, ea, xc, ec, L, off, L', off', VA, VC, rfl, _⟩ := hm
    exact ⟨_, _, _, _, _, _, _, _, _, _, _, _, _, _, _, D, 0, rfl, hm', hb, Or.inl ⟨rfl, hr, hp, hw, hm'.bytes⟩⟩
  · exact ⟨_, _, _, _, _, _, _, _, _, _, _, _, _, _, _, D0, 12, rfl, (zero_m w').mono hb.size, hb, Or.inr ⟨rfl, rfl, hn⟩⟩
theorem decR_same {bs : List Int} {D E : InoD} {q r : Int} (h : DecR bs D q) (h' : DecR bs E r) : q = r ∧ SameD D E := by
  rcases h with ⟨rfl, h1, h2, h3, h4⟩ | ⟨rfl, rfl, h1⟩
  · rcases h' with ⟨rfl, h5, h6, h7, h8⟩ | ⟨rfl, rfl, h5⟩
    · exact ⟨rfl, pay_inj h1 h3 h4 h5 h7 h8 (h2.trans h6.symm)⟩
    · exact absurd h2 (h5 D h1 h3 h4)
  · rcases h' with ⟨rfl, h5, h6, h7, h8⟩ | ⟨rfl, rfl, h5⟩
    · exact absurd h6 (h1 E h5 h7 h8)
    · exact ⟨rfl, SameD.refl _⟩
theorem decode_q (b0 : Option Addr) (n c L0 off0 : Nat) (bs : List Int) (w : World) (h : BtsAt w L0 off0 (.slice b0 n c) bs) : Calls Try.prog 14 #[.slice b0 n c] w (DecQ bs w) := (decode_p b0 n c L0 off0 bs w h).mono fun e w' h => dec_q h
theorem refDecode_q (b0 : Option Addr) (n c L0 off0 : Nat) (bs : List Int) (w : World) (h : BtsAt w L0 off0 (.slice b0 n c) bs) : Calls Try.prog 15 #[.slice b0 n c] w (DecQ bs w) := (refDecode_p b0 n c L0 off0 bs w h).mono fun e w' h => dec_q h
end Go.Proofs.Ytebnekpccdcnmaa
