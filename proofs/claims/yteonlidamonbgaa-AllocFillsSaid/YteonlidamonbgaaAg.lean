/- The layer alloc: arguments opened, a copy of a map; AllocPicks. -/
import Derived.Test.YteonlidamonbgaaAf
namespace Go.Proofs.Yteonlidamonbgaa
set_option linter.unusedVariables false
set_option linter.unusedSimpArgs false
open Go.ChangeShapes Go.WideShapes Go.ChangeAt Go.RowKit Fl

theorem add_at (L off k : Nat) : (⟨L, off, none⟩ : Addr).add k = ⟨L, off + k, none⟩ := by unfold Addr.add; by_cases h : k = 0 <;> simp [h]
def cellBool (w : World) (b o : Nat) : Bool := match w.cell? ⟨b, o, none⟩ with | some (.bool t) => t | _ => false

/-- A slice of bools that came in. -/
theorem open_bools {H : Type} {enc : TypeId × Value → H} {w : World} {v : Value} {d : DataW H} {ps : List MemPlace}
    (hval : Value.okWide Try.prog w .any 0 22 v) (h : DataW.Trod enc Try.prog w 0 (fun _ => true) true 22 v d ps) :
    ∃ (a : Option Addr) (len cap L off : Nat) (f : Nat → Bool), v = .slice a len cap ∧ BlF w L off a len cap f ∧ (a = none → cap = 0) ∧ (a ≠ none → ∃ elems sp, d = .slice elems sp ∧ elems.length + sp.length = cap) := by
  obtain ⟨a0, len0, cap0, rfl⟩ := WideShapes.okWide_slice Try.underlying22 hval
  obtain ⟨fuel, hf⟩ := h
  have hc1 : Try.prog.cellsOf 4 = 1 := by kernel_rfl
  rcases DataW.trod_slice Try.underlying22 hf with ⟨hcs, _⟩ | ⟨x, l, c, elems, rest, n, _, hcs, hx, hb, hl, hm, hel, hi, hsp, _⟩
  · simp [Value.cells] at hcs
    obtain ⟨rfl, rfl, rfl⟩ := hcs
    exact ⟨none, 0, 0, w.heap.size, 0, fun _ => false, rfl, ⟨Nat.le_refl _, Nat.zero_le _, fun h => absurd h (Nat.lt_irrefl _)⟩, fun _ => rfl, fun h => absurd rfl h⟩
  · simp [Value.cells] at hcs
    obtain ⟨rfl, rfl, rfl⟩ := hcs
    have hd : d = .slice (elems.map (·.1)) (rest.map (·.1)) := congrArg Prod.fst hx
    have each : ∀ i, i < len0 → ∃ t, w.cell? (x.add i) = some (.bool t) := by
      intro i hlt
      have := hi i hlt
      rw [hc1, Nat.mul_one, List.getElem?_eq_getElem (by rw [hel]; exact hlt), Option.bind_eq_some_iff] at this
      obtain ⟨cs, hcs, hy⟩ := this
      obtain ⟨_, hcl, hcc⟩ := World.cells?_some hcs
      obtain ⟨t, ht, _⟩ := DataW.trod_bool Try.underlying4 hy
      subst ht
      have := hcc 0 (by omega)
      exact ⟨t, by simpa [Addr.add] using this⟩
    refine ⟨some x, len0, cap0, x.block, x.off, fun i => cellBool w x.block (x.off + i), rfl, ⟨hl, by unfold maxLen at hm; exact hm, fun h0 => ?_⟩, (fun h => by cases h), fun _ => ⟨_, _, hd, by simp [hel, (hsp rfl).1]; omega⟩⟩
    obtain ⟨b, off, spot⟩ := x
    obtain ⟨t0, g0⟩ := each 0 h0
    have hspot : spot = none := by simpa [Addr.add] using World.cell?_spot g0
    subst hspot
    refine ⟨rfl, fun i hi => ?_⟩
    obtain ⟨t, g⟩ := each i hi
    rw [add_at] at g
    have e : cellBool w b (off + i) = t := by unfold cellBool; rw [g]
    show w.cell? ⟨b, off + i, none⟩ = some (.bool (cellBool w b (off + i)))
    rw [e]; exact g

theorem bools_few {H : Type} {ds : List (DataW H)} {ts : List TypeId} {j : Nat} {d : DataW H} {w : World} {a : Option Addr} {len cap L off : Nat} {f : Nat → Bool} (hs : (DataW.weightsEach Try.prog ts ds).all (· ≤ reachBytes) = true) (ht : ts[j]? = some 22) (hd : ds[j]? = some d)
    (hb : BlF w L off a len cap f) (h1 : a = none → cap = 0) (h2 : a ≠ none → ∃ elems sp, d = .slice elems sp ∧ elems.length + sp.length = cap) : len ≤ 140737488351232 := by
  have hl := hb.1
  cases a with
  | none => have := h1 rfl; omega
  | some x =>
    obtain ⟨el, sp, rfl, hc⟩ := h2 (by simp)
    have := sized_slice hs ht hd Try.underlying22
    have hb1 : Try.prog.bytesOf 4 = 1 := by kernel_rfl
    rw [hb1, Nat.mul_one, hc] at this
    unfold reachBytes at this
    omega

theorem Try.infoBool : (Try.prog.info? 4).map (fun i => (i.zero, i.size, i.bytes)) = some (some (.bool false), 1, 1) := by kernel_rfl

/-- append([]bool{}, free...): a copy in new memory. -/
theorem copy_bools (w : World) (a : Option Addr) (n c L off : Nat) (f : Nat → Bool) (h : BlF w L off a n c f) (hc : a = none → c = 0) (hlen : n ≤ 140737488351232) :
    ∃ g cap w', (Builtin.append_ #[22, 22] 22 #[.slice (some ⟨w.heap.size, 0, none⟩) 0 0, .slice a n c]).run Try.prog (w.alloc (.cells #[] 4)) = .ok (.slice (some ⟨g, 0, none⟩) n cap) w' ∧
      w.heap.size ≤ g ∧ BlF w' g 0 (some ⟨g, 0, none⟩) n cap f ∧ (∀ i, w'.frozen? ⟨g, i, none⟩ = false) ∧ Below w.heap.size w w' ∧ g < w'.heap.size := by
  obtain ⟨i0, hi, hz0, hz1, hz2⟩ := info_parts Try.infoBool
  have hown := World.ownsRow_lit (base := w.heap.size) (e := 4) (size := 1) w #[] 0 (Nat.le_refl _) (by decide) rfl
  have hb0 : Below w.heap.size w (w.alloc (.cells #[] 4)) := (Below.refl _ _).alloc (Nat.le_refl _) _
  have hsz : (w.alloc (.cells #[] 4)).heap.size = w.heap.size + 1 := by simp
  cases a with
  | none =>
    obtain rfl := hc rfl
    obtain rfl : n = 0 := by have := h.1; omega
    exact ⟨w.heap.size, 0, _, run_append_owned_none (P := Try.prog) (w.alloc (.cells #[] 4)) w.heap.size 22 22 4 i0 1 Try.underlying22 hi _ 0 _ hown, Nat.le_refl _, ⟨Nat.le_refl _, by decide, fun h => absurd h (Nat.lt_irrefl _)⟩, fun i => hown.frozenAt i, hb0, by simp⟩
  | some ad =>
    have hnews : ∀ j u, ((List.range n).map fun i => Value.bool (f i))[j]? = some u → (w.alloc (.cells #[] 4)).cell? (ad.add j) = some u := by
      intro j u hj
      have hl : j < n := by
        rcases Nat.lt_or_ge j n with h | h
        · exact h
        · simp [List.getElem?_eq_none (show (List.range n).length ≤ j by simpa using h)] at hj
      have hbb := h.below hb0
      obtain ⟨he, h4⟩ := hbb.2.2 (by omega)
      simp only [Option.some.injEq] at he
      subst he
      rw [add_at, h4 j hl]
      simp [hl] at hj
      simp [hj]
    obtain ⟨v', w', hr, ho, hg, _⟩ := run_append_own (P := Try.prog) (w.alloc (.cells #[] 4)) w.heap.size 22 22 4 i0 (.bool false) 1 1 Try.underlying22 hi hz0 hz1 hz2 rfl (by decide) _ 0 _ hown ad n c ((List.range n).map fun i => Value.bool (f i)) (by simp) hnews (by intro u hu; simp at hu; obtain ⟨i, _, rfl⟩ := hu; rfl) (by unfold maxLen; omega) (by omega) (by rw [hsz]; omega)
    rw [Nat.zero_add] at ho
    have hg' : (w.alloc (.cells #[] 4)).grownBy w' (some w.heap.size) := hg
    have hbel : Below w.heap.size w w' := hb0.grown hg' (by rw [hsz]; omega) (by intro k hk; simp at hk; omega)
    have ho2 := ho
    obtain ⟨hl, h2⟩ := ho
    rcases h2 with ⟨he, h0⟩ | ⟨g, cap, cur, he, hgb, hgg, hnc, hcm, r⟩
    · exfalso
      rename_i hiff
      have := hiff.1 he
      simp at this
    · subst he
      have ho' : w'.ownsRow w.heap.size 4 1 (.slice (some ⟨g, 0, none⟩) n cap) n ((List.range n).map fun i => Value.bool (f i)) := by simpa using ho2
      refine ⟨g, cap, w', hr, hgb, ⟨hnc, by unfold maxLen at hcm; exact hcm, fun h0 => ⟨rfl, fun i hi => ?_⟩⟩, fun i => ho'.frozenAt i, hbel, (Array.getElem?_eq_some_iff.1 hgg).1⟩
      rw [Nat.zero_add, ho'.cellAt i (by omega)]
      simp [hi]

/-- The operation, where its run is known. -/
theorem wpList_append_run {P : Program} (w : World) {ops : Array Oper} {rest : List Oper} {o : Oper} {a : Act} {Q : Exit → Act → World → Prop} (hgd : o.guard = none) (d s : Operand) (t t' : TypeId)
    (ho : o.op = .call { callee := .builtin .append, args := #[d, s], argTypes := #[t, t'] }) (v u : Value) (hd : a.eval d = v) (hs : a.eval s = u) {v' : Value} {w' : World}
    (hr : (Builtin.append_ #[t, t'] o.type #[v, u]).run P w = .ok v' w') (h : wpList P ops Q rest (a.put o.dst v') w') : wpList P ops Q (o :: rest) a w :=
  wpList_plain hgd fun _ hK => by
    unfold Oper.wp execOp
    simp only [ho, resolve, invoke, builtin, Sem.run_bind, Sem.run_pure, Result.andThen_ok, List.map_toArray, List.map_cons, List.map_nil, hd, hs, hr]
    exact hK _ _ h

set_option maxRecDepth 100000 in
set_option maxHeartbeats 1600000 in
/-- AllocPicks -/
theorem picks_walk (a : Option Addr) (n c L off : Nat) (f : Nat → Bool) (goal group : Int) (w : World) (h : BlF w L off a n c f) (hc : a = none → c = 0) (hlen : n ≤ 140737488351232) :
    Calls Try.prog 4 #[.slice a n c, .int .i64 goal, .int .i64 group] w fun e w' => e = .returned (.bool true) ∧ Below w.heap.size w w' := by
  have HN := Lib.hid hlen
  have hbits := run_bits
  obtain ⟨M, cm, w1, hr1, hm1, hb1, hf1, hw1, hmlt⟩ := copy_bools w a n c L off f h hc hlen
  have HR1 := Lib.hid hr1
  have HM := Lib.hid hb1
  have HB := Lib.hid (h.below hw1)
  have HW := Lib.hid hw1
  have hn9 : n ≤ 9223372036854775807 := by omega
  clear h hc hr1 hb1 hw1 hmlt hm1 hf1
  obtain ⟨K, hK⟩ : ∃ K, Hid (cntTo f 0 n = K) := ⟨_, rfl⟩
  obtain ⟨G, hG⟩ : ∃ G, Hid ((n + 7) / 8 = G) := ⟨_, rfl⟩
  have SC : ∃ (s : Nat) (d : Int), ∀ w L off a c, BlF w L off a n c f → (Calls Try.prog 9 #[.slice a n c, .int .i64 group] w fun e w' => e = .returned (.tuple #[.float .f64 s, .int .i64 d]) ∧ Below w.heap.size w w') ∧
      (Calls Try.prog 12 #[.slice a n c, .int .i64 group] w fun e w' => e = .returned (.tuple #[.int .u64 s, .int .i64 d]) ∧ Below w.heap.size w w') := by
    by_cases hv : 0 ≤ group ∧ 8 * group < n
    · obtain ⟨g, rfl⟩ := Int.eq_ofNat_of_zero_le hv.1
      exact ⟨scoreG f n g, 0, fun w L off a c hb => ⟨score_any a n c L off g f w hb HN.out (by omega), refScore_any a n c L off g f w hb HN.out (by omega)⟩⟩
    · exact ⟨0, 2, fun w L off a c hb => ⟨(score_bad a n c group w HN.out hv).mono fun e w' ⟨he, hw⟩ => ⟨he, by rw [← hw]; exact Below.refl _ _⟩, (refScore_bad a n c group w HN.out hv).mono fun e w' ⟨he, hw⟩ => ⟨he, by rw [← hw]; exact Below.refl _ _⟩⟩⟩
  obtain ⟨s, d, hsc⟩ := SC
  have HSC := Lib.hid hsc
  clear hsc
  go_enter Try.func4, Try.ntmps4
  go_upto_region 2 with (at_builtin; refine wpList_append_run _ rfl _ _ _ _ rfl _ _ rfl rfl HR1.out ?_)
  clear HR1
  go_upto_region 3 with (go_at_call 7; refine (pick_any _ n _ M 0 f goal _ HM.out HN.out).mono ?_; rintro e w2 ⟨r, p, rfl, hp, hb⟩; have HP := Lib.hid hp; have HM2 := Lib.hid (HM.out.below hb); have HB2 := Lib.hid (HB.out.below hb); have HW2 := Lib.hid (HW.out.trans (hb.mono HW.out.size)); clear hp hb)
  go_upto_region 4 with (go_at_call 11; refine (refPick_any _ n _ L off f goal _ HB2.out HN.out).mono ?_; rintro e w' ⟨⟨r', p', rfl, hp⟩, rfl⟩; obtain ⟨rfl, rfl⟩ := hp.one HP.out; clear hp)
  go_upto_region 5 with (go_at_call 9; refine ((HSC.out _ _ _ _ _ HM2.out).1).mono ?_; rintro e w4 ⟨rfl, hb⟩; have HM4 := Lib.hid (HM2.out.below hb); have HB4 := Lib.hid (HB2.out.below hb); have HW4 := Lib.hid (HW2.out.trans (hb.mono HW2.out.size)); clear hb)
  go_upto_region 6 with (go_at_call 12; refine ((HSC.out _ _ _ _ _ HB4.out).2).mono ?_; rintro e w5 ⟨rfl, hb⟩; have HM5 := Lib.hid (HM4.out.below hb); have HB5 := Lib.hid (HB4.out.below hb); have HW5 := Lib.hid (HW4.out.trans (hb.mono HW4.out.size)); clear hb)
  go_upto_region 8 with (first
    | (go_at_call 6; refine (fixed_any _).mono ?_; rintro e w6 ⟨rfl, hb⟩; have HM6 := Lib.hid (HM5.out.below hb); have HB6 := Lib.hid (HB5.out.below hb); have HW6 := Lib.hid (HW5.out.trans (hb.mono HW5.out.size)); clear hb)
    | (go_at_call 10; refine (groups_any _ _ _ _ HN.out).mono ?_; rintro e w' ⟨rfl, rfl⟩; rw [hG.out])
    | (go_at_call 14; refine (refGroups_any _ _ _ _ HN.out).mono ?_; rintro e w' ⟨rfl, rfl⟩; rw [hG.out])
    | (go_at_call 8; refine (count_any _ _ _ _ _ _ _ HM6.out).mono ?_; rintro e w' ⟨rfl, rfl⟩; rw [hK.out])
    | (go_at_call 15; refine (refCount_any _ _ _ _ _ _ _ HB6.out).mono ?_; rintro e w' ⟨rfl, rfl⟩; rw [hK.out]))
  go_wp2_with fail
  go_loopw [83] (fun i wr => ∃ k : Nat, k ≤ n ∧ i = .int .i64 k ∧ ∃ m, wr = w6.drewN m) (fun i _ => n - (intOf i).toNat)
  case atStart => exact ⟨0, Nat.zero_le _, rfl, 0, rfl⟩
  case round =>
    obtain ⟨k, hk, rfl, mm, rfl⟩ := hrel
    by_cases hlt : k < n
    · obtain ⟨rfl, hcell⟩ := HB6.out.2.2 (by omega)
      have hc1 := hcell k hlt
      have hc2 := (HM6.out.2.2 (by omega)).2 k hlt
      rw [Nat.zero_add] at hc2
      clear hcell
      have i1 : (k : Int) < (n : Int) := by omega
      have i0 : (0 : Int) ≤ (k : Int) := by omega
      generalize f k = t at hc1 hc2
      go_wp2_with fail
      go_quiet (fail)
      go_wp2
      go_roundw
      case rel => exact ⟨k + 1, by omega, by go_num, _, rfl⟩
      case measure => simp [intOf]; omega
    · go_wp2
      go_ret
      exact ⟨rfl, HW6.out.trans ⟨rfl, rfl, rfl, Nat.le_refl _, fun _ _ => rfl⟩⟩

theorem picks_frame (a : Option Addr) (n c L off : Nat) (f : Nat → Bool) (goal group : Int) (w : World) (h : BlF w L off a n c f) (hc : a = none → c = 0) (hlen : n ≤ 140737488351232) (_ : (Lit.int .i64 goal).wf = true) (_ : (Lit.int .i64 group).wf = true) :
    Calls Try.prog 4 #[.slice a n c, .int .i64 goal, .int .i64 group] w fun e w' => e = .returned (.bool true) ∧ Below w.heap.size w w' := picks_walk a n c L off f goal group w h hc hlen
end Go.Proofs.Yteonlidamonbgaa
