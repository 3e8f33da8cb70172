/- The layer extent: arguments opened; a copy of a list; ExtentCalls. -/
import Derived.Test.YtidifimhgnjomaaHb
import Derived.ProofKit
import Derived.OpenShut
import Derived.ShutString
import Derived.ChangeOld
import Derived.SizedLaws
import Derived.Deep.Strs
import Derived.Laws.AppendOwnNone
namespace Go.Proofs.Ytidifimhgnjomaa
set_option linter.unusedVariables false
set_option linter.unusedSimpArgs false
open Go.ChangeShapes Go.WideShapes Go.ChangeAt Go.RowKit

theorem add_at (L off k : Nat) : (⟨L, off, none⟩ : Addr).add k = ⟨L, off + k, none⟩ := by unfold Addr.add; by_cases h : k = 0 <;> simp [h]
def cellNum (w : World) (b o : Nat) : Int := match w.cell? ⟨b, o, none⟩ with | some (.int _ n) => n | _ => 0

/-- A slice of structs of three ints that came in. -/
theorem open_threes {P : Program} {H : Type} {enc : TypeId × Value → H} {w : World} {v : Value} {d : DataW H} {ps : List MemPlace} {t e t0 : TypeId} {f0 f1 f2 : Field} (ht : P.underlying t = some (.slice e)) (he : P.underlying e = some (.struct #[f0, f1, f2]))
    (h0 : f0.type = t0) (h1 : f1.type = t0) (h2 : f2.type = t0) (hf0 : P.underlying t0 = some (.int .i64)) (o0 : f0.offset = 0) (o1 : f1.offset = 1) (o2 : f2.offset = 2) (c0 : P.cellsOf t0 = 1) (hc : P.cellsOf e = 3)
    (hval : Value.okWide P w .any 0 t v) (h : DataW.Trod enc P w 0 (fun _ => true) true t v d ps) :
    ∃ (a : Option Addr) (len cap L off : Nat) (z : Nat → Int × Int × Int), v = .slice a len cap ∧ ExAt w L off a len cap (fun i => (z i).1) (fun i => (z i).2.1) (fun i => (z i).2.2) ∧ (a = none → cap = 0) ∧ (a ≠ none → ∃ elems sp, d = .slice elems sp ∧ elems.length + sp.length = cap) ∧
      (∀ i, i < len → (-9223372036854775808 ≤ (z i).1 ∧ (z i).1 ≤ 9223372036854775807) ∧ (-9223372036854775808 ≤ (z i).2.1 ∧ (z i).2.1 ≤ 9223372036854775807) ∧ (-9223372036854775808 ≤ (z i).2.2 ∧ (z i).2.2 ≤ 9223372036854775807)) := by
  obtain ⟨a0, len0, cap0, rfl⟩ := WideShapes.okWide_slice ht hval
  obtain ⟨fuel, hf⟩ := h
  rcases DataW.trod_slice ht hf with ⟨hcs, _⟩ | ⟨x, l, c, elems, rest, n, _, hcs, hx, hb, hl, hm, hel, hi, hsp, _⟩
  · simp [Value.cells] at hcs
    obtain ⟨rfl, rfl, rfl⟩ := hcs
    exact ⟨none, 0, 0, w.heap.size, 0, fun _ => (0, 0, 0), rfl, ⟨Nat.le_refl _, by omega, fun h => absurd h (Nat.lt_irrefl _)⟩, fun _ => rfl, fun h => absurd rfl h, fun i hi => absurd hi (Nat.not_lt_zero _)⟩
  · simp [Value.cells] at hcs
    obtain ⟨rfl, rfl, rfl⟩ := hcs
    have hd : d = .slice (elems.map (·.1)) (rest.map (·.1)) := congrArg Prod.fst hx
    have each : ∀ i, i < len0 → ∃ p q r : Int, w.cell? (x.add (i * 3)) = some (.int .i64 p) ∧ w.cell? (x.add (i * 3 + 1)) = some (.int .i64 q) ∧ w.cell? (x.add (i * 3 + 2)) = some (.int .i64 r) ∧ (Lit.int .i64 p).wf = true ∧ (Lit.int .i64 q).wf = true ∧ (Lit.int .i64 r).wf = true := by
      intro i hlt
      have := hi i hlt
      rw [hc, List.getElem?_eq_getElem (by rw [hel]; exact hlt), Option.bind_eq_some_iff] at this
      obtain ⟨cs, hcs, hy⟩ := this
      obtain ⟨_, hcl, hcc⟩ := World.cells?_some hcs
      obtain ⟨y0, y1, y2, m, _, _, q0, q1, q2⟩ := Go.Deep.trod_struct3 he hy
      rw [o0, h0, c0] at q0
      rw [o1, h1, c0] at q1
      rw [o2, h2, c0] at q2
      obtain ⟨p, hp, _, wp⟩ := DataW.trod_int hf0 q0
      obtain ⟨q, hq, _, wq⟩ := DataW.trod_int hf0 q1
      obtain ⟨r, hr, _, wr⟩ := DataW.trod_int hf0 q2
      match cs, hcl with
      | [s, t, u], _ =>
        simp at hp hq hr
        have g0 := hcc 0 (by omega)
        have g1 := hcc 1 (by omega)
        have g2 := hcc 2 (by omega)
        rw [Addr.add_add] at g0 g1 g2
        simp [hp, hq, hr] at g0 g1 g2
        exact ⟨p, q, r, by simpa using g0, by simpa using g1, by simpa using g2, wp, wq, wr⟩
    obtain ⟨b, off, spot⟩ := x
    refine ⟨some ⟨b, off, spot⟩, len0, cap0, b, off, fun i => (cellNum w b (off + i * 3), cellNum w b (off + i * 3 + 1), cellNum w b (off + i * 3 + 2)), rfl, ⟨hl, by unfold maxLen at hm; exact hm, fun h0 => ?_⟩, (fun h => by cases h), fun _ => ⟨_, _, hd, by simp [hel, (hsp rfl).1]; omega⟩, fun i hi2 => ?_⟩
    · obtain ⟨p0, q0, r0, g0, _⟩ := each 0 h0
      have hspot : spot = none := by simpa [Addr.add] using World.cell?_spot g0
      subst hspot
      refine ⟨rfl, fun i hi2 => ?_⟩
      obtain ⟨p, q, r, g0, g1, g2, _⟩ := each i hi2
      rw [add_at] at g0 g1 g2
      rw [← Nat.add_assoc] at g1 g2
      have e0 : cellNum w b (off + i * 3) = p := by unfold cellNum; rw [g0]
      have e1 : cellNum w b (off + i * 3 + 1) = q := by unfold cellNum; rw [g1]
      have e2 : cellNum w b (off + i * 3 + 2) = r := by unfold cellNum; rw [g2]
      rw [← e0] at g0
      rw [← e1] at g1
      rw [← e2] at g2
      exact ⟨g0, g1, g2⟩
    · obtain ⟨p0, q0, r0, g0, _⟩ := each 0 (by omega)
      have hspot : spot = none := by simpa [Addr.add] using World.cell?_spot g0
      subst hspot
      obtain ⟨p, q, r, g0, g1, g2, w0, w1, w2⟩ := each i hi2
      rw [add_at] at g0 g1 g2
      rw [← Nat.add_assoc] at g1 g2
      have e0 : cellNum w b (off + i * 3) = p := by unfold cellNum; rw [g0]
      have e1 : cellNum w b (off + i * 3 + 1) = q := by unfold cellNum; rw [g1]
      have e2 : cellNum w b (off + i * 3 + 2) = r := by unfold cellNum; rw [g2]
      rw [← e0] at w0
      rw [← e1] at w1
      rw [← e2] at w2
      exact ⟨bounds_i64 w0, bounds_i64 w1, bounds_i64 w2⟩

theorem open_exts {H : Type} {enc : TypeId × Value → H} {w : World} {v : Value} {d : DataW H} {ps : List MemPlace}
    (hval : Value.okWide Try.prog w .any 0 27 v) (h : DataW.Trod enc Try.prog w 0 (fun _ => true) true 27 v d ps) :
    ∃ (a : Option Addr) (len cap L off : Nat) (z : Nat → Int × Int × Int), v = .slice a len cap ∧ ExAt w L off a len cap (fun i => (z i).1) (fun i => (z i).2.1) (fun i => (z i).2.2) ∧ (a = none → cap = 0) ∧ (a ≠ none → ∃ elems sp, d = .slice elems sp ∧ elems.length + sp.length = cap) := by
  obtain ⟨a, len, cap, L, off, z, h1, h2, h3, h4, _⟩ := open_threes Try.underlying27 Try.underlying54 rfl rfl rfl Try.underlying3 rfl rfl rfl (by kernel_rfl) (by kernel_rfl) hval h
  exact ⟨a, len, cap, L, off, z, h1, h2, h3, h4⟩
theorem exts_few {H : Type} {ds : List (DataW H)} {ts : List TypeId} {j : Nat} {d : DataW H} {w : World} {a : Option Addr} {len cap L off : Nat} {F H' N : Nat → Int} (hs : (DataW.weightsEach Try.prog ts ds).all (· ≤ reachBytes) = true) (ht : ts[j]? = some 27) (hd : ds[j]? = some d)
    (hb : ExAt w L off a len cap F H' N) (h1 : a = none → cap = 0) (h2 : a ≠ none → ∃ elems sp, d = .slice elems sp ∧ elems.length + sp.length = cap) : len * 24 ≤ 140737488351232 := by
  have hl := hb.1
  cases a with
  | none => have := h1 rfl; omega
  | some x =>
    obtain ⟨el, sp, rfl, hc⟩ := h2 (by simp)
    have := sized_slice hs ht hd Try.underlying27
    have hb1 : Try.prog.bytesOf 54 = 24 := by kernel_rfl
    rw [hb1, hc] at this
    unfold reachBytes at this
    omega

/-- The list that lies in a slice. -/
def exList (n : Nat) (F H N : Nat → Int) : List Ext := (List.range n).map fun i => ⟨F i, H i, N i⟩
theorem exList_len (n : Nat) (F H N : Nat → Int) : (exList n F H N).length = n := by simp [exList]
theorem exList_at {n : Nat} {F H N : Nat → Int} {i : Nat} (hi : i < n) : eF (exList n F H N) i = F i ∧ eH (exList n F H N) i = H i ∧ eN (exList n F H N) i = N i := by
  have : (exList n F H N)[i]? = some ⟨F i, H i, N i⟩ := by simp [exList, hi]
  unfold eF eH eN
  rw [List.getD_eq_getElem?_getD, this]
  exact ⟨rfl, rfl, rfl⟩
theorem cells3_ones (xs : List Ext) : ∀ u ∈ cells3 xs, u.oneCell' = true := by
  induction xs with
  | nil => intro u hu; cases hu
  | cons x xs ih =>
    intro u hu
    simp [cells3] at hu
    rcases hu with rfl | rfl | rfl | hu
    · rfl
    · rfl
    · rfl
    · exact ih u hu

/-- append([]api.Extent{}, list...): a copy in new memory. -/
theorem copy_exts (w : World) (a : Option Addr) (n c L off : Nat) (F H N : Nat → Int) (h : ExAt w L off a n c F H N) (hc : a = none → c = 0) (hlen : n * 24 ≤ 140737488351232) :
    ∃ g cap w', (Builtin.append_ #[27, 27] 27 #[.slice (some ⟨w.heap.size, 0, none⟩) 0 0, .slice a n c]).run Try.prog (w.alloc (.cells #[] 54)) = .ok (.slice (some ⟨g, 0, none⟩) n cap) w' ∧
      ExAt w' g 0 (some ⟨g, 0, none⟩) n cap F H N ∧ Below w.heap.size w w' := by
  obtain ⟨i0, hi, hz0, hz1, hz2⟩ := info_parts infoExt
  have hown := World.ownsRow_lit (base := w.heap.size) (e := 54) (size := 3) w #[] 0 (Nat.le_refl _) (by decide) rfl
  have hb0 : Below w.heap.size w (w.alloc (.cells #[] 54)) := (Below.refl _ _).alloc (Nat.le_refl _) _
  have hsz : (w.alloc (.cells #[] 54)).heap.size = w.heap.size + 1 := by simp
  cases a with
  | none =>
    obtain rfl := hc rfl
    obtain rfl : n = 0 := by have := h.1; omega
    exact ⟨w.heap.size, 0, _, run_append_owned_none (P := Try.prog) (w.alloc (.cells #[] 54)) w.heap.size 27 27 54 i0 3 Try.underlying27 hi _ 0 _ hown, ⟨Nat.le_refl _, by decide, fun h => absurd h (Nat.lt_irrefl _)⟩, hb0⟩
  | some ad =>
    have hl3 : (cells3 (exList n F H N)).length = n * 3 := by rw [cells3_len, exList_len]
    have hnews : ∀ j u, (cells3 (exList n F H N))[j]? = some u → (w.alloc (.cells #[] 54)).cell? (ad.add j) = some u := by
      intro j u hj
      have hl : j < n * 3 := by
        rcases Nat.lt_or_ge j (n * 3) with h | h
        · exact h
        · rw [List.getElem?_eq_none (by omega)] at hj; cases hj
      have hbb := h.below hb0
      obtain ⟨he, h4⟩ := hbb.2.2 (by omega)
      simp only [Option.some.injEq] at he
      subst he
      obtain ⟨k0, k1, k2⟩ := h4 (j / 3) (by omega)
      obtain ⟨m0, m1, m2⟩ := cells3_at (exList n F H N) (j / 3) (by rw [exList_len]; omega)
      obtain ⟨e0, e1, e2⟩ := exList_at (n := n) (F := F) (H := H) (N := N) (i := j / 3) (by omega)
      rw [add_at]
      rcases (show j % 3 = 0 ∨ j % 3 = 1 ∨ j % 3 = 2 by omega) with hr | hr | hr
      · have e : j = j / 3 * 3 := by omega
        rw [e] at hj ⊢
        rw [m0, e0] at hj
        rw [k0, ← hj]
      · have e : j = j / 3 * 3 + 1 := by omega
        rw [e] at hj ⊢
        rw [m1, e1] at hj
        rw [← Nat.add_assoc, k1, ← hj]
      · have e : j = j / 3 * 3 + 2 := by omega
        rw [e] at hj ⊢
        rw [m2, e2] at hj
        rw [← Nat.add_assoc, k2, ← hj]
    obtain ⟨v', w', hr, ho, hg, hiff⟩ := run_append_own (P := Try.prog) (w.alloc (.cells #[] 54)) w.heap.size 27 27 54 i0 _ 3 24 Try.underlying27 hi hz0 hz1 hz2 rfl (by decide) _ 0 _ hown ad n c (cells3 (exList n F H N)) hl3 hnews (cells3_ones _) (by unfold maxLen; omega) (by omega) (by rw [hsz]; omega)
    rw [Nat.zero_add] at ho
    have hg' : (w.alloc (.cells #[] 54)).grownBy w' (some w.heap.size) := hg
    have hbel : Below w.heap.size w w' := hb0.grown hg' (by rw [hsz]; omega) (by intro k hk; simp at hk; omega)
    have ho2 := ho
    obtain ⟨hl, h2⟩ := ho
    rcases h2 with ⟨he, h0⟩ | ⟨g, cap, cur, he, hgb, hgg, hnc, hcm, r⟩
    · exfalso
      have := hiff.1 he
      simp at this
    · subst he
      have ho' : w'.ownsRow w.heap.size 54 3 (.slice (some ⟨g, 0, none⟩) n cap) n (cells3 (exList n F H N)) := by simpa using ho2
      refine ⟨g, cap, w', hr, ⟨hnc, by unfold maxLen at hcm; exact hcm, fun h0 => ⟨rfl, fun i hi => ?_⟩⟩, hbel⟩
      obtain ⟨m0, m1, m2⟩ := cells3_at (exList n F H N) i (by rw [exList_len]; omega)
      obtain ⟨e0, e1, e2⟩ := exList_at (n := n) (F := F) (H := H) (N := N) (i := i) (by omega)
      rw [Nat.zero_add, ho'.cellAt (i * 3) (by omega), ho'.cellAt (i * 3 + 1) (by omega), ho'.cellAt (i * 3 + 2) (by omega), m0, m1, m2, e0, e1, e2]
      exact ⟨rfl, rfl, rfl⟩

/-- The operation, where its run is known. -/
theorem wpList_append_run {P : Program} (w : World) {ops : Array Oper} {rest : List Oper} {o : Oper} {a : Act} {Q : Exit → Act → World → Prop} (hgd : o.guard = none) (d s : Operand) (t t' : TypeId)
    (ho : o.op = .call { callee := .builtin .append, args := #[d, s], argTypes := #[t, t'] }) (v u : Value) (hd : a.eval d = v) (hs : a.eval s = u) {v' : Value} {w' : World}
    (hr : (Builtin.append_ #[t, t'] o.type #[v, u]).run P w = .ok v' w') (h : wpList P ops Q rest (a.put o.dst v') w') : wpList P ops Q (o :: rest) a w :=
  wpList_plain hgd fun _ hK => by
    unfold Oper.wp execOp
    simp only [ho, resolve, invoke, builtin, Sem.run_bind, Sem.run_pure, Result.andThen_ok, List.map_toArray, List.map_cons, List.map_nil, hd, hs, hr]
    exact hK _ _ h
end Go.Proofs.Ytidifimhgnjomaa
