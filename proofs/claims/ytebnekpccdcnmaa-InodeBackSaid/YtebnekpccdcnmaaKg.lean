/- Arguments of the layer inode, opened: an inode; bytes. -/
import Derived.Test.YtebnekpccdcnmaaChecked
import Derived.Test.YtebnekpccdcnmaaKf
import Derived.ProofKit
import Derived.OpenShut
import Derived.ShutString
import Derived.ChangeOld
import Derived.SizedLaws
import Derived.Deep.Strs
namespace Go.Proofs.Ytebnekpccdcnmaa
set_option linter.unusedVariables false
set_option linter.unusedSimpArgs false
open Go.ChangeShapes Go.WideShapes Go.ChangeAt Go.RowKit

/-- What a datum weighs is within the reach. -/
def FitsW {H : Type} (P : Program) (t : TypeId) (d : DataW H) : Prop := ∀ n ∈ d.weights P t, n ≤ reachBytes
theorem weightsAll_mem {H : Type} {P : Program} {e : TypeId} : ∀ {ds : List (DataW H)} {d : DataW H}, d ∈ ds → ∀ n ∈ d.weights P e, n ∈ DataW.weightsAll P e ds
  | [], _, h, _, _ => by cases h
  | d0 :: ds, d, h, n, hn => by
    unfold DataW.weightsAll
    rcases List.mem_cons.1 h with rfl | h
    · exact List.mem_append.2 (Or.inl hn)
    · exact List.mem_append.2 (Or.inr (weightsAll_mem h n hn))
theorem FitsW.slice {H : Type} {P : Program} {t e : TypeId} {elems sp : List (DataW H)} (hu : P.underlying t = some (.slice e)) (h : FitsW P t (.slice elems sp)) : (elems.length + sp.length) * P.bytesOf e ≤ reachBytes ∧ ∀ d ∈ elems, FitsW P e d := by
  unfold FitsW at h
  simp only [DataW.weights, hu] at h
  exact ⟨h _ (List.mem_cons_self ..), fun d hd n hn => h n (List.mem_cons_of_mem _ (List.mem_append.2 (Or.inl (weightsAll_mem hd n hn))))⟩
theorem FitsW.struct {H : Type} {P : Program} {t : TypeId} {fs : Array Field} {parts : List (DataW H)} (hu : P.underlying t = some (.struct fs)) (h : FitsW P t (.agg parts)) {i : Nat} {f : Field} {d : DataW H} (hf : fs[i]? = some f) (hd : parts[i]? = some d) : FitsW P f.type d := fun n hn => by
  unfold FitsW at h
  simp only [DataW.weights, hu] at h
  exact h n (DataW.weights_mem_each (j := i) (by rw [List.getElem?_map, Array.getElem?_toList, hf]; rfl) hd n hn)

section
variable {H : Type} {enc : TypeId × Value → H} {w : World}
theorem raw_bytes {fuel : Nat} {cs : List Value} {x : DataW H × List MemPlace} (h : DataW.trod enc Try.prog w 0 (fun _ => true) true fuel 32 cs = some x) (hf : FitsW Try.prog 32 x.1) :
    ∃ (a : Option Addr) (cap L off : Nat) (xs : List Int), cs = [.slice a xs.length cap] ∧ BtsAt w L off (.slice a xs.length cap) xs ∧ (a = none → cap = 0) ∧ xs.length ≤ 140737488351232 := by
  rcases ChangeShapes.open_ints Try.underlying32 Try.underlying5 (by kernel_rfl) h with ⟨hcs, _⟩ | ⟨x0, l, c, zs, hcs, _, hl, hm, hz, hx, hcell, hwz⟩
  · subst hcs
    exact ⟨none, 0, w.heap.size, 0, [], rfl, BtsAt.nil _ _ _, fun _ => rfl, by simp⟩
  · subst hcs
    have hmc : zs.length = c := by simpa using hz
    have hlen : (zs.take l).length = l := by rw [List.length_take]; omega
    have hwt : l ≤ 140737488351232 := by
      rw [hx] at hf
      have := (FitsW.slice Try.underlying32 hf).1
      have hb1 : Try.prog.bytesOf 5 = 1 := by kernel_rfl
      rw [hb1] at this
      unfold reachBytes at this
      simp [lits] at this
      omega
    refine ⟨some x0, c, x0.block, x0.off, zs.take l, by rw [hlen], ?_, (fun h => by cases h), by rw [hlen]; exact hwt⟩
    refine ⟨some x0, c, rfl, by rw [hlen]; omega, hm, fun y hy => ?_, fun hne => ?_⟩
    · have := bounds_u8 (hwz y (List.mem_of_mem_take hy)); omega
    · have h0 : 0 < l := by rw [← hlen]; exact List.length_pos_iff.2 hne
      obtain ⟨b, off, spot⟩ := x0
      have hc := hcell 0 (by omega)
      have hspot : spot = none := by simpa [Addr.add] using World.cell?_spot hc
      subst hspot
      refine ⟨rfl, fun i hi => ?_⟩
      rw [hlen] at hi
      have h1 := hcell i (by omega)
      rw [add_at] at h1
      rw [h1]
      simp [List.getD, List.getElem?_take, hi]
theorem raw_exts {fuel : Nat} {cs : List Value} {x : DataW H × List MemPlace} (h : DataW.trod enc Try.prog w 0 (fun _ => true) true fuel 26 cs = some x) (hf : FitsW Try.prog 26 x.1) :
    ∃ (a : Option Addr) (len cap L off : Nat) (F G N : Nat → Int), cs = [.slice a len cap] ∧ ExAt w L off a len cap F G N ∧ (a = none → cap = 0) ∧ len * 24 ≤ 140737488351232 := by
  rcases DataW.trod_slice Try.underlying26 h with ⟨hcs, _⟩ | ⟨x0, l, c, elems, rest, n, _, hcs, hx, hb, hl, hm, hel, hi, hsp, _⟩
  · subst hcs
    exact ⟨none, 0, 0, w.heap.size, 0, fun _ => 0, fun _ => 0, fun _ => 0, rfl, ⟨Nat.le_refl _, by omega, fun h => absurd h (Nat.lt_irrefl _)⟩, fun _ => rfl, by omega⟩
  · subst hcs
    have hc : Try.prog.cellsOf 25 = 3 := by kernel_rfl
    have c0 : Try.prog.cellsOf 3 = 1 := by kernel_rfl
    have hwt : l * 24 ≤ 140737488351232 := by
      rw [hx] at hf
      have := (FitsW.slice Try.underlying26 hf).1
      have hb1 : Try.prog.bytesOf 25 = 24 := by kernel_rfl
      rw [hb1] at this
      unfold reachBytes at this
      simp [hel] at this
      omega
    have each : ∀ i, ∃ z : Int × Int × Int, i < l → w.cell? (x0.add (i * 3)) = some (.int .i64 z.1) ∧ w.cell? (x0.add (i * 3 + 1)) = some (.int .i64 z.2.1) ∧ w.cell? (x0.add (i * 3 + 2)) = some (.int .i64 z.2.2) := by
      intro i
      by_cases hlt : i < l
      · have := hi i hlt
        rw [hc, List.getElem?_eq_getElem (by rw [hel]; exact hlt), Option.bind_eq_some_iff] at this
        obtain ⟨cs, hcs, hy⟩ := this
        obtain ⟨_, hcl, hcc⟩ := World.cells?_some hcs
        obtain ⟨y0, y1, y2, m, _, _, q0, q1, q2⟩ := Go.Deep.trod_struct3 Try.underlying25 hy
        rw [c0] at q0 q1 q2
        obtain ⟨p, hp, _, wp⟩ := DataW.trod_int Try.underlying3 q0
        obtain ⟨q, hq, _, wq⟩ := DataW.trod_int Try.underlying3 q1
        obtain ⟨r, hr, _, wr⟩ := DataW.trod_int Try.underlying3 q2
        match cs, hcl with
        | [s, t, u], _ =>
          simp at hp hq hr
          have g0 := hcc 0 (by omega)
          have g1 := hcc 1 (by omega)
          have g2 := hcc 2 (by omega)
          rw [Addr.add_add] at g0 g1 g2
          simp [hp, hq, hr] at g0 g1 g2
          exact ⟨(p, q, r), fun _ => ⟨by simpa using g0, by simpa using g1, by simpa using g2⟩⟩
      · exact ⟨(0, 0, 0), fun h => absurd h hlt⟩
    obtain ⟨z, hz⟩ := Classical.axiomOfChoice each
    obtain ⟨b, off, spot⟩ := x0
    refine ⟨some ⟨b, off, spot⟩, l, c, b, off, fun i => (z i).1, fun i => (z i).2.1, fun i => (z i).2.2, rfl, ⟨hl, by unfold maxLen at hm; exact hm, fun h0 => ?_⟩, (fun h => by cases h), hwt⟩
    have hspot : spot = none := by simpa [Addr.add] using World.cell?_spot (hz 0 h0).1
    subst hspot
    refine ⟨rfl, fun i hi2 => ?_⟩
    obtain ⟨g0, g1, g2⟩ := hz i hi2
    rw [add_at] at g0 g1 g2
    rw [← Nat.add_assoc] at g1 g2
    exact ⟨g0, g1, g2⟩
set_option maxRecDepth 100000 in
theorem raw_xas {fuel : Nat} {cs : List Value} {x : DataW H × List MemPlace} (h : DataW.trod enc Try.prog w 0 (fun _ => true) true fuel 29 cs = some x) (hf : FitsW Try.prog 29 x.1) :
    ∃ (a : Option Addr) (len cap L off : Nat) (XN : Nat → ByteArray) (VA : Nat → Option Addr) (VC : Nat → Nat) (VB : Nat → List Int), cs = [.slice a len cap] ∧ XaAt w L off a len cap XN VA (fun i => (VB i).length) VC ∧ len * 40 ≤ 140737488351232 ∧
      ∀ i, i < len → (∃ VL VO, BtsAt w VL VO (.slice (VA i) (VB i).length (VC i)) (VB i)) ∧ (VA i = none → VC i = 0) ∧ (VB i).length ≤ 140737488351232 := by
  rcases DataW.trod_slice Try.underlying29 h with ⟨hcs, _⟩ | ⟨x0, l, c, elems, rest, n, _, hcs, hx, hb, hl, hm, hel, hi, hsp, _⟩
  · subst hcs
    exact ⟨none, 0, 0, w.heap.size, 0, fun _ => ByteArray.empty, fun _ => none, fun _ => 0, fun _ => [], rfl, ⟨Nat.le_refl _, by omega, fun h => absurd h (Nat.lt_irrefl _)⟩, by omega, fun i hi => absurd hi (Nat.not_lt_zero _)⟩
  · subst hcs
    have hc : Try.prog.cellsOf 60 = 2 := by kernel_rfl
    have c0 : Try.prog.cellsOf 9 = 1 := by kernel_rfl
    have c1 : Try.prog.cellsOf 32 = 1 := by kernel_rfl
    rw [hx] at hf
    obtain ⟨hf1, hf2⟩ := FitsW.slice Try.underlying29 hf
    have hwt : l * 40 ≤ 140737488351232 := by
      have this := hf1
      have hb1 : Try.prog.bytesOf 60 = 40 := by kernel_rfl
      rw [hb1] at this
      unfold reachBytes at this
      simp [hel] at this
      omega
    have each : ∀ i, ∃ z : ByteArray × Option Addr × Nat × List Int, i < l → w.cell? (x0.add (i * 2)) = some (.string z.1) ∧ w.cell? (x0.add (i * 2 + 1)) = some (.slice z.2.1 z.2.2.2.length z.2.2.1) ∧
        (∃ VL VO, BtsAt w VL VO (.slice z.2.1 z.2.2.2.length z.2.2.1) z.2.2.2) ∧ (z.2.1 = none → z.2.2.1 = 0) ∧ z.2.2.2.length ≤ 140737488351232 := by
      intro i
      by_cases hlt : i < l
      · have := hi i hlt
        have hei : elems[i]? = some (elems[i]'(by rw [hel]; exact hlt)) := List.getElem?_eq_getElem (by rw [hel]; exact hlt)
        have hfi := hf2 (elems[i]'(by rw [hel]; exact hlt)).1 (List.mem_map.2 ⟨_, List.getElem_mem _, rfl⟩)
        generalize (elems[i]'(by rw [hel]; exact hlt)) = y at hei hfi
        rw [hc, hei, Option.bind_eq_some_iff] at this
        obtain ⟨cs, hcs, hy⟩ := this
        obtain ⟨_, hcl, hcc⟩ := World.cells?_some hcs
        obtain ⟨ys, m, _, hyx, _, hyl, hyf⟩ := DataW.trod_struct Try.underlying60 hy
        have q0 : DataW.trod enc Try.prog w 0 (fun _ => true) true m 9 ((cs.drop 0).take (Try.prog.cellsOf 9)) = ys[0]? := hyf 0 _ rfl
        have q1 : DataW.trod enc Try.prog w 0 (fun _ => true) true m 32 ((cs.drop 1).take (Try.prog.cellsOf 32)) = ys[1]? := hyf 1 _ rfl
        rw [c0] at q0
        rw [c1] at q1
        match ys, hyl with
        | [y0, y1], _ =>
          match cs, hcl with
          | [s, t], _ =>
            replace q0 : DataW.trod enc Try.prog w 0 (fun _ => true) true m 9 [s] = some y0 := q0
            replace q1 : DataW.trod enc Try.prog w 0 (fun _ => true) true m 32 [t] = some y1 := q1
            obtain ⟨p, hp, _, _⟩ := DataW.trod_string Try.underlying9 q0
            rw [hyx] at hfi
            have hfy := FitsW.struct Try.underlying60 hfi (i := 1) rfl rfl
            obtain ⟨va, vc, VL, VO, vb, hv, hbt, hnil, hle⟩ := raw_bytes q1 hfy
            simp at hp hv
            have g0 := hcc 0 (by omega)
            have g1 := hcc 1 (by omega)
            rw [Addr.add_add] at g0 g1
            simp [hp, hv] at g0 g1
            exact ⟨(p, va, vc, vb), fun _ => ⟨by simpa using g0, by simpa using g1, ⟨VL, VO, hbt⟩, hnil, hle⟩⟩
      · exact ⟨(ByteArray.empty, none, 0, []), fun h => absurd h hlt⟩
    obtain ⟨z, hz⟩ := Classical.axiomOfChoice each
    obtain ⟨b, off, spot⟩ := x0
    refine ⟨some ⟨b, off, spot⟩, l, c, b, off, fun i => (z i).1, fun i => (z i).2.1, fun i => (z i).2.2.1, fun i => (z i).2.2.2, rfl, ⟨hl, by unfold maxLen at hm; exact hm, fun h0 => ?_⟩, hwt, fun i hi2 => (hz i hi2).2.2⟩
    have hspot : spot = none := by simpa [Addr.add] using World.cell?_spot (hz 0 h0).1
    subst hspot
    refine ⟨rfl, fun i hi2 => ?_⟩
    obtain ⟨g0, g1, _⟩ := hz i hi2
    rw [add_at] at g0 g1
    rw [← Nat.add_assoc] at g1
    exact ⟨g0, g1⟩
theorem raw_float {k : FloatKind} {t : TypeId} {fuel : Nat} {cs : List Value} {x : DataW H × List MemPlace} (ht : Try.prog.underlying t = some (.float k)) (h : DataW.trod enc Try.prog w 0 (fun _ => true) true fuel t cs = some x) : ∃ b, cs = [.float k b] ∧ (Lit.float k b).wf = true := by
  cases fuel with
  | zero => simp [DataW.trod] at h
  | succ n =>
    unfold DataW.trod at h
    rw [ht] at h
    split at h <;> simp_all

set_option maxRecDepth 100000 in
/-- An inode that came in. -/
theorem open_ino {ds : List (DataW H)} {ts : List TypeId} {j : Nat} {v : Value} {d : DataW H} {ps : List MemPlace} (hs : (DataW.weightsEach Try.prog ts ds).all (· ≤ reachBytes) = true) (ht : ts[j]? = some 31) (hd : ds[j]? = some d)
    (hval : Value.okWide Try.prog w .any 0 31 v) (h : DataW.Trod enc Try.prog w 0 (fun _ => true) true 31 v d ps) : ∃ D, InoG w v D := by
  have hfit : FitsW Try.prog 31 d := fun n hn => by
    have := List.all_eq_true.1 hs _ (DataW.weights_mem_each ht hd n hn)
    simpa using this
  obtain ⟨cs, rfl, hsz⟩ := okWide_struct Try.underlying31 hval
  have hC : Try.prog.cellsOf 31 = 11 := by kernel_rfl
  have c0 : Try.prog.cellsOf 3 = 1 := by kernel_rfl
  have ck : Try.prog.cellsOf 23 = 1 := by kernel_rfl
  have cf : Try.prog.cellsOf 27 = 1 := by kernel_rfl
  have ct : Try.prog.cellsOf 28 = 2 := by kernel_rfl
  have cs' : Try.prog.cellsOf 9 = 1 := by kernel_rfl
  have cx : Try.prog.cellsOf 29 = 1 := by kernel_rfl
  have ce : Try.prog.cellsOf 26 = 1 := by kernel_rfl
  obtain ⟨l⟩ := cs
  match l, hsz.trans hC with
  | [v0, v1, v2, v3, v4, v5, v6, v7, v8, v9, v10], _ =>
    obtain ⟨fuel, hf⟩ := h
    obtain ⟨xs, n, _, hx, _, hlen, hg⟩ := DataW.trod_struct Try.underlying31 hf
    match xs, hlen with
    | [y0, y1, y2, y3, y4, y5, y6, y7, y8, y9], _ =>
      have q0 : DataW.trod enc Try.prog w 0 (fun _ => true) true n 23 (((Value.agg ⟨[v0, v1, v2, v3, v4, v5, v6, v7, v8, v9, v10]⟩).cells.toList.drop 0).take (Try.prog.cellsOf 23)) = ([y0, y1, y2, y3, y4, y5, y6, y7, y8, y9] : List (DataW H × List MemPlace))[0]? := hg 0 _ rfl
      have q1 : DataW.trod enc Try.prog w 0 (fun _ => true) true n 3 (((Value.agg ⟨[v0, v1, v2, v3, v4, v5, v6, v7, v8, v9, v10]⟩).cells.toList.drop 1).take (Try.prog.cellsOf 3)) = ([y0, y1, y2, y3, y4, y5, y6, y7, y8, y9] : List (DataW H × List MemPlace))[1]? := hg 1 _ rfl
      have q2 : DataW.trod enc Try.prog w 0 (fun _ => true) true n 3 (((Value.agg ⟨[v0, v1, v2, v3, v4, v5, v6, v7, v8, v9, v10]⟩).cells.toList.drop 2).take (Try.prog.cellsOf 3)) = ([y0, y1, y2, y3, y4, y5, y6, y7, y8, y9] : List (DataW H × List MemPlace))[2]? := hg 2 _ rfl
      have q3 : DataW.trod enc Try.prog w 0 (fun _ => true) true n 3 (((Value.agg ⟨[v0, v1, v2, v3, v4, v5, v6, v7, v8, v9, v10]⟩).cells.toList.drop 3).take (Try.prog.cellsOf 3)) = ([y0, y1, y2, y3, y4, y5, y6, y7, y8, y9] : List (DataW H × List MemPlace))[3]? := hg 3 _ rfl
      have q4 : DataW.trod enc Try.prog w 0 (fun _ => true) true n 3 (((Value.agg ⟨[v0, v1, v2, v3, v4, v5, v6, v7, v8, v9, v10]⟩).cells.toList.drop 4).take (Try.prog.cellsOf 3)) = ([y0, y1, y2, y3, y4, y5, y6, y7, y8, y9] : List (DataW H × List MemPlace))[4]? := hg 4 _ rfl
      have q5 : DataW.trod enc Try.prog w 0 (fun _ => true) true n 3 (((Value.agg ⟨[v0, v1, v2, v3, v4, v5, v6, v7, v8, v9, v10]⟩).cells.toList.drop 5).take (Try.prog.cellsOf 3)) = ([y0, y1, y2, y3, y4, y5, y6, y7, y8, y9] : List (DataW H × List MemPlace))[5]? := hg 5 _ rfl
      have q6 : DataW.trod enc Try.prog w 0 (fun _ => true) true n 28 (((Value.agg ⟨[v0, v1, v2, v3, v4, v5, v6, v7, v8, v9, v10]⟩).cells.toList.drop 6).take (Try.prog.cellsOf 28)) = ([y0, y1, y2, y3, y4, y5, y6, y7, y8, y9] : List (DataW H × List MemPlace))[6]? := hg 6 _ rfl
      have q7 : DataW.trod enc Try.prog w 0 (fun _ => true) true n 9 (((Value.agg ⟨[v0, v1, v2, v3, v4, v5, v6, v7, v8, v9, v10]⟩).cells.toList.drop 8).take (Try.prog.cellsOf 9)) = ([y0, y1, y2, y3, y4, y5, y6, y7, y8, y9] : List (DataW H × List MemPlace))[7]? := hg 7 _ rfl
      have q8 : DataW.trod enc Try.prog w 0 (fun _ => true) true n 29 (((Value.agg ⟨[v0, v1, v2, v3, v4, v5, v6, v7, v8, v9, v10]⟩).cells.toList.drop 9).take (Try.prog.cellsOf 29)) = ([y0, y1, y2, y3, y4, y5, y6, y7, y8, y9] : List (DataW H × List MemPlace))[8]? := hg 8 _ rfl
      have q9 : DataW.trod enc Try.prog w 0 (fun _ => true) true n 26 (((Value.agg ⟨[v0, v1, v2, v3, v4, v5, v6, v7, v8, v9, v10]⟩).cells.toList.drop 10).take (Try.prog.cellsOf 26)) = ([y0, y1, y2, y3, y4, y5, y6, y7, y8, y9] : List (DataW H × List MemPlace))[9]? := hg 9 _ rfl
      rw [ck] at q0
      rw [c0] at q1 q2 q3 q4 q5
      rw [ct] at q6
      rw [cs'] at q7
      rw [cx] at q8
      rw [ce] at q9
      replace q0 : DataW.trod enc Try.prog w 0 (fun _ => true) true n 23 [v0] = some y0 := q0
      replace q1 : DataW.trod enc Try.prog w 0 (fun _ => true) true n 3 [v1] = some y1 := q1
      replace q2 : DataW.trod enc Try.prog w 0 (fun _ => true) true n 3 [v2] = some y2 := q2
      replace q3 : DataW.trod enc Try.prog w 0 (fun _ => true) true n 3 [v3] = some y3 := q3
      replace q4 : DataW.trod enc Try.prog w 0 (fun _ => true) true n 3 [v4] = some y4 := q4
      replace q5 : DataW.trod enc Try.prog w 0 (fun _ => true) true n 3 [v5] = some y5 := q5
      replace q6 : DataW.trod enc Try.prog w 0 (fun _ => true) true n 28 [v6, v7] = some y6 := q6
      replace q7 : DataW.trod enc Try.prog w 0 (fun _ => true) true n 9 [v8] = some y7 := q7
      replace q8 : DataW.trod enc Try.prog w 0 (fun _ => true) true n 29 [v9] = some y8 := q8
      replace q9 : DataW.trod enc Try.prog w 0 (fun _ => true) true n 26 [v10] = some y9 := q9
      simp only [Prod.mk.injEq] at hx
      obtain ⟨hx1, _⟩ := hx
      rw [hx1] at hfit
      obtain ⟨k, hk, _, _⟩ := DataW.trod_int Try.underlying23 q0
      obtain ⟨m, hm, _, _⟩ := DataW.trod_int Try.underlying3 q1
      obtain ⟨u, hu, _, _⟩ := DataW.trod_int Try.underlying3 q2
      obtain ⟨g, hgg, _, _⟩ := DataW.trod_int Try.underlying3 q3
      obtain ⟨li, hli, _, _⟩ := DataW.trod_int Try.underlying3 q4
      obtain ⟨s, hss, _, _⟩ := DataW.trod_int Try.underlying3 q5
      obtain ⟨ts, _, _, _, _, htl, hte⟩ := DataW.trod_array Try.underlying28 q6
      have r0 := hte 0 (by omega)
      have r1 := hte 1 (by omega)
      rw [cf] at r0 r1
      simp at r0 r1
      have hts : ∃ a b, ts = [a, b] := by
        match ts, htl with
        | [a, b], _ => exact ⟨a, b, rfl⟩
      obtain ⟨ta, tb, rfl⟩ := hts
      obtain ⟨t0, ht0, w0⟩ := raw_float Try.underlying27 (by simpa using r0)
      obtain ⟨t1, ht1, w1⟩ := raw_float Try.underlying27 (by simpa using r1)
      obtain ⟨ln, hln, _, _⟩ := DataW.trod_string Try.underlying9 q7
      obtain ⟨xa, xn, xc, L', off', XN, VA, VC, VB, hxv, hxat, hxl, hxe⟩ := raw_xas q8 (FitsW.struct Try.underlying31 hfit (i := 8) rfl rfl)
      obtain ⟨ea, en, ec, L, off, F, G, N, hev, heat, hec, hel⟩ := raw_exts q9 (FitsW.struct Try.underlying31 hfit (i := 9) rfl rfl)
      simp at hk hm hu hgg hli hss ht0 ht1 hln hxv hev
      subst hk hm hu hgg hli hss ht0 ht1 hln hxv hev
      refine ⟨⟨k, m, u, g, li, s, t0, t1, ln, xn, en, F, G, N, XN, VB⟩, xa, ea, xc, ec, L, off, L', off', VA, VC, rfl, heat, hxat, fun i hi => (hxe i hi).1, hec, fun i hi => (hxe i hi).2.1, hxl, hel, fun i hi => (hxe i hi).2.2, ?_, ?_⟩
      · show t0 < _
        simpa [Lit.wf] using w0
      · show t1 < _
        simpa [Lit.wf] using w1
end
theorem encodes_frame (D : InoD) (v : Value) (w : World) (h : InoG w v D) : Calls Try.prog 4 #[v] w fun e w' => e = .returned (.bool true) ∧ Below w.heap.size w w' := encodes_walk h
end Go.Proofs.Ytebnekpccdcnmaa
