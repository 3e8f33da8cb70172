/- The layer extent: what ExtentAll leans on. -/
import Derived.Test.YtidifimhgnjomaaHf
import Derived.MapKept
namespace Go.Proofs.Ytidifimhgnjomaa
set_option linter.unusedVariables false
set_option linter.unusedSimpArgs false
open Go.ChangeShapes Go.WideShapes Go.ChangeAt Go.RowKit Go.MapKept

/-- The home of a block. -/
def homeV (sc : Bool) (base : Int) (b : Int) : Int := if sc = true then base + 2 * b else base + b
theorem home_any7 (B5 B4 : Nat) (sc : Bool) (base b : Int) (w : World) (h5 : w.cell? ⟨B5, 0, none⟩ = some (.bool sc)) (h4 : w.cell? ⟨B4, 0, none⟩ = some (.int .i64 base)) (hb0 : 0 ≤ b) (hb1 : b < 40) (hs0 : 0 ≤ base) (hs1 : base < 100) :
    Calls Try.prog 7 #[.int .i64 b, .pointer (some ⟨B5, 0, none⟩), .pointer (some ⟨B4, 0, none⟩)] w fun e w' => e = .returned (.int .i64 (homeV sc base b)) ∧ w = w' := by
  cases sc
  · have HX : Hid (homeV false base b = base + b) := rfl
    go_enter Try.func7, Try.ntmps7
    go_wp2
    go_ret
    exact ⟨by rw [HX.out]; rfl, rfl⟩
  · have HX : Hid (homeV true base b = base + 2 * b) := rfl
    go_enter Try.func7, Try.ntmps7
    go_wp2
    go_ret
    exact ⟨by rw [HX.out]; rfl, rfl⟩

theorem set_new (w : World) (o o' : Obj) : ({ w.alloc o with heap := (w.alloc o).heap.setIfInBounds w.heap.size o' } : World) = w.alloc o' := by
  simp only [World.alloc]
  congr 1
  apply Array.ext_getElem?
  intro i
  by_cases h : w.heap.size = i
  · subst h; simp
  · rw [Array.getElem?_setIfInBounds, if_neg h, Array.getElem?_push, Array.getElem?_push, if_neg (fun e => h e.symm), if_neg (fun e => h e.symm)]
theorem boolKey (b : Bool) : IsKey .bool (.bool b) := by
  first | exact .bool | exact trivial | exact ⟨_, rfl⟩ | (unfold IsKey; simp)

def oneEs : Array MapEntry := #[{ key := .bool true, val := .int .i64 40, born := 0 }]
def twoEs : Array MapEntry := #[{ key := .bool true, val := .int .i64 40, born := 0 }, { key := .bool false, val := .int .i64 1, born := 1 }]
theorem map_one (w : World) : (Instr.mapUpdate 35 (.map (some w.heap.size)) (.bool true) (.int .i64 40)).run Try.prog (w.alloc (.map #[] 0)) = .ok () (w.alloc (.map oneEs 1)) := by
  have hb : (w.alloc (.map #[] 0)).heap[w.heap.size]? = some (.map #[] 0) := heap_alloc_new w _
  have h1 := Go.MapKept.run_getObj_map (P := Try.prog) hb
  have h2 := run_checkKey (P := Try.prog) (w := w.alloc (.map #[] 0)) Try.underlying4 (boolKey true) false 9999
  have h3 := run_findKey (P := Try.prog) (w := w.alloc (.map #[] 0)) (k := .bool true) (l := []) (a := none) Try.underlying4 rfl
  have h4 := Go.MapKept.run_setObj_map (P := Try.prog) (.map oneEs 1) hb
  rw [set_new] at h4
  simp only [Instr.mapUpdate, Sem.run_bind, run_underlying Try.underlying35, Result.andThen_ok, h1]
  simp only [Sem.run_bind, h2, Result.andThen_ok, h3]
  exact h4
theorem map_two (w : World) : (Instr.mapUpdate 35 (.map (some w.heap.size)) (.bool false) (.int .i64 1)).run Try.prog (w.alloc (.map oneEs 1)) = .ok () (w.alloc (.map twoEs 2)) := by
  have hb : (w.alloc (.map oneEs 1)).heap[w.heap.size]? = some (.map oneEs 1) := heap_alloc_new w _
  have h1 := Go.MapKept.run_getObj_map (P := Try.prog) hb
  have h2 := run_checkKey (P := Try.prog) (w := w.alloc (.map oneEs 1)) Try.underlying4 (boolKey false) false 9999
  have h3 := run_findKey (P := Try.prog) (w := w.alloc (.map oneEs 1)) (k := .bool false) (l := oneEs.toList) (a := none) Try.underlying4 rfl
  have h4 := Go.MapKept.run_setObj_map (P := Try.prog) (.map twoEs 2) hb
  rw [set_new] at h4
  simp only [Instr.mapUpdate, Sem.run_bind, run_underlying Try.underlying35, Result.andThen_ok, h1]
  simp only [Sem.run_bind, h2, Result.andThen_ok, h3]
  exact h4
theorem map_look (w : World) (sc : Bool) : (Instr.lookup 35 (.map (some w.heap.size)) (.bool sc) false).run Try.prog (w.alloc (.map twoEs 2)) = .ok (.int .i64 (if sc = true then 40 else 1)) (w.alloc (.map twoEs 2)) := by
  have hb : (w.alloc (.map twoEs 2)).heap[w.heap.size]? = some (.map twoEs 2) := heap_alloc_new w _
  have h1 := Go.MapKept.run_getObj_map (P := Try.prog) hb
  have h2 := run_checkKey (P := Try.prog) (w := w.alloc (.map twoEs 2)) Try.underlying4 (boolKey sc) false 9999
  cases sc
  · have h3 := run_findKey (P := Try.prog) (w := w.alloc (.map twoEs 2)) (k := .bool false) (l := twoEs.toList) (a := some (1, .int .i64 1)) Try.underlying4 rfl
    simp only [Instr.lookup, Sem.run_bind, run_underlying Try.underlying35, Result.andThen_ok, h1, Sem.run_pure]
    simp only [show twoEs.isEmpty = false from rfl, Sem.run_bind, h2, Result.andThen_ok, h3, Sem.run_pure]
    rfl
  · have h3 := run_findKey (P := Try.prog) (w := w.alloc (.map twoEs 2)) (k := .bool true) (l := twoEs.toList) (a := some (0, .int .i64 40)) Try.underlying4 rfl
    simp only [Instr.lookup, Sem.run_bind, run_underlying Try.underlying35, Result.andThen_ok, h1, Sem.run_pure]
    simp only [show twoEs.isEmpty = false from rfl, Sem.run_bind, h2, Result.andThen_ok, h3, Sem.run_pure]
    rfl
end Go.Proofs.Ytidifimhgnjomaa
