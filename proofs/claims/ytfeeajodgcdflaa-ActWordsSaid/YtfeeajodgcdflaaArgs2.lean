/- What came in: three numbers in an array, a slice of numbers, an effect. -/
import Derived.Test.YtfeeajodgcdflaaArgs
import Derived.Test.YtfeeajodgcdflaaWords
import Derived.Laws.IdiomArrays
namespace Go.Proofs.Ytfeeajodgcdflaa
open Go.ChangeShapes Go.WideShapes Go.ChangeAt Go.RowKit Go.Deep Go.Troupe
section
variable {H : Type} {enc : TypeId × Value → H} {w : World} {base : Nat} {spare : Nat → Bool} {held : Bool}
theorem cells3 : Try.prog.cellsOf 3 = 1 := by kernel_rfl
theorem cells33 : Try.prog.cellsOf 33 = 3 := by kernel_rfl
theorem open_arr3 {v : Value} {base' : Nat} {x : DataW H × List MemPlace} (hv : Value.okWide Try.prog w .any base' 33 v) (h : ∃ fuel, DataW.trod enc Try.prog w base spare held fuel 33 v.cells.toList = some x) :
    ∃ a b c : Int, v = .agg #[.int .i64 a, .int .i64 b, .int .i64 c] := by
  simp only [Value.okWide, Try.underlying33] at hv
  obtain ⟨cs, rfl, hs, _⟩ := hv
  rw [cells33] at hs
  obtain ⟨l⟩ := cs
  match l, hs with
  | [c0, c1, c2], _ =>
  obtain ⟨fuel, hf⟩ := h
  have hf' : DataW.trod enc Try.prog w base spare held fuel 33 [c0, c1, c2] = some x := by simpa [Value.cells] using hf
  obtain ⟨y0, y1, y2, m, _, h0, h1, h2⟩ := trod_array3 Try.underlying33 cells3 hf'
  obtain ⟨k0, e0, _, _⟩ := DataW.trod_int Try.underlying3 h0
  obtain ⟨k1, e1, _, _⟩ := DataW.trod_int Try.underlying3 h1
  obtain ⟨k2, e2, _, _⟩ := DataW.trod_int Try.underlying3 h2
  simp only [List.cons.injEq, and_true] at e0 e1 e2
  subst e0 e1 e2
  exact ⟨k0, k1, k2, rfl⟩
theorem open_nums {fuel : Nat} {A : Option Addr} {len cap : Nat} {x : DataW H × List MemPlace}
    (h : DataW.trod enc Try.prog w base spare held fuel 34 [.slice A len cap] = some x) : ∃ L : List Int, L.length = len ∧ Cells w w.heap.size A (nums L) ∧ len ≤ cap ∧ (A = none → cap = 0) := by
  obtain ⟨A', len', cap', hcs, hl, hmx, hA, hrow⟩ := rows_of Try.underlying34 h
  simp only [List.cons.injEq, Value.slice.injEq, and_true] at hcs
  obtain ⟨rfl, rfl, rfl⟩ := hcs
  rw [cells3] at hrow
  have hel : ∀ i, i < len → ∃ y : Int, ∃ a, A = some a ∧ w.cell? (a.add (i * 1 + 0)) = some (.int .i64 y) := by
    intro i hi
    obtain ⟨a, cs', y, n, hA, hc, ht⟩ := hrow i hi
    obtain ⟨_, hcl, hat⟩ := World.cells?_some hc
    obtain ⟨a0, e0, _, _⟩ := DataW.trod_int Try.underlying3 ht
    subst e0
    exact ⟨a0, a, hA, by rw [← Go.Deep.add_add]; exact hat 0 (by omega)⟩
  obtain ⟨f, hf⟩ := Go.Deep.choose_lt hel
  refine ⟨(List.range len).map f, by simp, ?_, hl, fun h => (hA h).2⟩
  refine cells_of_rows (len := len) (sz := 1) (by decide) _ (by simp [nums]) ?_
  intro i hi r hr
  obtain rfl : r = 0 := by omega
  obtain ⟨a, hA, hc⟩ := hf i hi
  exact ⟨a, _, hA, by simp [nums, hi], hc⟩
end
end Go.Proofs.Ytfeeajodgcdflaa
