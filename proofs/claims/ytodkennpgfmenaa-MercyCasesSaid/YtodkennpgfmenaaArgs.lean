/- A slice of cases, of ints, of bytes, of operations that came in. -/
import Derived.Test.YtodkennpgfmenaaCases
import Derived.Test.YtodkennpgfmenaaOpen
namespace Go.Proofs.Ytodkennpgfmenaa
open Go.ChangeShapes Go.WideShapes Go.ChangeAt Go.RowKit Go.Troupe

theorem cells50 : Try.prog.cellsOf 50 = 2 := by kernel_rfl
theorem open_cases {H : Type} {enc : TypeId × Value → H} {w : World} {base : Nat} {spare : Nat → Bool} {held : Bool} {fuel : Nat} {A : Option Addr} {len cap : Nat} {x : DataW H × List MemPlace}
    (h : DataW.trod enc Try.prog w base spare held fuel 22 [.slice A len cap] = some x) : ∃ L : List Case, L.length = len ∧ Cells w w.heap.size A (flatC L) ∧ len ≤ cap ∧ (A = none → cap = 0) ∧ cap ≤ maxLen := by
  obtain ⟨A', len', cap', hcs, hl, hmx, hA, hrow⟩ := rows_of Try.underlying22 h
  simp only [List.cons.injEq, Value.slice.injEq, and_true] at hcs
  obtain ⟨rfl, rfl, rfl⟩ := hcs
  rw [cells50] at hrow
  have hel : ∀ i, i < len → ∃ y : Case, ∃ a, A = some a ∧ w.cell? (a.add (i * 2 + 0)) = some (.string y.r) ∧ w.cell? (a.add (i * 2 + 1)) = some (.int .i64 y.d) := by
    intro i hi
    obtain ⟨a, cs', y, n, hA, hc, ht⟩ := hrow i hi
    obtain ⟨_, hcl, hat⟩ := World.cells?_some hc
    obtain ⟨_, hf⟩ := fields_of Try.underlying50 (by kernel_rfl) cells50 ht
    obtain ⟨v0, y0, n0, h0, t0⟩ := hf 0 _ rfl
    obtain ⟨v1, y1, n1, h1, t1⟩ := hf 1 _ rfl
    obtain ⟨a0, e0, _, _⟩ := DataW.trod_string Try.underlying9 t0
    obtain ⟨a1, e1, _, _⟩ := DataW.trod_int Try.underlying3 t1
    simp only [List.cons.injEq, and_true] at e0 e1
    subst e0 e1
    exact ⟨⟨a0, a1⟩, a, hA, by rw [← Go.Deep.add_add]; exact (hat 0 (by omega)).trans h0, by rw [← Go.Deep.add_add]; exact (hat 1 (by omega)).trans h1⟩
  letI : Inhabited Case := ⟨⟨⟨#[]⟩, 0⟩⟩
  obtain ⟨f, hf⟩ := Go.Deep.choose_lt hel
  refine ⟨(List.range len).map f, by simp, ?_, hl, fun h => (hA h).2, hmx⟩
  refine cells_of_rows (len := len) (sz := 2) (by decide) _ (by rw [flatC_length]; simp; omega) ?_
  intro i hi r hr
  obtain ⟨a, ha, h0, h1⟩ := hf i hi
  obtain ⟨q0, q1⟩ := flatC_at ((List.range len).map f) i (f i) (by simp [hi])
  match r, hr with
  | 0, _ => exact ⟨a, _, ha, q0, h0⟩
  | 1, _ => exact ⟨a, _, ha, q1, h1⟩
end Go.Proofs.Ytodkennpgfmenaa
