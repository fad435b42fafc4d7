/- What came in: rows of words. -/
import Derived.Test.YtmbpilhngniigaaReverse
import Derived.Test.YtmbpilhngniigaaOpen
namespace Go.Proofs.Ytmbpilhngniigaa
open Go.ChangeShapes Go.WideShapes Go.ChangeAt Go.RowKit Go.Troupe

theorem cells28 : Try.prog.cellsOf 28 = 1 := by kernel_rfl
theorem open_words {H : Type} {enc : TypeId × Value → H} {w : World} {base : Nat} {spare : Nat → Bool} {held : Bool} {fuel : Nat} {A : Option Addr} {len cap : Nat} {x : DataW H × List MemPlace}
    (h : DataW.trod enc Try.prog w base spare held fuel 22 [.slice A len cap] = some x) : ∃ L : List Int, L.length = len ∧ Cells w w.heap.size A (words L) ∧ len ≤ cap ∧ (A = none → cap = 0) ∧ cap ≤ maxLen := by
  obtain ⟨A', len', cap', hcs, hl, hmx, hA, hrow⟩ := rows_of Try.underlying22 h
  simp only [List.cons.injEq, Value.slice.injEq, and_true] at hcs
  obtain ⟨rfl, rfl, rfl⟩ := hcs
  rw [cells28] at hrow
  have hel : ∀ i, i < len → ∃ y : Int, ∃ a, A = some a ∧ w.cell? (a.add (i * 1 + 0)) = some (.int .u64 y) := by
    intro i hi
    obtain ⟨a, cs', y, n, hA, hc, ht⟩ := hrow i hi
    obtain ⟨_, hcl, hat⟩ := World.cells?_some hc
    obtain ⟨a0, e0, _, _⟩ := DataW.trod_int Try.underlying28 ht
    subst e0
    exact ⟨a0, a, hA, by rw [← Go.Deep.add_add]; exact hat 0 (by omega)⟩
  obtain ⟨f, hf⟩ := Go.Deep.choose_lt hel
  refine ⟨(List.range len).map f, by simp, ?_, hl, fun h => (hA h).2, hmx⟩
  refine cells_of_rows (len := len) (sz := 1) (by decide) _ (by simp [words]) ?_
  intro i hi r hr
  obtain ⟨a, ha, h0⟩ := hf i hi
  obtain rfl : r = 0 := by omega
  exact ⟨a, _, ha, by simp [words, hi], h0⟩
end Go.Proofs.Ytmbpilhngniigaa
