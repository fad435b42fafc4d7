/- MercyPlays: what came in. -/
import Derived.Test.YtodkennpgfmenaaPlaysLaw
import Derived.Test.YtodkennpgfmenaaWindowArgs
namespace Go.Proofs.Ytodkennpgfmenaa
open Go.ChangeShapes Go.WideShapes Go.ChangeAt Go.RowKit Go.Troupe

theorem cells39 : Try.prog.cellsOf 39 = 3 := by kernel_rfl
theorem open_ops {H : Type} {enc : TypeId × Value → H} {w : World} {base : Nat} {spare : Nat → Bool} {held : Bool} {fuel : Nat} {A : Option Addr} {len cap : Nat} {x : DataW H × List MemPlace}
    (h : DataW.trod enc Try.prog w base spare held fuel 36 [.slice A len cap] = some x) : ∃ L : List Ope, L.length = len ∧ Cells w w.heap.size A (flatO L) ∧ len ≤ cap ∧ (A = none → cap = 0) := by
  obtain ⟨A', len', cap', hcs, hl, _, hA, hrow⟩ := rows_of Try.underlying36 h
  simp only [List.cons.injEq, Value.slice.injEq, and_true] at hcs
  obtain ⟨rfl, rfl, rfl⟩ := hcs
  rw [cells39] at hrow
  have hel : ∀ i, i < len → ∃ y : Ope, ∃ a, A = some a ∧ w.cell? (a.add (i * 3 + 0)) = some (.int .u8 ((y.k.val : Nat) : Int)) ∧ w.cell? (a.add (i * 3 + 1)) = some (.int .i64 y.c) ∧ w.cell? (a.add (i * 3 + 2)) = some (.int .i64 y.t) := by
    intro i hi
    obtain ⟨a, cs', y, n, hA, hc, ht⟩ := hrow i hi
    obtain ⟨_, hcl, hat⟩ := World.cells?_some hc
    obtain ⟨_, hf⟩ := fields_of Try.underlying39 (by kernel_rfl) cells39 ht
    obtain ⟨v0, y0, n0, h0, t0⟩ := hf 0 _ rfl
    obtain ⟨v1, y1, n1, h1, t1⟩ := hf 1 _ rfl
    obtain ⟨v2, y2, n2, h2, t2⟩ := hf 2 _ rfl
    obtain ⟨a0, e0, _, wf0⟩ := DataW.trod_int Try.underlying5 t0
    obtain ⟨a1, e1, _, _⟩ := DataW.trod_int Try.underlying3 t1
    obtain ⟨a2, e2, _, _⟩ := DataW.trod_int Try.underlying3 t2
    simp only [List.cons.injEq, and_true] at e0 e1 e2
    obtain ⟨y8, rfl⟩ := byte_of wf0
    subst e0 e1 e2
    exact ⟨⟨y8, a1, a2⟩, a, hA, by rw [← Go.Deep.add_add]; exact (hat 0 (by omega)).trans h0, by rw [← Go.Deep.add_add]; exact (hat 1 (by omega)).trans h1, by rw [← Go.Deep.add_add]; exact (hat 2 (by omega)).trans h2⟩
  letI : Inhabited Ope := ⟨⟨0, 0, 0⟩⟩
  obtain ⟨f, hf⟩ := Go.Deep.choose_lt hel
  refine ⟨(List.range len).map f, by simp, ?_, hl, fun h => (hA h).2⟩
  refine cells_of_rows (len := len) (sz := 3) (by decide) _ (by rw [flatO_length]; simp; omega) ?_
  intro i hi r hr
  obtain ⟨a, ha, h0, h1, h2⟩ := hf i hi
  obtain ⟨q0, q1, q2⟩ := flatO_at ((List.range len).map f) i (f i) (by simp [hi])
  match r, hr with
  | 0, _ => exact ⟨a, _, ha, q0, h0⟩
  | 1, _ => exact ⟨a, _, ha, q1, h1⟩
  | 2, _ => exact ⟨a, _, ha, q2, h2⟩
end Go.Proofs.Ytodkennpgfmenaa
