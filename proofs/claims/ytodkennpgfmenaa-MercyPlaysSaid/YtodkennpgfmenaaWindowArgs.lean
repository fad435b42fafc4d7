/- MercyWindow: what came in. -/
import Derived.Test.YtodkennpgfmenaaWindow
import Derived.Test.YtodkennpgfmenaaOpen
namespace Go.Proofs.Ytodkennpgfmenaa
open Go.ChangeShapes Go.WideShapes Go.ChangeAt Go.RowKit Go.Troupe

theorem byte_of {a : Int} (h : (Lit.int .u8 a).wf = true) : ∃ x : Fin 256, a = ((x.val : Nat) : Int) := by
  have h' : (decide (IntKind.u8.min ≤ a) && decide (a ≤ IntKind.u8.max)) = true := h
  rw [Bool.and_eq_true, decide_eq_true_eq, decide_eq_true_eq] at h'
  have e1 : IntKind.u8.min = 0 := by rfl
  have e2 : IntKind.u8.max = 255 := by rfl
  rw [e1, e2] at h'
  obtain ⟨k, rfl⟩ := Int.eq_ofNat_of_zero_le h'.1
  exact ⟨⟨k, by have := h'.2; omega⟩, rfl⟩
theorem cells5 : Try.prog.cellsOf 5 = 1 := by kernel_rfl
theorem open_bytes {H : Type} {enc : TypeId × Value → H} {w : World} {base : Nat} {spare : Nat → Bool} {held : Bool} {fuel : Nat} {A : Option Addr} {len cap : Nat} {x : DataW H × List MemPlace}
    (h : DataW.trod enc Try.prog w base spare held fuel 29 [.slice A len cap] = some x) : ∃ L : List (Fin 256), L.length = len ∧ Cells w w.heap.size A (bytes L) ∧ len ≤ cap ∧ (A = none → cap = 0) := by
  obtain ⟨A', len', cap', hcs, hl, _, hA, hrow⟩ := rows_of Try.underlying29 h
  simp only [List.cons.injEq, Value.slice.injEq, and_true] at hcs
  obtain ⟨rfl, rfl, rfl⟩ := hcs
  rw [cells5] at hrow
  have hel : ∀ i, i < len → ∃ y : Fin 256, ∃ a, A = some a ∧ w.cell? (a.add (i * 1 + 0)) = some (.int .u8 ((y.val : Nat) : Int)) := by
    intro i hi
    obtain ⟨a, cs', y, n, hA, hc, ht⟩ := hrow i hi
    obtain ⟨_, hcl, hat⟩ := World.cells?_some hc
    obtain ⟨a0, e0, _, hwf⟩ := DataW.trod_int Try.underlying5 ht
    subst e0
    obtain ⟨y, rfl⟩ := byte_of hwf
    exact ⟨y, a, hA, by rw [← Go.Deep.add_add]; exact hat 0 (by omega)⟩
  obtain ⟨f, hf⟩ := Go.Deep.choose_lt hel
  refine ⟨(List.range len).map f, by simp, ?_, hl, fun h => (hA h).2⟩
  refine cells_of_rows (len := len) (sz := 1) (by decide) _ (by simp [bytes]) ?_
  intro i hi r hr
  obtain ⟨a, ha, h0⟩ := hf i hi
  obtain rfl : r = 0 := by omega
  exact ⟨a, _, ha, by simp [bytes, hi], h0⟩
theorem window_walk' (a b : Int) (ha : (Lit.int .u8 a).wf = true) (hb : (Lit.int .u8 b).wf = true) (Ad : Option Addr) (n c : Nat) (l : List (Fin 256)) (w : World) (hl : l.length = n) (hc : Cells w w.heap.size Ad (bytes l)) :
    Calls Try.prog 4 #[.int .u8 a, .int .u8 b, .slice Ad n c] w fun e w' => e = .returned (.bool true) ∧ Below w.heap.size w w' := by
  obtain ⟨x, rfl⟩ := byte_of ha
  obtain ⟨y, rfl⟩ := byte_of hb
  exact window_walk x.val y.val Ad n c l w x.isLt y.isLt hl hc
end Go.Proofs.Ytodkennpgfmenaa
