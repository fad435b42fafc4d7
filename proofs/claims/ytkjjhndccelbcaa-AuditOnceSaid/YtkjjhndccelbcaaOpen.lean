/-
  Arguments that are slices, opened to a list of cells, whatever the element type; over any program.
-/
import Derived.Test.YtkjjhndccelbcaaMem
import Derived.ProofKit
import Derived.OpenShut
import Derived.ShutString
import Derived.ChangeOld
import Derived.Carry
import Derived.Deep.Slices
import Derived.Deep.Fields
namespace Go.Troupe
open Go.RowKit Go.Deep Go.ChangeShapes Go.WideShapes

section
variable {H : Type} {enc : TypeId × Value → H} {P : Program} {w : World} {base : Nat} {spare : Nat → Bool} {held : Bool}

theorem lt_of_cell {w : World} {a : Addr} {v : Value} (h : w.cell? a = some v) : a.block < w.heap.size := by
  rcases Nat.lt_or_ge a.block w.heap.size with hlt | hge
  · exact hlt
  · unfold World.cell? at h
    rw [Array.getElem?_eq_none hge] at h
    cases h

/-- A slice that is read: its length, and each element's cells with their reading. -/
theorem rows_of {t e : TypeId} {fuel : Nat} {cs : List Value} {x : DataW H × List MemPlace} (ht : P.underlying t = some (.slice e)) (h : DataW.trod enc P w base spare held fuel t cs = some x) :
    ∃ A len cap, cs = [.slice A len cap] ∧ len ≤ cap ∧ cap ≤ maxLen ∧ (A = none → len = 0 ∧ cap = 0) ∧
      ∀ i, i < len → ∃ a cs' y n, A = some a ∧ w.cells? base (a.add (i * P.cellsOf e)) (P.cellsOf e) = some cs' ∧ DataW.trod enc P w base spare held n e cs' = some y := by
  rcases open_slice ht h with ⟨rfl, _⟩ | ⟨a, len, cap, m, n, D, Pl, rfl, _, hl, hm, hmm, _, hi⟩
  · exact ⟨none, 0, 0, rfl, Nat.le_refl _, by simp [maxLen], fun _ => ⟨rfl, rfl⟩, fun i hi => absurd hi (Nat.not_lt_zero _)⟩
  · refine ⟨some a, len, cap, rfl, hl, hm, fun h => by (cases h), fun i hil => ?_⟩
    obtain ⟨cs', h1, h2⟩ := hi i (by rw [hmm]; split <;> omega)
    exact ⟨a, cs', _, n, rfl, h1, h2⟩

/-- A struct of one-cell fields that is read: each cell with its reading. -/
theorem fields_of {e : TypeId} {fs : Array Field} {fuel : Nat} {cs : List Value} {x : DataW H × List MemPlace} (he : P.underlying e = some (.struct fs)) (hone : oneCellFields P fs = true) (hC : P.cellsOf e = fs.size)
    (h : DataW.trod enc P w base spare held fuel e cs = some x) : cs.length = P.cellsOf e ∧ ∀ (j : Nat) (f : Field), fs[j]? = some f → ∃ v y n, cs[j]? = some v ∧ DataW.trod enc P w base spare held n f.type [v] = some y := by
  obtain ⟨xs, n, _, _, hlen, hxl, hf⟩ := DataW.trod_struct he h
  refine ⟨hlen, fun j f hj => ?_⟩
  obtain ⟨ho, hk⟩ := hone_of hone j f hj
  have hjl : j < fs.size := (Array.getElem?_eq_some_iff.1 hj).1
  have h1 := hf j f hj
  rw [ho, hk, List.getElem?_eq_getElem (by omega)] at h1
  have hlt : j < cs.length := by omega
  rw [List.drop_eq_getElem_cons hlt] at h1
  exact ⟨cs[j], xs[j]'(by omega), n, List.getElem?_eq_getElem hlt, h1⟩

/-- From the cells of each element to the cells of all. -/
theorem cells_of_rows {A : Option Addr} {len sz : Nat} (hsz : 0 < sz) (xs : List Value) (hl : xs.length = len * sz)
    (h : ∀ i, i < len → ∀ r, r < sz → ∃ a u, A = some a ∧ xs[i * sz + r]? = some u ∧ w.cell? (a.add (i * sz + r)) = some u) : Cells w w.heap.size A xs := by
  rcases Nat.eq_zero_or_pos len with rfl | hlen
  · exact .inl (List.eq_nil_of_length_eq_zero (by simpa using hl))
  obtain ⟨a, u, rfl, _, hc⟩ := h 0 hlen 0 hsz
  have ha : a.add (0 * sz + 0) = a := by simp [Addr.add]
  rw [ha] at hc
  have hsp := World.cell?_spot hc
  obtain ⟨b, off, spot⟩ := a
  simp only at hsp
  subst hsp
  refine .inr ⟨b, off, rfl, lt_of_cell hc, fun j v hv => ?_⟩
  have hj : j < len * sz := by rw [← hl]; exact (List.getElem?_eq_some_iff.1 hv).1
  obtain ⟨a', u', ha', hx, hc'⟩ := h (j / sz) (Nat.div_lt_of_lt_mul (by rw [Nat.mul_comm]; exact hj)) (j % sz) (Nat.mod_lt _ hsz)
  cases ha'
  rw [Nat.div_add_mod' j sz] at hx hc'
  rw [hx] at hv
  cases hv
  by_cases h0 : j = 0
  · subst h0; simpa [Addr.add] using hc'
  · simpa [Addr.add, h0] using hc'
end
end Go.Troupe
