/- The scripts of StashPlays, StashSums and StashKept: rows of operations; how they come in. -/
import Derived.Test.YtmbpilhngniigaaArgs
import Derived.Test.YtmbpilhngniigaaOrder
import Derived.Lib.SmallJoins
namespace Go.Proofs.Ytmbpilhngniigaa
open Go.ChangeShapes Go.WideShapes Go.ChangeAt Go.RowKit Go.Troupe

structure Opr where
  k : Fin 256
  id : Int
def flatP (l : List Opr) : List Value := l.flatMap fun x => [.int .u8 ((x.k.val : Nat) : Int), .int .u64 x.id]
theorem flatP_length (l : List Opr) : (flatP l).length = l.length * 2 := by
  induction l with
  | nil => rfl
  | cons x l ih => simp [flatP] at ih ⊢; omega
theorem flatP_at : ∀ (l : List Opr) (i : Nat) (x : Opr), l[i]? = some x → (flatP l)[i * 2]? = some (.int .u8 ((x.k.val : Nat) : Int)) ∧ (flatP l)[i * 2 + 1]? = some (.int .u64 x.id)
  | [], i, x, h => by simp at h
  | y :: l, 0, x, h => by
    simp at h; subst h
    simp [flatP]
  | y :: l, i + 1, x, h => by
    have h' : l[i]? = some x := by simpa using h
    obtain ⟨h0, h1⟩ := flatP_at l i x h'
    have e : flatP (y :: l) = [.int .u8 ((y.k.val : Nat) : Int), .int .u64 y.id] ++ flatP l := rfl
    refine ⟨?_, ?_⟩
    · rw [e, List.getElem?_append_right (by simp; omega)]
      simpa [show (i + 1) * 2 - 2 = i * 2 by omega] using h0
    · rw [e, List.getElem?_append_right (by simp; omega)]
      simpa [show (i + 1) * 2 + 1 - 2 = i * 2 + 1 by omega] using h1
theorem cells40 : Try.prog.cellsOf 40 = 2 := by kernel_rfl
theorem byte_of {x : Int} (h : (Lit.int .u8 x).wf = true) : ∃ y : Fin 256, x = ((y.val : Nat) : Int) := by
  have hx : 0 ≤ x ∧ x < 256 := by
    have h' : (decide (IntKind.u8.min ≤ x) && decide (x ≤ IntKind.u8.max)) = true := h
    rw [Bool.and_eq_true, decide_eq_true_eq, decide_eq_true_eq] at h'
    have e1 : IntKind.u8.min = 0 := by rfl
    have e2 : IntKind.u8.max = 255 := by rfl
    rw [e1, e2] at h'
    omega
  exact ⟨⟨x.toNat, by omega⟩, by simp; omega⟩
theorem open_oprs {H : Type} {enc : TypeId × Value → H} {w : World} {base : Nat} {spare : Nat → Bool} {held : Bool} {fuel : Nat} {A : Option Addr} {len cap : Nat} {x : DataW H × List MemPlace}
    (h : DataW.trod enc Try.prog w base spare held fuel 35 [.slice A len cap] = some x) : ∃ L : List Opr, L.length = len ∧ Cells w w.heap.size A (flatP L) ∧ len ≤ cap ∧ (A = none → cap = 0) := by
  obtain ⟨A', len', cap', hcs, hl, _, hA, hrow⟩ := rows_of Try.underlying35 h
  simp only [List.cons.injEq, Value.slice.injEq, and_true] at hcs
  obtain ⟨rfl, rfl, rfl⟩ := hcs
  rw [cells40] at hrow
  have hel : ∀ i, i < len → ∃ y : Opr, ∃ a, A = some a ∧ w.cell? (a.add (i * 2 + 0)) = some (.int .u8 ((y.k.val : Nat) : Int)) ∧ w.cell? (a.add (i * 2 + 1)) = some (.int .u64 y.id) := by
    intro i hi
    obtain ⟨a, cs', y, n, hA, hc, ht⟩ := hrow i hi
    obtain ⟨_, hcl, hat⟩ := World.cells?_some hc
    obtain ⟨_, hf⟩ := fields_of Try.underlying40 (by kernel_rfl) cells40 ht
    obtain ⟨v0, y0, n0, h0, t0⟩ := hf 0 _ rfl
    obtain ⟨v1, y1, n1, h1, t1⟩ := hf 1 _ rfl
    obtain ⟨a0, e0, _, wf0⟩ := DataW.trod_int Try.underlying5 t0
    obtain ⟨a1, e1, _, _⟩ := DataW.trod_int Try.underlying28 t1
    simp only [List.cons.injEq, and_true] at e0 e1
    obtain ⟨y8, rfl⟩ := byte_of wf0
    subst e0 e1
    exact ⟨⟨y8, a1⟩, a, hA, by rw [← Go.Deep.add_add]; exact (hat 0 (by omega)).trans h0, by rw [← Go.Deep.add_add]; exact (hat 1 (by omega)).trans h1⟩
  letI : Inhabited Opr := ⟨⟨0, 0⟩⟩
  obtain ⟨f, hf⟩ := Go.Deep.choose_lt hel
  refine ⟨(List.range len).map f, by simp, ?_, hl, fun h => (hA h).2⟩
  refine cells_of_rows (len := len) (sz := 2) (by decide) _ (by rw [flatP_length]; simp) ?_
  intro i hi r hr
  obtain ⟨a, ha, h0, h1⟩ := hf i hi
  obtain ⟨q0, q1⟩ := flatP_at ((List.range len).map f) i (f i) (by simp [hi])
  match r, hr with
  | 0, _ => exact ⟨a, _, ha, q0, h0⟩
  | 1, _ => exact ⟨a, _, ha, q1, h1⟩
/-- An operation's cells. -/
theorem opr_cells {w : World} {B : Nat} {A : Option Addr} {l : List Opr} (h : Cells w B A (flatP l)) {j : Nat} {x : Opr} (hx : l[j]? = some x) :
    ∃ b o, A = some ⟨b, o, none⟩ ∧ b < B ∧ w.cell? ⟨b, o + j * 2, none⟩ = some (.int .u8 ((x.k.val : Nat) : Int)) ∧ w.cell? ⟨b, o + j * 2 + 1, none⟩ = some (.int .u64 x.id) := by
  obtain ⟨q0, q1⟩ := flatP_at l j x hx
  obtain ⟨b, o, hA, hb, h1⟩ := h.at_ (by intro e; rw [e] at q0; simp at q0)
  exact ⟨b, o, hA, hb, h1 _ _ q0, by rw [Nat.add_assoc]; exact h1 _ _ q1⟩
end Go.Proofs.Ytmbpilhngniigaa
