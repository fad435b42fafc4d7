/- What came in: a program, its kinds whole. -/
import Derived.Test.YtfeeajodgcdflaaArgs
import Derived.Test.YtfeeajodgcdflaaKinds
namespace Go.Proofs.Ytfeeajodgcdflaa
open Go.ChangeShapes Go.WideShapes Go.ChangeAt Go.RowKit Go.Deep Go.Troupe
section
variable {H : Type} {enc : TypeId × Value → H} {w : World} {base : Nat} {spare : Nat → Bool} {held : Bool}
instance : Inhabited Cs := ⟨⟨⟨#[]⟩, 0⟩⟩
instance : Inhabited Kf := ⟨⟨⟨#[]⟩, 0, 0, [], none, 0, [], none, 0⟩⟩
theorem cells74 : Try.prog.cellsOf 74 = 2 := by kernel_rfl
theorem cells52 : Try.prog.cellsOf 52 = 1 := by kernel_rfl
theorem bytes74 : Try.prog.bytesOf 74 = 24 := by kernel_rfl
theorem bytes25 : Try.prog.bytesOf 25 = 80 := by kernel_rfl
theorem openC (n : Nat) (cs' : List Value) (y : DataW H × List MemPlace) (h : DataW.trod enc Try.prog w base spare held n 74 cs' = some y) (hz : Light Try.prog 74 y.1) : ∃ z : Cs, cs' = z.cells ∧ True := by
  obtain ⟨hl, hf⟩ := fields_light Try.underlying74 (by kernel_rfl) cells74 h hz
  obtain ⟨v0, y0, n0, h0, t0, _⟩ := hf 0 _ rfl
  obtain ⟨v1, y1, n1, h1, t1, _⟩ := hf 1 _ rfl
  obtain ⟨a0, e0, _, _⟩ := DataW.trod_string Try.underlying9 t0
  obtain ⟨a1, e1, _, _⟩ := DataW.trod_int Try.underlying3 t1
  simp only [List.cons.injEq, and_true] at e0 e1
  subst e0 e1
  refine ⟨⟨a0, a1⟩, list_of_get (by rw [hl, cells74]; rfl) ?_, trivial⟩
  intro j v hv
  match j, hv with
  | 0, hv => exact hv ▸ h0
  | 1, hv => exact hv ▸ h1
  | j + 2, hv => simp [Cs.cells] at hv
theorem openS5 (n : Nat) (cs' : List Value) (y : DataW H × List MemPlace) (h : DataW.trod enc Try.prog w base spare held n 45 cs' = some y) (hz : Light Try.prog 45 y.1) : ∃ z : St, cs' = z.cells ∧ StF w w.heap.size z := by
  obtain ⟨hl, hf⟩ := fields_light Try.underlying45 (by kernel_rfl) cells45 h hz
  obtain ⟨v0, y0, n0, h0, t0, _⟩ := hf 0 _ rfl
  obtain ⟨v1, y1, n1, h1, t1, l1⟩ := hf 1 _ rfl
  obtain ⟨a0, e0, _, _⟩ := DataW.trod_string Try.underlying9 t0
  obtain ⟨A, len, cap, hcs, _, _, _, _⟩ := rows_of Try.underlying43 t1
  simp only [List.cons.injEq, and_true] at e0 hcs
  subst e0 hcs
  obtain ⟨L, hL, hc, hP, _, hnil, _, hby⟩ := open_list (f := Rw.cells) (sz := 4) (fun _ => rfl) (by decide) cells47 Try.underlying43 openR t1 l1
  rw [bytes47] at hby
  refine ⟨⟨a0, L, A, cap⟩, list_of_get (by rw [hl, cells45]; rfl) ?_, hc, fun h => (hnil h).2, fun r hr => hP r hr, by rw [hL]; exact Nat.le_trans hby reach_le⟩
  intro j v hv
  match j, hv with
  | 0, hv => exact hv ▸ h0
  | 1, hv => simp [St.cells] at hv; rw [hL] at hv; exact hv ▸ h1
  | j + 2, hv => simp [St.cells] at hv
theorem openF (n : Nat) (cs' : List Value) (y : DataW H × List MemPlace) (h : DataW.trod enc Try.prog w base spare held n 25 cs' = some y) (hz : Light Try.prog 25 y.1) : ∃ z : Kf, cs' = z.cells ∧ KfIn w w.heap.size z := by
  obtain ⟨hl, hf⟩ := fields_light Try.underlying25 (by kernel_rfl) cells25 h hz
  obtain ⟨v0, y0, n0, h0, t0, _⟩ := hf 0 _ rfl
  obtain ⟨v1, y1, n1, h1, t1, _⟩ := hf 1 _ rfl
  obtain ⟨v2, y2, n2, h2, t2, _⟩ := hf 2 _ rfl
  obtain ⟨v3, y3, n3, h3, t3, l3⟩ := hf 3 _ rfl
  obtain ⟨v4, y4, n4, h4, t4, l4⟩ := hf 4 _ rfl
  obtain ⟨a0, e0, _, _⟩ := DataW.trod_string Try.underlying9 t0
  obtain ⟨a1, e1, _, _⟩ := DataW.trod_int Try.underlying3 t1
  obtain ⟨a2, e2, _, _⟩ := DataW.trod_int Try.underlying3 t2
  obtain ⟨A3, len3, cap3, hcs3, _, _, _, _⟩ := rows_of Try.underlying22 t3
  obtain ⟨A, len, cap, hcs, _, _, _, _⟩ := rows_of Try.underlying23 t4
  simp only [List.cons.injEq, and_true] at e0 e1 e2 hcs3 hcs
  subst e0 e1 e2 hcs3 hcs
  obtain ⟨C, hC, hcc, _, _, hnilC, _, hbyC⟩ := open_list (f := Cs.cells) (sz := 2) (fun _ => rfl) (by decide) cells74 Try.underlying22 openC t3 l3
  obtain ⟨L, hL, hc, hP, _, hnil, _, hby⟩ := open_list (f := St.cells) (sz := 2) (fun _ => rfl) (by decide) cells45 Try.underlying23 openS5 t4 l4
  rw [bytes45] at hby
  rw [bytes74] at hbyC
  refine ⟨⟨a0, a1, a2, C, A3, cap3, L, A, cap⟩, ?_, ⟨hcc, fun h => (hnilC h).2, by dsimp only; rw [hC]; exact Nat.le_trans hbyC reach_le⟩, hc, fun h => (hnil h).2, fun s hs => hP s hs, by dsimp only; rw [hL]; exact Nat.le_trans hby reach_le⟩
  refine list_of_get (by rw [hl, cells25]; rfl) ?_
  intro j v hv
  match j, hv with
  | 0, hv => exact hv ▸ h0
  | 1, hv => exact hv ▸ h1
  | 2, hv => exact hv ▸ h2
  | 3, hv => simp [Kf.cells] at hv; rw [hC] at hv; exact hv ▸ h3
  | 4, hv => simp [Kf.cells] at hv; rw [hL] at hv; exact hv ▸ h4
  | j + 5, hv => simp [Kf.cells] at hv
theorem openP (n : Nat) (cs' : List Value) (y : DataW H × List MemPlace) (h : DataW.trod enc Try.prog w base spare held n 52 cs' = some y) (hz : Light Try.prog 52 y.1) :
    ∃ (A : Option Addr) (c : Nat) (ks : List Kf), cs'.toArray = #[.slice A ks.length c] ∧ Cells w w.heap.size A (flatK ks) ∧ KindsIn w w.heap.size ks ∧ ks.length ≤ 140737488355328 ∧ (A = none → c = 0) := by
  obtain ⟨hl, hf⟩ := fields_light Try.underlying52 (by kernel_rfl) cells52 h hz
  obtain ⟨v0, y0, n0, h0, t0, l0⟩ := hf 0 _ rfl
  obtain ⟨A, len, cap, hcs, _, _, _, _⟩ := rows_of Try.underlying50 t0
  simp only [List.cons.injEq, and_true] at hcs
  subst hcs
  obtain ⟨L, hL, hc, hP, _, hnil, _, hby⟩ := open_list (f := Kf.cells) (sz := 5) (fun _ => rfl) (by decide) cells25 Try.underlying50 openF t0 l0
  rw [bytes25] at hby
  refine ⟨A, cap, L, ?_, hc, fun k hk => hP k hk, ?_, fun h => (hnil h).2⟩
  · congr 1
    refine list_of_get (by rw [hl, cells52]; rfl) ?_
    intro j v hv
    match j, hv with
    | 0, hv => simp at hv; rw [hL] at hv; exact hv ▸ h0
    | j + 1, hv => simp at hv
  · have := Nat.le_trans hby reach_le
    omega
end
end Go.Proofs.Ytfeeajodgcdflaa
