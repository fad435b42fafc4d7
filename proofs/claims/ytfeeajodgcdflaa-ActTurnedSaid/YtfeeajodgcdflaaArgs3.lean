/- What came in: a kind, its states counted by their bytes too. -/
import Derived.Test.YtfeeajodgcdflaaArgs
namespace Go.Proofs.Ytfeeajodgcdflaa
open Go.ChangeShapes Go.WideShapes Go.ChangeAt Go.RowKit Go.Deep Go.Troupe
section
variable {H : Type} {enc : TypeId × Value → H} {w : World} {base : Nat} {spare : Nat → Bool} {held : Bool}
theorem openK2 (n : Nat) (cs' : List Value) (y : DataW H × List MemPlace) (h : DataW.trod enc Try.prog w base spare held n 25 cs' = some y) (hz : Light Try.prog 25 y.1) : ∃ z : Kd, cs'.toArray = #[.string z.name, .int .i64 z.limit, .int .i64 z.within, .slice z.Ac z.nc z.cc, .slice z.A z.sts.length z.cap] ∧ KindIn w w.heap.size z ∧ z.sts.length * 40 ≤ 140737488355328 := by
  obtain ⟨hl, hf⟩ := fields_light Try.underlying25 (by kernel_rfl) cells25 h hz
  obtain ⟨v0, y0, n0, h0, t0, _⟩ := hf 0 _ rfl
  obtain ⟨v1, y1, n1, h1, t1, _⟩ := hf 1 _ rfl
  obtain ⟨v2, y2, n2, h2, t2, _⟩ := hf 2 _ rfl
  obtain ⟨v3, y3, n3, h3, t3, _⟩ := hf 3 _ rfl
  obtain ⟨v4, y4, n4, h4, t4, l4⟩ := hf 4 _ rfl
  obtain ⟨a0, e0, _, _⟩ := DataW.trod_string Try.underlying9 t0
  obtain ⟨a1, e1, _, _⟩ := DataW.trod_int Try.underlying3 t1
  obtain ⟨a2, e2, _, _⟩ := DataW.trod_int Try.underlying3 t2
  obtain ⟨A3, len3, cap3, hcs3, _, _, _, _⟩ := rows_of Try.underlying22 t3
  obtain ⟨A, len, cap, hcs, _, _, _, _⟩ := rows_of Try.underlying23 t4
  simp only [List.cons.injEq, and_true] at e0 e1 e2 hcs3 hcs
  subst e0 e1 e2 hcs3 hcs
  obtain ⟨L, hL, hc, hP, _, hnil, _, hby⟩ := open_list (f := St.cells) (sz := 2) (fun _ => rfl) (by decide) cells45 Try.underlying23 openS t4 l4
  rw [bytes45] at hby
  have hb40 : L.length * 40 ≤ 140737488355328 := by rw [hL]; exact Nat.le_trans hby reach_le
  refine ⟨⟨a0, a1, a2, A3, len3, cap3, A, cap, L⟩, ?_, ⟨hc, fun s hs => hP s hs, by dsimp only; omega⟩, hb40⟩
  congr 1
  refine list_of_get (by rw [hl, cells25]; rfl) ?_
  intro j v hv
  match j, hv with
  | 0, hv => exact hv ▸ h0
  | 1, hv => exact hv ▸ h1
  | 2, hv => exact hv ▸ h2
  | 3, hv => exact hv ▸ h3
  | 4, hv => simp at hv; rw [hL] at hv; exact hv ▸ h4
  | j + 5, hv => simp at hv
end
end Go.Proofs.Ytfeeajodgcdflaa
