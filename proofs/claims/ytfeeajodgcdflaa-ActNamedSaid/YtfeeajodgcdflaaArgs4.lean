/- What came in: a kind, its names counted by their bytes too. -/
import Derived.Test.YtfeeajodgcdflaaArgs
import Derived.Test.YtfeeajodgcdflaaRename
namespace Go.Proofs.Ytfeeajodgcdflaa
open Go.ChangeShapes Go.WideShapes Go.ChangeAt Go.RowKit Go.Deep Go.Troupe
section
variable {H : Type} {enc : TypeId × Value → H} {w : World} {base : Nat} {spare : Nat → Bool} {held : Bool}
theorem light_size {P : Program} {t : TypeId} {y : DataW H × List MemPlace} {s : ByteArray} (h : y = (.lit (.string s.data.toList), [])) (hz : Light P t y.1) : s.size ≤ 140737488355328 := by
  subst h
  have h1 := hz s.data.toList.length (by unfold DataW.weights; exact List.mem_singleton.2 rfl)
  have h2 : s.data.toList.length = s.size := by rw [Array.length_toList]; rfl
  rw [h2] at h1
  exact Nat.le_trans h1 reach_le
theorem light_str {P : Program} {t : TypeId} {s : ByteArray} (hz : Light (H := H) P t (.lit (.string s.data.toList))) : s.size ≤ 140737488355328 := light_size (y := (.lit (.string s.data.toList), [])) rfl hz
theorem openE4 (n : Nat) (cs' : List Value) (y : DataW H × List MemPlace) (h : DataW.trod enc Try.prog w base spare held n 36 cs' = some y) (hz : Light Try.prog 36 y.1) : ∃ z : Eff, cs' = z.cells ∧ z.name.size ≤ 140737488355328 := by
  obtain ⟨hl, hf⟩ := fields_light Try.underlying36 (by kernel_rfl) cells36 h hz
  obtain ⟨v0, y0, n0, h0, t0, _⟩ := hf 0 _ rfl
  obtain ⟨v1, y1, n1, h1, t1, _⟩ := hf 1 _ rfl
  obtain ⟨v2, y2, n2, h2, t2, _⟩ := hf 2 _ rfl
  obtain ⟨v3, y3, n3, h3, t3, l3⟩ := hf 3 _ rfl
  obtain ⟨v4, y4, n4, h4, t4, _⟩ := hf 4 _ rfl
  obtain ⟨v5, y5, n5, h5, t5, _⟩ := hf 5 _ rfl
  obtain ⟨v6, y6, n6, h6, t6, _⟩ := hf 6 _ rfl
  obtain ⟨a0, e0, _, _⟩ := DataW.trod_int Try.underlying3 t0
  obtain ⟨a1, e1, _, _⟩ := DataW.trod_string Try.underlying9 t1
  obtain ⟨a2, e2, _, _⟩ := DataW.trod_string Try.underlying9 t2
  obtain ⟨a3, e3, w3, _⟩ := DataW.trod_string Try.underlying9 t3
  have s3 := light_size w3 l3
  obtain ⟨a4, e4, _, _⟩ := DataW.trod_int Try.underlying3 t4
  obtain ⟨a5, e5, _, _⟩ := DataW.trod_int Try.underlying3 t5
  obtain ⟨a6, e6, _, _⟩ := DataW.trod_int Try.underlying3 t6
  simp only [List.cons.injEq, and_true] at e0 e1 e2 e3 e4 e5 e6
  subst e0 e1 e2 e3 e4 e5 e6
  refine ⟨⟨a0, a1, a2, a3, a4, a5, a6⟩, list_of_get (by rw [hl, cells36]; rfl) ?_, s3⟩
  intro j v hv
  match j, hv with
  | 0, hv => exact hv ▸ h0
  | 1, hv => exact hv ▸ h1
  | 2, hv => exact hv ▸ h2
  | 3, hv => exact hv ▸ h3
  | 4, hv => exact hv ▸ h4
  | 5, hv => exact hv ▸ h5
  | 6, hv => exact hv ▸ h6
  | j + 7, hv => simp [Eff.cells] at hv
theorem openR4 (n : Nat) (cs' : List Value) (y : DataW H × List MemPlace) (h : DataW.trod enc Try.prog w base spare held n 47 cs' = some y) (hz : Light Try.prog 47 y.1) : ∃ z : Rw, cs' = z.cells ∧ (RowIn1 w z ∧ NamesE z.effs) := by
  obtain ⟨hl, hf⟩ := fields_light Try.underlying47 (by kernel_rfl) cells47 h hz
  obtain ⟨v0, y0, n0, h0, t0, _⟩ := hf 0 _ rfl
  obtain ⟨v1, y1, n1, h1, t1, _⟩ := hf 1 _ rfl
  obtain ⟨v2, y2, n2, h2, t2, _⟩ := hf 2 _ rfl
  obtain ⟨v3, y3, n3, h3, t3, l3⟩ := hf 3 _ rfl
  obtain ⟨a0, e0, _, _⟩ := DataW.trod_string Try.underlying9 t0
  obtain ⟨a1, e1, _⟩ := DataW.trod_bool Try.underlying4 t1
  obtain ⟨a2, e2, _, _⟩ := DataW.trod_int Try.underlying3 t2
  obtain ⟨A, len, cap, hcs, _, _, _, _⟩ := rows_of Try.underlying28 t3
  simp only [List.cons.injEq, and_true] at e0 e1 e2 hcs
  subst e0 e1 e2 hcs
  obtain ⟨L, hL, hc, hN, _, hnil, _, hby⟩ := open_list (f := Eff.cells) (sz := 7) (fun _ => rfl) (by decide) cells36 Try.underlying28 openE4 t3 l3
  rw [bytes36] at hby
  refine ⟨⟨a0, a1, a2, L, A, cap⟩, list_of_get (by rw [hl, cells47]; rfl) ?_, ⟨hc, fun h => (hnil h).2, by rw [hL]; exact Nat.le_trans hby reach_le⟩, hN⟩
  intro j v hv
  match j, hv with
  | 0, hv => exact hv ▸ h0
  | 1, hv => exact hv ▸ h1
  | 2, hv => exact hv ▸ h2
  | 3, hv => simp [Rw.cells] at hv; rw [hL] at hv; exact hv ▸ h3
  | j + 4, hv => simp [Rw.cells] at hv
theorem openS4 (n : Nat) (cs' : List Value) (y : DataW H × List MemPlace) (h : DataW.trod enc Try.prog w base spare held n 45 cs' = some y) (hz : Light Try.prog 45 y.1) : ∃ z : St, cs' = z.cells ∧ (StateIn1 w z ∧ z.name.size ≤ 140737488355328 ∧ ∀ r ∈ z.rows, NamesE r.effs) := by
  obtain ⟨hl, hf⟩ := fields_light Try.underlying45 (by kernel_rfl) cells45 h hz
  obtain ⟨v0, y0, n0, h0, t0, l0⟩ := hf 0 _ rfl
  obtain ⟨v1, y1, n1, h1, t1, l1⟩ := hf 1 _ rfl
  obtain ⟨a0, e0, w0, _⟩ := DataW.trod_string Try.underlying9 t0
  have s0 := light_size w0 l0
  obtain ⟨A, len, cap, hcs, _, _, _, _⟩ := rows_of Try.underlying43 t1
  simp only [List.cons.injEq, and_true] at e0 hcs
  subst e0 hcs
  obtain ⟨L, hL, hc, hP, _, hnil, _, hby⟩ := open_list (f := Rw.cells) (sz := 4) (fun _ => rfl) (by decide) cells47 Try.underlying43 openR4 t1 l1
  rw [bytes47] at hby
  refine ⟨⟨a0, L, A, cap⟩, list_of_get (by rw [hl, cells45]; rfl) ?_, ⟨hc, fun r hr => (hP r hr).1, by rw [hL]; exact Nat.le_trans hby reach_le⟩, s0, fun r hr => (hP r hr).2⟩
  intro j v hv
  match j, hv with
  | 0, hv => exact hv ▸ h0
  | 1, hv => simp [St.cells] at hv; rw [hL] at hv; exact hv ▸ h1
  | j + 2, hv => simp [St.cells] at hv
theorem openK4 (n : Nat) (cs' : List Value) (y : DataW H × List MemPlace) (h : DataW.trod enc Try.prog w base spare held n 25 cs' = some y) (hz : Light Try.prog 25 y.1) : ∃ z : Kd, cs'.toArray = #[.string z.name, .int .i64 z.limit, .int .i64 z.within, .slice z.Ac z.nc z.cc, .slice z.A z.sts.length z.cap] ∧ KindIn w w.heap.size z ∧ z.sts.length * 40 ≤ 140737488355328 ∧ NamesS z.sts := by
  obtain ⟨hl, hf⟩ := fields_light Try.underlying25 (by kernel_rfl) cells25 h hz
  obtain ⟨v0, y0, n0, h0, t0, _⟩ := hf 0 _ rfl
  obtain ⟨v1, y1, n1, h1, t1, _⟩ := hf 1 _ rfl
  obtain ⟨v2, y2, n2, h2, t2, _⟩ := hf 2 _ rfl
  obtain ⟨v3, y3, n3, h3, t3, _⟩ := hf 3 _ rfl
  obtain ⟨v4, y4, n4, h4, t4, l4⟩ := hf 4 _ rfl
  obtain ⟨a0, e0, _, _⟩ := DataW.trod_string Try.underlying9 t0
  obtain ⟨a1, e1, _, _⟩ := DataW.trod_int Try.underlying3 t1
  obtain ⟨a2, e2, _, _⟩ := DataW.trod_int Try.underlying3 t2
  obtain ⟨A3, len3, cap3, hcs3, _, _, _, _⟩ := rows_of Try.underlying22 t3
  obtain ⟨A, len, cap, hcs, _, _, _, _⟩ := rows_of Try.underlying23 t4
  simp only [List.cons.injEq, and_true] at e0 e1 e2 hcs3 hcs
  subst e0 e1 e2 hcs3 hcs
  obtain ⟨L, hL, hc, hP, _, hnil, _, hby⟩ := open_list (f := St.cells) (sz := 2) (fun _ => rfl) (by decide) cells45 Try.underlying23 openS4 t4 l4
  rw [bytes45] at hby
  have hb40 : L.length * 40 ≤ 140737488355328 := by rw [hL]; exact Nat.le_trans hby reach_le
  refine ⟨⟨a0, a1, a2, A3, len3, cap3, A, cap, L⟩, ?_, ⟨hc, fun s hs => (hP s hs).1, by dsimp only; omega⟩, hb40, fun s hs => (hP s hs).2⟩
  congr 1
  refine list_of_get (by rw [hl, cells25]; rfl) ?_
  intro j v hv
  match j, hv with
  | 0, hv => exact hv ▸ h0
  | 1, hv => exact hv ▸ h1
  | 2, hv => exact hv ▸ h2
  | 3, hv => exact hv ▸ h3
  | 4, hv => simp at hv; rw [hL] at hv; exact hv ▸ h4
  | j + 5, hv => simp at hv
end
end Go.Proofs.Ytfeeajodgcdflaa
