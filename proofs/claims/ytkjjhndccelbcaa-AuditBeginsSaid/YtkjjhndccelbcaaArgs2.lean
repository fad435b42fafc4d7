/- What came in: a program, its kinds whole. -/
import Derived.Test.YtkjjhndccelbcaaArgs
import Derived.Test.YtkjjhndccelbcaaEvents
namespace Go.Proofs.Ytkjjhndccelbcaa
open Go.ChangeShapes Go.WideShapes Go.ChangeAt Go.RowKit Go.Deep Go.Troupe
section
variable {H : Type} {enc : TypeId × Value → H} {w : World} {base : Nat} {spare : Nat → Bool} {held : Bool}
instance : Inhabited Cs := ⟨⟨⟨#[]⟩, 0⟩⟩
instance : Inhabited Kf := ⟨⟨⟨#[]⟩, 0, 0, [], none, 0, [], none, 0⟩⟩
theorem cells103 : Try.prog.cellsOf 103 = 2 := by kernel_rfl
theorem cells24 : Try.prog.cellsOf 24 = 1 := by kernel_rfl
theorem bytes103 : Try.prog.bytesOf 103 = 24 := by kernel_rfl
theorem bytes67 : Try.prog.bytesOf 67 = 80 := by kernel_rfl
theorem openC (n : Nat) (cs' : List Value) (y : DataW H × List MemPlace) (h : DataW.trod enc Try.prog w base spare held n 103 cs' = some y) (hz : Light Try.prog 103 y.1) : ∃ z : Cs, cs' = z.cells ∧ True := by
  obtain ⟨hl, hf⟩ := fields_light Try.underlying103 (by kernel_rfl) cells103 h hz
  obtain ⟨v0, y0, n0, h0, t0, _⟩ := hf 0 _ rfl
  obtain ⟨v1, y1, n1, h1, t1, _⟩ := hf 1 _ rfl
  obtain ⟨a0, e0, _, _⟩ := DataW.trod_string Try.underlying9 t0
  obtain ⟨a1, e1, _, _⟩ := DataW.trod_int Try.underlying3 t1
  simp only [List.cons.injEq, and_true] at e0 e1
  subst e0 e1
  refine ⟨⟨a0, a1⟩, list_of_get (by rw [hl, cells103]; rfl) ?_, trivial⟩
  intro j v hv
  match j, hv with
  | 0, hv => exact hv ▸ h0
  | 1, hv => exact hv ▸ h1
  | j + 2, hv => simp [Cs.cells] at hv
theorem openS5 (n : Nat) (cs' : List Value) (y : DataW H × List MemPlace) (h : DataW.trod enc Try.prog w base spare held n 63 cs' = some y) (hz : Light Try.prog 63 y.1) : ∃ z : St, cs' = z.cells ∧ (StF w w.heap.size z ∧ z.rows.length ≤ z.cap) := by
  obtain ⟨hl, hf⟩ := fields_light Try.underlying63 (by kernel_rfl) cells63 h hz
  obtain ⟨v0, y0, n0, h0, t0, _⟩ := hf 0 _ rfl
  obtain ⟨v1, y1, n1, h1, t1, l1⟩ := hf 1 _ rfl
  obtain ⟨a0, e0, _, _⟩ := DataW.trod_string Try.underlying9 t0
  obtain ⟨A, len, cap, hcs, _, _, _, _⟩ := rows_of Try.underlying61 t1
  simp only [List.cons.injEq, and_true] at e0 hcs
  subst e0 hcs
  obtain ⟨L, hL, hc, hP, hlc, hnil, _, hby⟩ := open_list (f := Rw.cells) (sz := 4) (fun _ => rfl) (by decide) cells60 Try.underlying61 openR t1 l1
  rw [bytes60] at hby
  refine ⟨⟨a0, L, A, cap⟩, list_of_get (by rw [hl, cells63]; rfl) ?_, ⟨hc, fun h => (hnil h).2, fun r hr => hP r hr, by rw [hL]; exact Nat.le_trans hby reach_le⟩, by dsimp only; rw [hL]; exact hlc⟩
  intro j v hv
  match j, hv with
  | 0, hv => exact hv ▸ h0
  | 1, hv => simp [St.cells] at hv; rw [hL] at hv; exact hv ▸ h1
  | j + 2, hv => simp [St.cells] at hv
theorem openF (n : Nat) (cs' : List Value) (y : DataW H × List MemPlace) (h : DataW.trod enc Try.prog w base spare held n 67 cs' = some y) (hz : Light Try.prog 67 y.1) : ∃ z : Kf, cs' = z.cells ∧ (KfIn w w.heap.size z ∧ CapK z) := by
  obtain ⟨hl, hf⟩ := fields_light Try.underlying67 (by kernel_rfl) cells67 h hz
  obtain ⟨v0, y0, n0, h0, t0, _⟩ := hf 0 _ rfl
  obtain ⟨v1, y1, n1, h1, t1, _⟩ := hf 1 _ rfl
  obtain ⟨v2, y2, n2, h2, t2, _⟩ := hf 2 _ rfl
  obtain ⟨v3, y3, n3, h3, t3, l3⟩ := hf 3 _ rfl
  obtain ⟨v4, y4, n4, h4, t4, l4⟩ := hf 4 _ rfl
  obtain ⟨a0, e0, _, _⟩ := DataW.trod_string Try.underlying9 t0
  obtain ⟨a1, e1, _, _⟩ := DataW.trod_int Try.underlying3 t1
  obtain ⟨a2, e2, _, _⟩ := DataW.trod_int Try.underlying3 t2
  obtain ⟨A3, len3, cap3, hcs3, _, _, _, _⟩ := rows_of Try.underlying65 t3
  obtain ⟨A, len, cap, hcs, _, _, _, _⟩ := rows_of Try.underlying64 t4
  simp only [List.cons.injEq, and_true] at e0 e1 e2 hcs3 hcs
  subst e0 e1 e2 hcs3 hcs
  obtain ⟨C, hC, hcc, _, hlcC, hnilC, _, hbyC⟩ := open_list (f := Cs.cells) (sz := 2) (fun _ => rfl) (by decide) cells103 Try.underlying65 openC t3 l3
  obtain ⟨L, hL, hc, hP, hlc, hnil, _, hby⟩ := open_list (f := St.cells) (sz := 2) (fun _ => rfl) (by decide) cells63 Try.underlying64 openS5 t4 l4
  rw [bytes63] at hby
  rw [bytes103] at hbyC
  refine ⟨⟨a0, a1, a2, C, A3, cap3, L, A, cap⟩, ?_, ⟨⟨hcc, fun h => (hnilC h).2, by dsimp only; rw [hC]; exact Nat.le_trans hbyC reach_le⟩, hc, fun h => (hnil h).2, fun s hs => (hP s hs).1, by dsimp only; rw [hL]; exact Nat.le_trans hby reach_le⟩, by dsimp only; rw [hC]; exact hlcC, by dsimp only; rw [hL]; exact hlc, fun s hs => (hP s hs).2⟩
  refine list_of_get (by rw [hl, cells67]; rfl) ?_
  intro j v hv
  match j, hv with
  | 0, hv => exact hv ▸ h0
  | 1, hv => exact hv ▸ h1
  | 2, hv => exact hv ▸ h2
  | 3, hv => simp [Kf.cells] at hv; rw [hC] at hv; exact hv ▸ h3
  | 4, hv => simp [Kf.cells] at hv; rw [hL] at hv; exact hv ▸ h4
  | j + 5, hv => simp [Kf.cells] at hv
theorem openP (n : Nat) (cs' : List Value) (y : DataW H × List MemPlace) (h : DataW.trod enc Try.prog w base spare held n 24 cs' = some y) (hz : Light Try.prog 24 y.1) :
    ∃ (A : Option Addr) (c : Nat) (ks : List Kf), cs'.toArray = #[.slice A ks.length c] ∧ Cells w w.heap.size A (flatK ks) ∧ KindsIn w w.heap.size ks ∧ ks.length ≤ 140737488355328 ∧ ks.length ≤ c ∧ (∀ k ∈ ks, CapK k) := by
  obtain ⟨hl, hf⟩ := fields_light Try.underlying24 (by kernel_rfl) cells24 h hz
  obtain ⟨v0, y0, n0, h0, t0, l0⟩ := hf 0 _ rfl
  obtain ⟨A, len, cap, hcs, _, _, _, _⟩ := rows_of Try.underlying22 t0
  simp only [List.cons.injEq, and_true] at hcs
  subst hcs
  obtain ⟨L, hL, hc, hP, hlc, hnil, _, hby⟩ := open_list (f := Kf.cells) (sz := 5) (fun _ => rfl) (by decide) cells67 Try.underlying22 openF t0 l0
  rw [bytes67] at hby
  refine ⟨A, cap, L, ?_, hc, fun k hk => (hP k hk).1, ?_, by rw [hL]; exact hlc, fun k hk => (hP k hk).2⟩
  · congr 1
    refine list_of_get (by rw [hl, cells24]; rfl) ?_
    intro j v hv
    match j, hv with
    | 0, hv => simp at hv; rw [hL] at hv; exact hv ▸ h0
    | j + 1, hv => simp at hv
  · have := Nat.le_trans hby reach_le
    omega
instance : Inhabited Ev := ⟨⟨0, 0, 0, 0, 0, ⟨#[]⟩, 0, 0, false⟩⟩
theorem cells32 : Try.prog.cellsOf 32 = 9 := by kernel_rfl
theorem wf64 {n : Int} (h : (Lit.int .i64 n).wf = true) : -9223372036854775808 ≤ n ∧ n ≤ 9223372036854775807 := by
  have h' : (decide (IntKind.i64.min ≤ n) && decide (n ≤ IntKind.i64.max)) = true := h
  rw [Bool.and_eq_true, decide_eq_true_eq, decide_eq_true_eq] at h'
  have e1 : IntKind.i64.min = -9223372036854775808 := by rfl
  have e2 : IntKind.i64.max = 9223372036854775807 := by rfl
  rw [e1, e2] at h'
  exact h'
theorem wfu64 {n : Int} (h : (Lit.int .u64 n).wf = true) : 0 ≤ n ∧ n < 18446744073709551616 := by
  have h' : (decide (IntKind.u64.min ≤ n) && decide (n ≤ IntKind.u64.max)) = true := h
  rw [Bool.and_eq_true, decide_eq_true_eq, decide_eq_true_eq] at h'
  have e1 : IntKind.u64.min = 0 := by rfl
  have e2 : IntKind.u64.max = 18446744073709551615 := by rfl
  rw [e1, e2] at h'
  omega
theorem openV (n : Nat) (cs' : List Value) (y : DataW H × List MemPlace) (h : DataW.trod enc Try.prog w base spare held n 32 cs' = some y) (hz : Light Try.prog 32 y.1) : ∃ z : Ev, cs' = z.cells ∧ EvOk z := by
  obtain ⟨hl, hf⟩ := fields_light Try.underlying32 (by kernel_rfl) cells32 h hz
  obtain ⟨v0, y0, n0, h0, t0, _⟩ := hf 0 _ rfl
  obtain ⟨v1, y1, n1, h1, t1, _⟩ := hf 1 _ rfl
  obtain ⟨v2, y2, n2, h2, t2, _⟩ := hf 2 _ rfl
  obtain ⟨v3, y3, n3, h3, t3, _⟩ := hf 3 _ rfl
  obtain ⟨v4, y4, n4, h4, t4, _⟩ := hf 4 _ rfl
  obtain ⟨v5, y5, n5, h5, t5, _⟩ := hf 5 _ rfl
  obtain ⟨v6, y6, n6, h6, t6, _⟩ := hf 6 _ rfl
  obtain ⟨v7, y7, n7, h7, t7, _⟩ := hf 7 _ rfl
  obtain ⟨v8, y8, n8, h8, t8, _⟩ := hf 8 _ rfl
  obtain ⟨a0, e0, _, w0⟩ := DataW.trod_int Try.underlying3 t0
  obtain ⟨a1, e1, _, w1⟩ := DataW.trod_int Try.underlying3 t1
  obtain ⟨a2, e2, _, w2⟩ := DataW.trod_int Try.underlying30 t2
  obtain ⟨a3, e3, _, w3⟩ := DataW.trod_int Try.underlying3 t3
  obtain ⟨a4, e4, _, w4⟩ := DataW.trod_int Try.underlying3 t4
  obtain ⟨a5, e5, _, _⟩ := DataW.trod_string Try.underlying9 t5
  obtain ⟨a6, e6, _, w6⟩ := DataW.trod_int Try.underlying3 t6
  obtain ⟨a7, e7, _, w7⟩ := DataW.trod_int Try.underlying3 t7
  obtain ⟨a8, e8, _⟩ := DataW.trod_bool Try.underlying4 t8
  simp only [List.cons.injEq, and_true] at e0 e1 e2 e3 e4 e5 e6 e7 e8
  subst e0 e1 e2 e3 e4 e5 e6 e7 e8
  refine ⟨⟨a0, a1, a2, a3, a4, a5, a6, a7, a8⟩, list_of_get (by rw [hl, cells32]; rfl) ?_, ⟨wf64 w0, wf64 w1, wfu64 w2, wf64 w3, wf64 w4, wf64 w6⟩⟩
  intro j v hv
  match j, hv with
  | 0, hv => exact hv ▸ h0
  | 1, hv => exact hv ▸ h1
  | 2, hv => exact hv ▸ h2
  | 3, hv => exact hv ▸ h3
  | 4, hv => exact hv ▸ h4
  | 5, hv => exact hv ▸ h5
  | 6, hv => exact hv ▸ h6
  | 7, hv => exact hv ▸ h7
  | 8, hv => exact hv ▸ h8
  | j + 9, hv => simp [Ev.cells] at hv
theorem bytes32 : Try.prog.bytesOf 32 = 80 := by kernel_rfl
theorem openL {fuel len cap : Nat} {A : Option Addr} {x : DataW H × List MemPlace} (h : DataW.trod enc Try.prog w base spare held fuel 25 [.slice A len cap] = some x) (hz : Light Try.prog 25 x.1) :
    ∃ L : List Ev, L.length = len ∧ Cells w w.heap.size A (flatV L) ∧ (∀ e ∈ L, EvOk e) ∧ len ≤ cap ∧ (A = none → cap = 0) ∧ len < 281474976710656 := by
  obtain ⟨L, hL, hc, hP, hlc, hnil, _, hby⟩ := open_list (f := Ev.cells) (sz := 9) (fun _ => rfl) (by decide) cells32 Try.underlying25 openV h hz
  rw [bytes32] at hby
  exact ⟨L, hL, hc, hP, hlc, fun h => (hnil h).2, by have := Nat.le_trans hby reach_le; omega⟩
end
end Go.Proofs.Ytkjjhndccelbcaa
