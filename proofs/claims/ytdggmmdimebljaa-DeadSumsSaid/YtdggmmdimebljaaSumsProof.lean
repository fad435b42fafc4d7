/-
  Proved: whatever the letters that are put into a sink of whatever size, behind each of them the counts of all reasons together are the total, which never falls. No condition.
-/
import Derived.Test.YtdggmmdimebljaaRows
import Derived.Test.YtdggmmdimebljaaSums
import Derived.Test.YtdggmmdimebljaaOpen
namespace Go.Proofs.Ytdggmmdimebljaa.sums
open Go.ChangeShapes Go.WideShapes Go.ChangeAt Go.RowKit Go.Troupe
set_option linter.unusedVariables false

theorem own : ownKnob Try.prog.godebug = none := by kernel_rfl
theorem laidOut : laidOutB Try.prog = true := by kernel_rfl
theorem cells29 : Try.prog.cellsOf 29 = 3 := by kernel_rfl

/-- A slice of letters that came in. -/
theorem open_lets {H : Type} {enc : TypeId × Value → H} {w : World} {base : Nat} {spare : Nat → Bool} {held : Bool} {fuel : Nat} {A : Option Addr} {len cap : Nat} {x : DataW H × List MemPlace}
    (h : DataW.trod enc Try.prog w base spare held fuel 22 [.slice A len cap] = some x) : ∃ L : List Let, L.length = len ∧ Cells w w.heap.size A (flat L) ∧ len ≤ cap ∧ (A = none → cap = 0) := by
  obtain ⟨A', len', cap', hcs, hl, _, hA, hrow⟩ := rows_of Try.underlying22 h
  simp only [List.cons.injEq, Value.slice.injEq, and_true] at hcs
  obtain ⟨rfl, rfl, rfl⟩ := hcs
  rw [cells29] at hrow
  have hel : ∀ i, i < len → ∃ y : Let, ∃ a, A = some a ∧ w.cell? (a.add (i * 3 + 0)) = some (.int .u64 y.id) ∧ w.cell? (a.add (i * 3 + 1)) = some (.int .i64 y.to_) ∧ w.cell? (a.add (i * 3 + 2)) = some (.int .i64 y.why) := by
    intro i hi
    obtain ⟨a, cs', y, n, hA, hc, ht⟩ := hrow i hi
    obtain ⟨_, hcl, hat⟩ := World.cells?_some hc
    obtain ⟨_, hf⟩ := fields_of Try.underlying29 (by kernel_rfl) cells29 ht
    obtain ⟨v0, y0, n0, h0, t0⟩ := hf 0 _ rfl
    obtain ⟨v1, y1, n1, h1, t1⟩ := hf 1 _ rfl
    obtain ⟨v2, y2, n2, h2, t2⟩ := hf 2 _ rfl
    obtain ⟨a0, e0, _, _⟩ := DataW.trod_int Try.underlying27 t0
    obtain ⟨a1, e1, _, _⟩ := DataW.trod_int Try.underlying3 t1
    obtain ⟨a2, e2, _, _⟩ := DataW.trod_int Try.underlying3 t2
    simp only [List.cons.injEq, and_true] at e0 e1 e2
    subst e0 e1 e2
    exact ⟨⟨a0, a1, a2⟩, a, hA, by rw [← Go.Deep.add_add]; exact (hat 0 (by omega)).trans h0, by rw [← Go.Deep.add_add]; exact (hat 1 (by omega)).trans h1, by rw [← Go.Deep.add_add]; exact (hat 2 (by omega)).trans h2⟩
  letI : Inhabited Let := ⟨⟨0, 0, 0⟩⟩
  obtain ⟨f, hf⟩ := Go.Deep.choose_lt hel
  refine ⟨(List.range len).map f, by simp, ?_, hl, fun h => (hA h).2⟩
  refine cells_of_rows (len := len) (sz := 3) (by decide) _ (by rw [flat_length]; simp; omega) ?_
  intro i hi r hr
  obtain ⟨a, ha, h0, h1, h2⟩ := hf i hi
  obtain ⟨q0, q1, q2⟩ := flat_at ((List.range len).map f) i (f i) (by simp [hi])
  match r, hr with
  | 0, _ => exact ⟨a, _, ha, q0, h0⟩
  | 1, _ => exact ⟨a, _, ha, q1, h1⟩
  | 2, _ => exact ⟨a, _, ha, q2, h2⟩

set_option maxRecDepth 100000 in
theorem lifted (os : Os) (started : os.Started) (H : Type) (enc : TypeId × Value → H) :
    ReturnsInHanded {} Try.checked os 4 .any (Rows.deadSumsSpec.pre6 enc Try.prog Try.f4 Rows.deadSumsRow.domain false) (Rows.deadSumsSpec.post enc Try.prog Try.f4 false true false false) := by
  refine returnsInHanded_of_change (C := Try.checked) own started (by kernel_rfl) Try.func4
    (ChangeSpec.witness6 (enc := enc) (C := Try.checked) false ⟨#[], #[.int .i64 0, .slice none 0 0], []⟩ 8 (by kernel_rfl) (by kernel_rfl) (by kernel_rfl) (by kernel_rfl)) ?_
  intro W base args ds gs before hval0 hW hcnd _
  have hval : ∀ (j : Nat) t v, Try.f4.params[j]? = some t → args[j]? = some v → Value.okWide Try.prog W .any base t v := hval0
  have hW' := hW
  obtain ⟨p, q, hA0, hV, rfl, hfz, hnd⟩ := hW
  have hA : DataW.TrodAll enc Try.prog W 0 (fun _ => true) true Try.f4.params.toList args.toList ds p := hA0
  rw [Try.params4] at hA hval
  obtain ⟨v0, vs0, d0, ds0, p0, q0, hargs, rfl, rfl, h0, r0⟩ := trodAll_cons hA
  obtain ⟨v1, vs1, d1, ds1, p1, q1, rfl, rfl, rfl, h1, r1⟩ := trodAll_cons r0
  obtain ⟨rfl, rfl, rfl⟩ := trodAll_nil r1
  obtain rfl : args = #[v0, v1] := by cases args; simp_all
  obtain ⟨rfl, rfl⟩ := trodVars_none hV
  obtain ⟨a0, rfl, rfl, rfl, w0⟩ := open_int Try.underlying3 (hval 0 3 v0 rfl rfl) h0
  obtain ⟨A1, len1, cap1, rfl⟩ := okWide_slice Try.underlying22 (hval 1 22 v1 rfl rfl)
  have k1 := h1
  have lt1 : ∀ x ∈ p1, x.block < W.heap.size := by obtain ⟨m, hm⟩ := k1; exact DataW.trod_lt m _ _ _ hm
  obtain ⟨L, hL, hC, hlc, hn⟩ : ∃ L : List Let, L.length = len1 ∧ Cells W W.heap.size A1 (flat L) ∧ len1 ≤ cap1 ∧ (A1 = none → cap1 = 0) := by
    obtain ⟨fuel, hf⟩ := h1
    exact open_lets (by simpa [Value.cells] using hf)
  clear hA0 hval0
  refine (sums_walk a0 A1 len1 cap1 L W hL hC).mono fun e W' ⟨he, bel⟩ => ?_
  subst he
  exact ⟨_, rfl, _, _, _, [], _, [], hW', trodAll_mk1 (shut_bool Try.underlying4 _), (trodAll_cons_mk (shut_int Try.underlying3 w0) (trodAll_cons_mk (Below.trod laidOut (by kernel_rfl) (of_decide_eq_true (by kernel_rfl)) k1 bel lt1) trodAll_mk0)), rfl, bel.frame _, fun h => by cases h⟩

theorem over : Rows.deadSumsRow.holds Try.pinned (OpenSpec.ofChange Rows.deadSumsSpec) :=
  OpenClaim.holds_of_wide 4 Try.f4 rfl rfl rfl rfl rfl rfl rfl ⟨rfl, rfl, rfl, rfl, rfl⟩ rfl rfl rfl rfl rfl (by kernel_rfl) Try.func4 (by kernel_rfl)
    (of_decide_eq_true (by kernel_rfl)) (by unfold Func.isWrapper; first | (rw [if_pos (by decide +kernel)]; kernel_rfl) | (rw [if_neg (by decide +kernel)]; exact ⟨rfl, rfl⟩))
    (fun os started H enc _ => lifted os started H enc)

/-- THE STATEMENT -/
theorem deadSums_holds : Rows.DeadSumsSaid := over
end Go.Proofs.Ytdggmmdimebljaa.sums
