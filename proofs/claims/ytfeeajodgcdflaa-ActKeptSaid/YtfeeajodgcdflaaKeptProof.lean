/-
  Proved: whatever the program, kind, state and tag: a kind that is handed in stays, and what was answered may be written over. No condition.
-/
import Derived.Test.YtfeeajodgcdflaaRows
import Derived.Test.YtfeeajodgcdflaaKept
import Derived.Test.YtfeeajodgcdflaaArgs5
import Derived.Lib.SmallJoins
import Derived.Test.YtfeeajodgcdflaaOpen
namespace Go.Proofs.Ytfeeajodgcdflaa.actKept
open Go.ChangeShapes Go.WideShapes Go.ChangeAt Go.RowKit Go.Troupe
open Go.ChangeMaps (open_string shut_string)
set_option linter.unusedVariables false

theorem own : ownKnob Try.prog.godebug = none := by kernel_rfl
theorem laidOut : laidOutB Try.prog = true := by kernel_rfl
theorem wf64 {n : Int} (h : (Lit.int .i64 n).wf = true) : -9223372036854775808 ≤ n ∧ n ≤ 9223372036854775807 := by
  have h' : (decide (IntKind.i64.min ≤ n) && decide (n ≤ IntKind.i64.max)) = true := h
  rw [Bool.and_eq_true, decide_eq_true_eq, decide_eq_true_eq] at h'
  have e1 : IntKind.i64.min = -9223372036854775808 := by rfl
  have e2 : IntKind.i64.max = 9223372036854775807 := by rfl
  rw [e1, e2] at h'
  exact h'
theorem light_of {H : Type} {P : Program} {ts : List TypeId} {ds : List (DataW H)} (hz : (DataW.weightsEach P ts ds).all (· ≤ reachBytes) = true) {j : Nat} {t : TypeId} {d : DataW H} (ht : ts[j]? = some t) (hd : ds[j]? = some d) : Light P t d :=
  fun n hn => by simpa using List.all_eq_true.1 hz n (DataW.weights_mem_each ht hd n hn)

set_option maxRecDepth 100000 in
theorem lifted (os : Os) (started : os.Started) (H : Type) (enc : TypeId × Value → H) :
    ReturnsInHanded {} Try.checked os 10 .any (Rows.actKeptSpec.pre6 enc Try.prog Try.f10 Rows.actKeptRow.domain false) (Rows.actKeptSpec.post enc Try.prog Try.f10 false true false false) := by
  refine returnsInHanded_of_change_sized (C := Try.checked) own started (by kernel_rfl) Try.func10
    (ChangeSpec.witness6 (enc := enc) (C := Try.checked) false ⟨#[], #[.agg #[.slice none 0 0], .string ByteArray.empty, .string ByteArray.empty, .string ByteArray.empty], []⟩ 8 (by kernel_rfl) (by kernel_rfl) (by kernel_rfl) (by kernel_rfl)) ?_
  intro W base args ds gs before hval0 hW hcnd hz _
  have hval : ∀ (j : Nat) t v, Try.f10.params[j]? = some t → args[j]? = some v → Value.okWide Try.prog W .any base t v := hval0
  have hW' := hW
  obtain ⟨p, q, hA0, hV, rfl, hfz, hnd⟩ := hW
  have hA : DataW.TrodAll enc Try.prog W 0 (fun _ => true) true Try.f10.params.toList args.toList ds p := hA0
  rw [Try.params10] at hA hval
  obtain ⟨v0, vs0, d0, ds0, p0, q0, hargs, rfl, rfl, h0, r0⟩ := trodAll_cons hA
  obtain ⟨v1, vs1, d1, ds1, p1, q1, rfl, rfl, rfl, h1, r1⟩ := trodAll_cons r0
  obtain ⟨v2, vs2, d2, ds2, p2, q2, rfl, rfl, rfl, h2, r2⟩ := trodAll_cons r1
  obtain ⟨v3, vs3, d3, ds3, p3, q3, rfl, rfl, rfl, h3, r3⟩ := trodAll_cons r2
  obtain ⟨rfl, rfl, rfl⟩ := trodAll_nil r3
  obtain rfl : args = #[v0, v1, v2, v3] := by cases args; simp_all
  obtain ⟨rfl, rfl⟩ := trodVars_none hV
  have k0 := h0
  have lt0 : ∀ x ∈ p0, x.block < W.heap.size := by obtain ⟨m, hm⟩ := k0; exact DataW.trod_lt m _ _ _ hm
  have k1 := h1
  have lt1 : ∀ x ∈ p1, x.block < W.heap.size := by obtain ⟨m, hm⟩ := k1; exact DataW.trod_lt m _ _ _ hm
  have k2 := h2
  have lt2 : ∀ x ∈ p2, x.block < W.heap.size := by obtain ⟨m, hm⟩ := k2; exact DataW.trod_lt m _ _ _ hm
  have k3 := h3
  have lt3 : ∀ x ∈ p3, x.block < W.heap.size := by obtain ⟨m, hm⟩ := k3; exact DataW.trod_lt m _ _ _ hm
  have z0 : Light Try.prog 52 d0 := light_of hz (j := 0) (by kernel_rfl) rfl
  obtain ⟨cs0, rfl, _⟩ := okWide_struct Try.underlying52 (hval 0 52 v0 rfl rfl)
  obtain ⟨A0, c0, ks0, hP0, hPC0, hPK0, hPL0, hPN0⟩ : ∃ (A : Option Addr) (c : Nat) (ks : List Kf), cs0 = #[.slice A ks.length c] ∧ Cells W W.heap.size A (flatK ks) ∧ KindsIn W W.heap.size ks ∧ ks.length ≤ 140737488355328 ∧ (A = none → c = 0) := by
    obtain ⟨fuel, hf⟩ := h0
    obtain ⟨A, c, ks, h1, h2⟩ := openP fuel _ _ hf z0
    exact ⟨A, c, ks, by simpa [Value.cells] using h1, h2⟩
  subst hP0
  have z1 : Light Try.prog 9 d1 := light_of hz (j := 1) (by kernel_rfl) rfl
  obtain ⟨a1, rfl, rfl, rfl, w1⟩ := open_string Try.underlying9 (hval 1 9 v1 rfl rfl) h1
  have z2 : Light Try.prog 9 d2 := light_of hz (j := 2) (by kernel_rfl) rfl
  obtain ⟨a2, rfl, rfl, rfl, w2⟩ := open_string Try.underlying9 (hval 2 9 v2 rfl rfl) h2
  have z3 : Light Try.prog 9 d3 := light_of hz (j := 3) (by kernel_rfl) rfl
  obtain ⟨a3, rfl, rfl, rfl, w3⟩ := open_string Try.underlying9 (hval 3 9 v3 rfl rfl) h3
  clear hA0 hval0
  refine (kept_walk A0 c0 ks0 a1 a2 a3 W hPC0 hPK0 hPL0).mono fun e W' ⟨he, bel⟩ => ?_
  subst he
  exact ⟨_, rfl, _, _, _, [], _, [], hW', trodAll_mk1 (shut_bool Try.underlying4 _), (trodAll_cons_mk (Below.trod laidOut (by kernel_rfl) (of_decide_eq_true (by kernel_rfl)) k0 bel lt0) (trodAll_cons_mk (Below.trod laidOut (by kernel_rfl) (of_decide_eq_true (by kernel_rfl)) k1 bel lt1) (trodAll_cons_mk (Below.trod laidOut (by kernel_rfl) (of_decide_eq_true (by kernel_rfl)) k2 bel lt2) (trodAll_cons_mk (Below.trod laidOut (by kernel_rfl) (of_decide_eq_true (by kernel_rfl)) k3 bel lt3) trodAll_mk0)))), rfl, bel.frame _, fun h => by cases h⟩

theorem over : Rows.actKeptRow.holds Try.pinned (OpenSpec.ofChange Rows.actKeptSpec) :=
  OpenClaim.holds_of_wide 10 Try.f10 rfl rfl rfl rfl rfl rfl rfl ⟨rfl, rfl, rfl, rfl, rfl⟩ rfl rfl rfl rfl rfl (by kernel_rfl) Try.func10 (by kernel_rfl)
    (of_decide_eq_true (by kernel_rfl)) (by unfold Func.isWrapper; first | (rw [if_pos (by decide +kernel)]; kernel_rfl) | (rw [if_neg (by decide +kernel)]; exact ⟨rfl, rfl⟩))
    (fun os started H enc _ => lifted os started H enc)

/-- THE STATEMENT -/
theorem actKept_holds : Rows.ActKeptSaid := over
end Go.Proofs.Ytfeeajodgcdflaa.actKept
