/-
  Proved: whatever the program and the events: of events that are right no message is worked on twice, none is both worked on and dead, and none is sent twice. No condition.
-/
import Derived.Test.YtkjjhndccelbcaaRows
import Derived.Test.YtkjjhndccelbcaaOnce
import Derived.Test.YtkjjhndccelbcaaArgs2
import Derived.Lib.SmallJoins
import Derived.Test.YtkjjhndccelbcaaOpen
namespace Go.Proofs.Ytkjjhndccelbcaa.auditOnce
open Go.ChangeShapes Go.WideShapes Go.ChangeAt Go.RowKit Go.Troupe
open Go.ChangeMaps (open_string shut_string)
set_option linter.unusedVariables false

theorem own : ownKnob Try.prog.godebug = none := by kernel_rfl
theorem laidOut : laidOutB Try.prog = true := by kernel_rfl
theorem light_of {H : Type} {P : Program} {ts : List TypeId} {ds : List (DataW H)} (hz : (DataW.weightsEach P ts ds).all (· ≤ reachBytes) = true) {j : Nat} {t : TypeId} {d : DataW H} (ht : ts[j]? = some t) (hd : ds[j]? = some d) : Light P t d :=
  fun n hn => by simpa using List.all_eq_true.1 hz n (DataW.weights_mem_each ht hd n hn)

set_option maxRecDepth 100000 in
theorem lifted (os : Os) (started : os.Started) (H : Type) (enc : TypeId × Value → H) :
    ReturnsInHanded {} Try.checked os 5 .any (Rows.auditOnceSpec.pre6 enc Try.prog Try.f5 Rows.auditOnceRow.domain false) (Rows.auditOnceSpec.post enc Try.prog Try.f5 false true false false) := by
  refine returnsInHanded_of_change_sized (C := Try.checked) own started (by kernel_rfl) Try.func5
    (ChangeSpec.witness6 (enc := enc) (C := Try.checked) false ⟨#[], #[.agg #[.slice none 0 0], .slice none 0 0], []⟩ 8 (by kernel_rfl) (by kernel_rfl) (by kernel_rfl) (by kernel_rfl)) ?_
  intro W base args ds gs before hval0 hW hcnd hz _
  have hval : ∀ (j : Nat) t v, Try.f5.params[j]? = some t → args[j]? = some v → Value.okWide Try.prog W .any base t v := hval0
  have hW' := hW
  obtain ⟨p, q, hA0, hV, rfl, hfz, hnd⟩ := hW
  have hA : DataW.TrodAll enc Try.prog W 0 (fun _ => true) true Try.f5.params.toList args.toList ds p := hA0
  rw [Try.params5] at hA hval
  obtain ⟨v0, vs0, d0, ds0, p0, q0, hargs, rfl, rfl, h0, r0⟩ := trodAll_cons hA
  obtain ⟨v1, vs1, d1, ds1, p1, q1, rfl, rfl, rfl, h1, r1⟩ := trodAll_cons r0
  obtain ⟨rfl, rfl, rfl⟩ := trodAll_nil r1
  obtain rfl : args = #[v0, v1] := by cases args; simp_all
  obtain ⟨rfl, rfl⟩ := trodVars_none hV
  have k0 := h0
  have lt0 : ∀ x ∈ p0, x.block < W.heap.size := by obtain ⟨m, hm⟩ := k0; exact DataW.trod_lt m _ _ _ hm
  have k1 := h1
  have lt1 : ∀ x ∈ p1, x.block < W.heap.size := by obtain ⟨m, hm⟩ := k1; exact DataW.trod_lt m _ _ _ hm
  have z0 : Light Try.prog 24 d0 := light_of hz (j := 0) (by kernel_rfl) rfl
  obtain ⟨cs0, rfl, _⟩ := okWide_struct Try.underlying24 (hval 0 24 v0 rfl rfl)
  obtain ⟨A0, c0, ks0, hP0, hPC0, hPK0, hPL0, hPN0, hPQ0⟩ : ∃ (A : Option Addr) (c : Nat) (ks : List Kf), cs0 = #[.slice A ks.length c] ∧ Cells W W.heap.size A (flatK ks) ∧ KindsIn W W.heap.size ks ∧ ks.length ≤ 140737488355328 ∧ ks.length ≤ c ∧ (∀ k ∈ ks, CapK k) := by
    obtain ⟨fuel, hf⟩ := h0
    obtain ⟨A, c, ks, h1, h2⟩ := openP fuel _ _ hf z0
    exact ⟨A, c, ks, by simpa [Value.cells] using h1, h2⟩
  subst hP0
  have hS0 : Stands W W.heap.size A0 c0 ks0 := ⟨hPC0, hPK0, Nat.le_refl _, hPL0, hPN0, hPQ0⟩
  have z1 : Light Try.prog 25 d1 := light_of hz (j := 1) (by kernel_rfl) rfl
  obtain ⟨A1, len1, cap1, rfl⟩ := okWide_slice Try.underlying25 (hval 1 25 v1 rfl rfl)
  obtain ⟨L1, hL1, hC1, hO1, hlc1, hn1, hm1⟩ : ∃ L : List Ev, L.length = len1 ∧ Cells W W.heap.size A1 (flatV L) ∧ (∀ e ∈ L, EvOk e) ∧ len1 ≤ cap1 ∧ (A1 = none → cap1 = 0) ∧ len1 < 281474976710656 := by
    obtain ⟨fuel, hf⟩ := h1
    exact openL (by simpa [Value.cells] using hf) z1
  subst hL1
  clear hA0 hval0
  refine (once_any W hS0 hC1 hlc1 hn1 hO1 hm1).mono fun e W' ⟨he, bel⟩ => ?_
  subst he
  exact ⟨_, rfl, _, _, _, [], _, [], hW', trodAll_mk1 (shut_bool Try.underlying4 _), (trodAll_cons_mk (Below.trod laidOut (by kernel_rfl) (of_decide_eq_true (by kernel_rfl)) k0 bel lt0) (trodAll_cons_mk (Below.trod laidOut (by kernel_rfl) (of_decide_eq_true (by kernel_rfl)) k1 bel lt1) trodAll_mk0)), rfl, bel.frame _, fun h => by cases h⟩

theorem over : Rows.auditOnceRow.holds Try.pinned (OpenSpec.ofChange Rows.auditOnceSpec) :=
  OpenClaim.holds_of_wide 5 Try.f5 rfl rfl rfl rfl rfl rfl rfl ⟨rfl, rfl, rfl, rfl, rfl⟩ rfl rfl rfl rfl rfl (by kernel_rfl) Try.func5 (by kernel_rfl)
    (of_decide_eq_true (by kernel_rfl)) (by unfold Func.isWrapper; first | (rw [if_pos (by decide +kernel)]; kernel_rfl) | (rw [if_neg (by decide +kernel)]; exact ⟨rfl, rfl⟩))
    (fun os started H enc _ => lifted os started H enc)

/-- THE STATEMENT -/
theorem auditOnce_holds : Rows.AuditOnceSaid := over
end Go.Proofs.Ytkjjhndccelbcaa.auditOnce
