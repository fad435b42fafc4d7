/- The plain laws as the functions of the laws ask them: of checkV. -/
import Derived.Test.YtkjjhndccelbcaaLawRun
import Derived.Test.YtkjjhndccelbcaaCheckE
namespace Go.Proofs.Ytkjjhndccelbcaa

/-- Events up to the first wrong one are right, and with that one they are wrong there, whatever follows. -/
theorem begins (ks : List Kf) (evs : List Ev) : ∃ (q : Int) (t : Nat), checkV ks evs = (q, (t : Int)) ∧ (0 ≤ q ∧ q ≤ 14) ∧ (q = 0 → t = evs.length) ∧ (q ≠ 0 → (evs.length = 0 ∧ t = 0) ∨ t < evs.length) ∧
    (q ≠ 0 → t < evs.length → (checkV ks (evs.take t) = (0, (t : Int)) ∨ (q = 1 ∧ t = 0)) ∧ ∀ more, checkV ks (evs.take (t + 1) ++ more) = (q, (t : Int))) := by
  by_cases hp : progB ks = true
  · refine ⟨1, 0, by simp [checkV, hp], by omega, fun h => by omega, fun _ => by omega, fun _ _ => ⟨.inr ⟨rfl, rfl⟩, fun more => by simp [checkV, hp]⟩⟩
  · obtain ⟨t, h1, h2, h3, h4, h5, h6, h7⟩ := runV_spec ks evs bk0 0
    rw [Nat.zero_add] at h2 h6
    have e : checkV ks evs = ((runV ks bk0 0 evs).1, (t : Int)) := by rw [checkV, if_neg hp, ← h2]
    refine ⟨(runV ks bk0 0 evs).1, t, e, h3, h4, fun h => .inr (h5 h), fun h _ => ⟨.inl (by rw [checkV, if_neg hp, h6]), fun more => ?_⟩⟩
    rw [checkV, if_neg hp, h7 h more, ← h2]
end Go.Proofs.Ytkjjhndccelbcaa
