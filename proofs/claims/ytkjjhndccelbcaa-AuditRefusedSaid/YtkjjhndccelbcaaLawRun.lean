/- Laws of the events, one by one, in plain Lean. -/
import Derived.Test.YtkjjhndccelbcaaRunV
namespace Go.Proofs.Ytkjjhndccelbcaa
open Go.RowKit Go.Maps Go.Troupe

theorem brokenV_range : ∀ (l : List Ru), (∀ r ∈ l, 0 ≤ r.n ∧ r.n ≤ 14) → 0 ≤ brokenV l ∧ brokenV l ≤ 14
  | [], _ => by unfold brokenV; omega
  | r :: l, h => by
    unfold brokenV
    split
    · exact brokenV_range l (fun x hx => h x (by simp [hx]))
    · exact h r (by simp)
section
variable {ks : List Kf} {bk : Bk} {e : Ev}
theorem ruleV_range : 0 ≤ (ruleV ks bk e).1 ∧ (ruleV ks bk e).1 ≤ 14 := by
  unfold ruleV
  by_cases h1 : e.kd = 1
  · rw [if_pos h1]; simp
  rw [if_neg h1]
  by_cases h2 : e.kd = 2
  · rw [if_pos h2]
    unfold sentV
    dsimp only
    split
    · simp
    · exact brokenV_range _ (by simp)
  rw [if_neg h2]
  by_cases h3 : e.kd = 3
  · rw [if_pos h3]
    unfold startV
    repeat' split
    all_goals (try dsimp only)
    all_goals (repeat' split)
    all_goals simp
  rw [if_neg h3]
  by_cases h4 : e.kd = 4
  · rw [if_pos h4]
    unfold endV
    repeat' split
    all_goals (try dsimp only)
    all_goals (repeat' split)
    all_goals simp
  rw [if_neg h4]
  by_cases h5 : e.kd = 5
  · rw [if_pos h5]
    unfold startV
    repeat' split
    all_goals (try dsimp only)
    all_goals (repeat' split)
    all_goals simp
  rw [if_neg h5]
  by_cases h6 : e.kd = 6
  · rw [if_pos h6]
    unfold deadV
    repeat' split
    all_goals (try dsimp only)
    all_goals (repeat' split)
    all_goals simp
  rw [if_neg h6]
  by_cases h7 : e.kd = 7
  · rw [if_pos h7]
    unfold spawnedV
    dsimp only
    split
    · simp
    · exact brokenV_range _ (by simp)
  rw [if_neg h7]
  by_cases h8 : e.kd = 8
  · rw [if_pos h8]
    unfold noRoomV
    dsimp only
    split <;> simp
  rw [if_neg h8]
  by_cases h9 : e.kd = 9
  · rw [if_pos h9]
    unfold failedV
    repeat' split
    all_goals (try dsimp only)
    all_goals (repeat' split)
    all_goals simp
  rw [if_neg h9]
  by_cases h10 : e.kd = 10
  · rw [if_pos h10]
    unfold toldV
    repeat' split
    all_goals (try dsimp only)
    all_goals (repeat' split)
    all_goals simp
  rw [if_neg h10]
  by_cases h11 : e.kd = 11
  · rw [if_pos h11]
    unfold resumedV
    repeat' split
    all_goals (try dsimp only)
    all_goals (repeat' split)
    all_goals simp
  rw [if_neg h11]
  by_cases h12 : e.kd = 12
  · rw [if_pos h12]
    unfold restartedV
    repeat' split
    all_goals (try dsimp only)
    all_goals (repeat' split)
    all_goals simp
  rw [if_neg h12]
  by_cases h13 : e.kd = 13
  · rw [if_pos h13]
    unfold stoppingV
    repeat' split
    all_goals (try dsimp only)
    all_goals (repeat' split)
    all_goals simp
  rw [if_neg h13]
  by_cases h14 : e.kd = 14
  · rw [if_pos h14]
    unfold endedV
    repeat' split
    all_goals (try dsimp only)
    all_goals (repeat' split)
    all_goals simp
  rw [if_neg h14]
  unfold tickV
  split <;> simp
end

/-- Where the run ends. -/
theorem runV_spec (ks : List Kf) : ∀ (l : List Ev) (bk : Bk) (i : Nat), ∃ t : Nat, t ≤ l.length ∧ (runV ks bk i l).2 = ((i + t : Nat) : Int) ∧ (0 ≤ (runV ks bk i l).1 ∧ (runV ks bk i l).1 ≤ 14) ∧ ((runV ks bk i l).1 = 0 → t = l.length) ∧ ((runV ks bk i l).1 ≠ 0 → t < l.length) ∧
    runV ks bk i (l.take t) = (0, ((i + t : Nat) : Int)) ∧ ((runV ks bk i l).1 ≠ 0 → ∀ more, runV ks bk i (l.take (t + 1) ++ more) = runV ks bk i l)
  | [], bk, i => ⟨0, Nat.le_refl _, rfl, by simp [runV], fun _ => rfl, fun h => (by simp [runV] at h), rfl, fun h => (by simp [runV] at h)⟩
  | e :: l, bk, i => by
    by_cases hb : badKd i e = true
    · refine ⟨0, Nat.zero_le _, by simp [runV, hb], by simp [runV, hb], fun h => by simp [runV, hb] at h, fun _ => by simp, rfl, fun _ more => by simp [runV, hb]⟩
    · by_cases hr : (ruleV ks bk e).1 ≠ 0
      · refine ⟨0, Nat.zero_le _, by simp [runV, hb, hr], by simp only [runV, hb, if_false, Bool.false_eq_true]; simpa [hr] using ruleV_range, fun h => by simp [runV, hb, hr] at h, fun _ => by simp, rfl, fun _ more => by simp [runV, hb, hr]⟩
      · obtain ⟨t, h1, h2, h3, h4, h5, h6, h7⟩ := runV_spec ks l (ruleV ks bk e).2 (i + 1)
        have hs : ∀ l', runV ks bk i (e :: l') = runV ks (ruleV ks bk e).2 (i + 1) l' := fun l' => by
          conv => lhs; unfold runV
          rw [if_neg hb, if_neg hr]
        have ec : ((i + 1 + t : Nat) : Int) = ((i + (t + 1) : Nat) : Int) := by omega
        refine ⟨t + 1, by simpa using h1, by rw [hs, h2, ec], by rw [hs]; exact h3, fun h => by rw [hs] at h; simp [h4 h], fun h => by rw [hs] at h; simpa using h5 h, ?_, fun h more => ?_⟩
        · rw [List.take_succ_cons, hs, h6, ec]
        · rw [hs] at h
          rw [List.take_succ_cons, List.cons_append, hs, hs, h7 h more]

/-! ### what was refused -/
def refEv (e : Ev) : Prop := e.kd = 1
theorem runV_shift (ks : List Kf) : ∀ (l : List Ev) (bk : Bk) (i : Nat), 1 ≤ i → runV ks bk (i + 1) l = ((runV ks bk i l).1, (runV ks bk i l).2 + 1)
  | [], bk, i, _ => by simp [runV]
  | e :: l, bk, i, hi => by
    have hb : badKd (i + 1) e = badKd i e := by
      unfold badKd
      rw [beq_eq_false_iff_ne.2 (by omega : i + 1 ≠ 0), beq_eq_false_iff_ne.2 (by omega : i ≠ 0)]
    unfold runV
    rw [hb]
    by_cases h : badKd i e = true
    · rw [if_pos h, if_pos h]; simp
    · rw [if_neg h, if_neg h]
      by_cases hr : (ruleV ks bk e).1 ≠ 0
      · rw [if_pos hr, if_pos hr]; simp
      · rw [if_neg hr, if_neg hr]
        exact runV_shift ks l _ (i + 1) (by omega)
theorem runV_refused (ks : List Kf) (r : Ev) (hr : r.kd = 1) : ∀ (l : List Ev) (bk : Bk) (i a : Nat), a ≤ l.length → 1 ≤ i + a →
    runV ks bk i (l.take a ++ r :: l.drop a) = ((runV ks bk i l).1, if ((i + a : Nat) : Int) ≤ (runV ks bk i l).2 then (runV ks bk i l).2 + 1 else (runV ks bk i l).2)
  | l, bk, i, 0, _, hi => by
    have hi' : 1 ≤ i := by omega
    have hb : ¬ badKd i r = true := by
      unfold badKd
      rw [hr, beq_eq_false_iff_ne.2 (by omega : i ≠ 0)]; decide
    have hru : ruleV ks bk r = (0, bk) := by unfold ruleV; rw [if_pos hr]
    obtain ⟨t, -, h2, -⟩ := runV_spec ks l bk i
    rw [List.take_zero, List.drop_zero, List.nil_append]
    conv => lhs; unfold runV
    rw [if_neg hb, hru, if_neg (by simp), runV_shift ks l bk i hi', if_pos (by rw [h2]; omega)]
  | [], bk, i, a + 1, h, _ => by simp at h
  | e :: l, bk, i, a + 1, h, hi => by
    rw [List.take_succ_cons, List.drop_succ_cons, List.cons_append]
    unfold runV
    by_cases hb : badKd i e = true
    · rw [if_pos hb, if_pos hb, if_neg (by simp; omega)]
    · rw [if_neg hb, if_neg hb]
      by_cases hrr : (ruleV ks bk e).1 ≠ 0
      · rw [if_pos hrr, if_pos hrr, if_neg (by simp; omega)]
      · rw [if_neg hrr, if_neg hrr]
        have := runV_refused ks r hr l (ruleV ks bk e).2 (i + 1) a (by simpa using h) (by omega)
        rw [this]
        rw [show ((i + 1 + a : Nat) : Int) = ((i + (a + 1) : Nat) : Int) by omega]
end Go.Proofs.Ytkjjhndccelbcaa
