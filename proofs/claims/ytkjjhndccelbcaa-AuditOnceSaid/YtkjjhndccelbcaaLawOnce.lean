/- Of events that are right nothing is done twice, in plain Lean. -/
import Derived.Test.YtkjjhndccelbcaaLawRun
namespace Go.Proofs.Ytkjjhndccelbcaa
open Go.RowKit Go.Maps Go.Troupe

/-- What never goes back. -/
structure Grows (bk bk' : Bk) : Prop where
  lt : bk.lts.length ≤ bk'.lts.length
  ac : bk.acs.length ≤ bk'.acs.length
  held : ∀ (j : Nat) (l : Lt), bk.lts[j]? = some l → l.held = false → ∃ l', bk'.lts[j]? = some l' ∧ l'.held = false
  over : ∀ (i : Nat) (a : Ac), bk.acs[i]? = some a → a.mode = 5 → ∃ a', bk'.acs[i]? = some a' ∧ a'.mode = 5
theorem Grows.refl (bk : Bk) : Grows bk bk := ⟨Nat.le_refl _, Nat.le_refl _, fun _ l h h' => ⟨l, h, h'⟩, fun _ a h h' => ⟨a, h, h'⟩⟩
theorem Grows.trans {a b c : Bk} (h : Grows a b) (h' : Grows b c) : Grows a c := by
  refine ⟨Nat.le_trans h.lt h'.lt, Nat.le_trans h.ac h'.ac, fun j l h1 h2 => ?_, fun i x h1 h2 => ?_⟩
  · obtain ⟨l', h3, h4⟩ := h.held j l h1 h2
    exact h'.held j l' h3 h4
  · obtain ⟨l', h3, h4⟩ := h.over i x h1 h2
    exact h'.over i l' h3 h4
theorem Grows.setL {bk : Bk} {j : Nat} {l l' : Lt} (hl : bk.lts[j]? = some l) (hh : l.held = false → l'.held = false) : Grows bk (bk.setL j l') := by
  refine ⟨by simp [Bk.setL], Nat.le_refl _, fun q x h1 h2 => ?_, fun _ a h h' => ⟨a, h, h'⟩⟩
  by_cases hq : j = q
  · subst hq
    rw [hl] at h1; cases h1
    exact ⟨l', by simp [Bk.setL, (List.getElem?_eq_some_iff.1 hl).1], hh h2⟩
  · exact ⟨x, by simp [Bk.setL, List.getElem?_set_ne hq]; exact h1, h2⟩
theorem Grows.setA {bk : Bk} {i : Nat} {a a' : Ac} (ha : bk.acs[i]? = some a) (hm : a.mode = 5 → a'.mode = 5) : Grows bk (bk.setA i a') := by
  refine ⟨Nat.le_refl _, by simp [Bk.setA], fun _ l h h' => ⟨l, h, h'⟩, fun q x h1 h2 => ?_⟩
  by_cases hq : i = q
  · subst hq
    rw [ha] at h1; cases h1
    exact ⟨a', by simp [Bk.setA, (List.getElem?_eq_some_iff.1 ha).1], hm h2⟩
  · exact ⟨x, by simp [Bk.setA, List.getElem?_set_ne hq]; exact h1, h2⟩
theorem acV_get {l : List Ac} {id : Int} {j : Nat} {x : Ac} (h : acV l id = some (j, x)) : l[j]? = some x ∧ id = (j : Int) + 1 := by
  rcases acV_cases l id with ⟨h1, -⟩ | ⟨j', x', h1, h3, h2, -⟩
  · rw [h1] at h; cases h
  · rw [h1] at h; cases h; exact ⟨h2, h3⟩
theorem ltV_get' {l : List Lt} {id : Int} {j : Nat} {x : Lt} (h : ltV l id = some (j, x)) : l[j]? = some x ∧ id = (j : Int) + 1 := by
  rcases ltV_cases l id with ⟨h1, -⟩ | ⟨j', x', h1, h3, h2, -⟩
  · rw [h1] at h; cases h
  · rw [h1] at h; cases h; exact ⟨h2, h3⟩
theorem isV_mode {i : Nat} {a : Ac} {ms : List Int} (h : isV (some (i, a)) ms = true) : a.mode ∈ ms := by
  unfold isV at h
  obtain ⟨x, hx, he⟩ := List.any_eq_true.1 h
  unfold eqV at he
  rw [eq_of_beq he]; exact hx
section
variable {ks : List Kf} {bk : Bk} {e : Ev}
theorem sentV_grows : Grows bk (sentV bk e).2 := by
  unfold sentV
  dsimp only
  split
  · refine ⟨by simp, Nat.le_refl _, fun j l h1 h2 => ⟨l, ?_, h2⟩, fun _ a h h' => ⟨a, h, h'⟩⟩
    dsimp only
    rw [List.getElem?_append_left (List.getElem?_eq_some_iff.1 h1).1]; exact h1
  · exact Grows.refl _
theorem startV_grows : Grows bk (startV bk e).2 := by
  unfold startV
  cases ha : acV bk.acs e.actor with
  | none => exact Grows.refl _
  | some p =>
    cases hl : ltV bk.lts e.id with
    | none => exact Grows.refl _
    | some q =>
      obtain ⟨i1, a⟩ := p
      obtain ⟨j, l⟩ := q
      dsimp only
      have hg := ltV_get hl
      have hga := (acV_get ha).1
      split
      · split
        · exact Grows.refl _
        · split
          · exact Grows.refl _
          · split
            · refine Grows.trans (Grows.setL (l' := { l with arrived := true, held := false }) hg (fun _ => rfl)) ?_
              exact Grows.setA (a := a) hga (fun h => h)
            · exact Grows.setL hg (fun h => h)
      · exact Grows.refl _
theorem deadV_grows : Grows bk (deadV bk e).2 := by
  unfold deadV
  cases hl : ltV bk.lts e.id with
  | none => exact Grows.refl _
  | some q =>
    obtain ⟨j, l⟩ := q
    dsimp only
    split
    · exact Grows.setL (ltV_get hl) (fun _ => rfl)
    · exact Grows.refl _
theorem spawnedV_grows : Grows bk (spawnedV ks bk e).2 := by
  unfold spawnedV
  dsimp only
  split
  · refine ⟨Nat.le_refl _, by simp, fun _ l h h' => ⟨l, h, h'⟩, fun j l h1 h2 => ⟨l, ?_, h2⟩⟩
    dsimp only
    rw [List.getElem?_append_left (List.getElem?_eq_some_iff.1 h1).1]; exact h1
  · exact Grows.refl _
theorem ruleV_grows : Grows bk (ruleV ks bk e).2 := by
  unfold ruleV
  by_cases h1 : e.kd = 1
  · rw [if_pos h1]; exact Grows.refl _
  rw [if_neg h1]
  by_cases h2 : e.kd = 2
  · rw [if_pos h2]; exact sentV_grows
  rw [if_neg h2]
  by_cases h3 : e.kd = 3
  · rw [if_pos h3]; exact startV_grows
  rw [if_neg h3]
  by_cases h4 : e.kd = 4
  · rw [if_pos h4]
    unfold endV
    cases ha : acV bk.acs e.actor with
    | none => exact Grows.refl _
    | some p =>
      obtain ⟨i, a⟩ := p
      dsimp only
      split
      · split
        · exact Grows.setA (acV_get ha).1 (fun h => h)
        · exact Grows.refl _
      · exact Grows.refl _
  rw [if_neg h4]
  by_cases h5 : e.kd = 5
  · rw [if_pos h5]; exact startV_grows
  rw [if_neg h5]
  by_cases h6 : e.kd = 6
  · rw [if_pos h6]; exact deadV_grows
  rw [if_neg h6]
  by_cases h7 : e.kd = 7
  · rw [if_pos h7]; exact spawnedV_grows
  rw [if_neg h7]
  by_cases h8 : e.kd = 8
  · rw [if_pos h8]; exact Grows.refl _
  rw [if_neg h8]
  by_cases h9 : e.kd = 9
  · rw [if_pos h9]
    unfold failedV
    cases ha : acV bk.acs e.actor with
    | none => exact Grows.refl _
    | some p =>
      obtain ⟨i, a⟩ := p
      dsimp only
      split
      · rename_i h
        have := isV_mode (Bool.and_eq_true _ _ ▸ h).1
        exact Grows.setA (acV_get ha).1 (fun h5 => by rw [h5] at this; simp at this)
      · exact Grows.refl _
  rw [if_neg h9]
  by_cases h10 : e.kd = 10
  · rw [if_pos h10]
    unfold toldV
    cases ha : acV bk.acs e.actor with
    | none => exact Grows.refl _
    | some p =>
      cases hb : acV bk.acs e.src with
      | none => exact Grows.refl _
      | some q =>
        obtain ⟨i, a⟩ := p
        obtain ⟨i2, up⟩ := q
        dsimp only
        split
        · split
          · exact Grows.setA (acV_get ha).1 (fun h => h)
          · exact Grows.refl _
        · exact Grows.refl _
  rw [if_neg h10]
  by_cases h11 : e.kd = 11
  · rw [if_pos h11]
    unfold resumedV
    cases ha : acV bk.acs e.actor with
    | none => exact Grows.refl _
    | some p =>
      obtain ⟨i, a⟩ := p
      dsimp only
      split
      · rename_i h
        have := isV_mode (Bool.and_eq_true _ _ ▸ h).1
        exact Grows.setA (acV_get ha).1 (fun h5 => by rw [h5] at this; simp at this)
      · exact Grows.refl _
  rw [if_neg h11]
  by_cases h12 : e.kd = 12
  · rw [if_pos h12]
    unfold restartedV
    cases ha : acV bk.acs e.actor with
    | none => exact Grows.refl _
    | some p =>
      obtain ⟨i, a⟩ := p
      dsimp only
      split
      · rename_i h
        simp only [Bool.and_eq_true] at h
        have := isV_mode h.1.1
        exact Grows.setA (acV_get ha).1 (fun h5 => by rw [h5] at this; simp at this)
      · exact Grows.refl _
  rw [if_neg h12]
  by_cases h13 : e.kd = 13
  · rw [if_pos h13]
    unfold stoppingV
    cases ha : acV bk.acs e.actor with
    | none => exact Grows.refl _
    | some p =>
      obtain ⟨i, a⟩ := p
      dsimp only
      split
      · rename_i h
        have := isV_mode (Bool.and_eq_true _ _ ▸ h).1
        exact Grows.setA (acV_get ha).1 (fun h5 => by rw [h5] at this; simp at this)
      · exact Grows.refl _
  rw [if_neg h13]
  by_cases h14 : e.kd = 14
  · rw [if_pos h14]
    unfold endedV
    cases ha : acV bk.acs e.actor with
    | none => exact Grows.refl _
    | some p =>
      obtain ⟨i, a⟩ := p
      dsimp only
      split
      · exact Grows.setA (acV_get ha).1 (fun _ => rfl)
      · exact Grows.refl _
  rw [if_neg h14]
  unfold tickV
  split
  · exact ⟨Nat.le_refl _, Nat.le_refl _, fun _ l h h' => ⟨l, h, h'⟩, fun _ a h h' => ⟨a, h, h'⟩⟩
  · exact Grows.refl _
end
def stepV (ks : List Kf) : Bk → List Ev → Bk
  | bk, [] => bk
  | bk, e :: l => stepV ks (ruleV ks bk e).2 l
theorem stepV_grows (ks : List Kf) : ∀ (l : List Ev) (bk : Bk), Grows bk (stepV ks bk l)
  | [], bk => Grows.refl bk
  | e :: l, _ => (ruleV_grows (e := e)).trans (stepV_grows ks l _)
theorem stepV_app (ks : List Kf) : ∀ (l l' : List Ev) (bk : Bk), stepV ks bk (l ++ l') = stepV ks (stepV ks bk l) l'
  | [], _, _ => rfl
  | _ :: l, l', _ => stepV_app ks l l' _
theorem runV_pass (ks : List Kf) : ∀ (l : List Ev) (bk : Bk) (i t : Nat), (runV ks bk i l).2 = ((i + t : Nat) : Int) → ∀ (j : Nat) (e : Ev), j < t → l[j]? = some e → (ruleV ks (stepV ks bk (l.take j)) e).1 = 0
  | [], bk, i, t, _, j, e, _, h => by simp at h
  | x :: l, bk, i, t, ht, j, e, hj, h => by
    by_cases hb : badKd i x = true
    · simp only [runV, hb, if_true] at ht; omega
    · by_cases hr : (ruleV ks bk x).1 ≠ 0
      · have hs : runV ks bk i (x :: l) = ((ruleV ks bk x).1, (i : Int)) := by
          conv => lhs; unfold runV
          rw [if_neg hb, if_pos hr]
        rw [hs] at ht
        dsimp only at ht
        omega
      · have hs : runV ks bk i (x :: l) = runV ks (ruleV ks bk x).2 (i + 1) l := by
          conv => lhs; unfold runV
          rw [if_neg hb, if_neg hr]
        cases j with
        | zero =>
          simp at h; subst h
          simpa [stepV] using hr
        | succ j =>
          rw [hs] at ht
          obtain ⟨t', rfl⟩ : ∃ t', t = t' + 1 := ⟨t - 1, by omega⟩
          exact runV_pass ks l _ (i + 1) t' (by rw [ht]; omega) j e (by omega) (by simpa using h)

/-- An event that passed at a place, and one behind it: the book of the latter has grown out of the former's. -/
theorem two_of (ks : List Kf) {l : List Ev} {i j : Nat} {a : Ev} (hji : j < i) (ha : l[j]? = some a) :
    Grows (ruleV ks (stepV ks bk0 (l.take j)) a).2 (stepV ks bk0 (l.take i)) := by
  have h1 : l.take i = l.take j ++ a :: (l.drop (j + 1)).take (i - (j + 1)) := by
    obtain ⟨hj, rfl⟩ := List.getElem?_eq_some_iff.1 ha
    conv => lhs; rw [← List.take_append_drop (j + 1) (l.take i)]
    rw [List.take_take, Nat.min_eq_left (by omega), List.take_succ_eq_append_getElem hj, List.append_assoc, List.drop_take]
    rfl
  rw [h1, stepV_app]
  exact stepV_grows ks _ _
def endsV (e : Ev) : Bool := e.kd == 3 || e.kd == 6
/-- What passed as started or dead is not held any more. -/
theorem ends_done {ks : List Kf} {bk : Bk} {e : Ev} (h : endsV e = true) (hp : (ruleV ks bk e).1 = 0) : ∃ (j : Nat) (l : Lt), e.id = (j : Int) + 1 ∧ (ruleV ks bk e).2.lts[j]? = some l ∧ l.held = false := by
  unfold endsV at h
  rw [Bool.or_eq_true] at h
  rcases h with h | h
  · have hk : e.kd = 3 := eq_of_beq h
    have hr : ruleV ks bk e = startV bk e := by unfold ruleV; rw [if_neg (by omega), if_neg (by omega), if_pos hk]
    rw [hr] at hp ⊢
    unfold startV at hp ⊢
    cases ha : acV bk.acs e.actor with
    | none => rw [ha] at hp; simp at hp
    | some p =>
      cases hl : ltV bk.lts e.id with
      | none => rw [ha, hl] at hp; simp at hp
      | some q =>
        obtain ⟨i1, a⟩ := p
        obtain ⟨j, l⟩ := q
        rw [ha, hl] at hp
        dsimp only at hp ⊢
        have hg := ltV_get' hl
        split at hp
        · split at hp
          · simp at hp
          · split at hp
            · simp at hp
            · rename_i h1 h2 h3
              rw [if_pos h1, if_neg h2, if_neg h3, if_pos hk]
              exact ⟨j, { l with arrived := true, held := false }, hg.2, by simp [Bk.setA, Bk.setL, (List.getElem?_eq_some_iff.1 hg.1).1], rfl⟩
        · simp at hp
  · have hk : e.kd = 6 := eq_of_beq h
    have hr : ruleV ks bk e = deadV bk e := by unfold ruleV; rw [if_neg (by omega), if_neg (by omega), if_neg (by omega), if_neg (by omega), if_neg (by omega), if_pos hk]
    rw [hr] at hp ⊢
    unfold deadV at hp ⊢
    cases hl : ltV bk.lts e.id with
    | none => rw [hl] at hp; simp at hp
    | some q =>
      obtain ⟨j, l⟩ := q
      rw [hl] at hp
      dsimp only at hp ⊢
      have hg := ltV_get' hl
      split at hp
      · rename_i h1
        rw [if_pos h1]
        exact ⟨j, { l with held := false }, hg.2, by simp [Bk.setL, (List.getElem?_eq_some_iff.1 hg.1).1], rfl⟩
      · simp at hp
/-- .. and is not started nor dead again. -/
theorem ends_not {ks : List Kf} {bk : Bk} {e : Ev} {j : Nat} {l : Lt} (h : endsV e = true) (hid : e.id = (j : Int) + 1) (hl : bk.lts[j]? = some l) (hh : l.held = false) : (ruleV ks bk e).1 ≠ 0 := by
  have hv : ltV bk.lts e.id = some (j, l) := by
    unfold ltV
    have hj := (List.getElem?_eq_some_iff.1 hl).1
    rw [if_neg (by omega), hid, show ((j : Int) + 1 - 1).toNat = j by omega, hl]; rfl
  unfold endsV at h
  rw [Bool.or_eq_true] at h
  rcases h with h | h
  · have hk : e.kd = 3 := eq_of_beq h
    have hr : ruleV ks bk e = startV bk e := by unfold ruleV; rw [if_neg (by omega), if_neg (by omega), if_pos hk]
    rw [hr]
    unfold startV
    rw [hv]
    cases ha : acV bk.acs e.actor with
    | none => simp
    | some p =>
      obtain ⟨i1, a⟩ := p
      dsimp only
      rw [hh]
      simp
  · have hk : e.kd = 6 := eq_of_beq h
    have hr : ruleV ks bk e = deadV bk e := by unfold ruleV; rw [if_neg (by omega), if_neg (by omega), if_neg (by omega), if_neg (by omega), if_neg (by omega), if_pos hk]
    rw [hr]
    unfold deadV
    rw [hv]
    dsimp only
    rw [hh]
    simp

theorem sent_id {ks : List Kf} {bk : Bk} {e : Ev} (hk : e.kd = 2) (hp : (ruleV ks bk e).1 = 0) : e.id = (bk.lts.length : Int) + 1 ∧ (ruleV ks bk e).2.lts.length = bk.lts.length + 1 := by
  have hr : ruleV ks bk e = sentV bk e := by unfold ruleV; rw [if_neg (by omega), if_pos hk]
  rw [hr] at hp ⊢
  unfold sentV at hp ⊢
  dsimp only at hp ⊢
  split at hp
  · rename_i h
    rw [if_pos h]
    refine ⟨?_, by simp⟩
    unfold brokenV at h
    split at h
    · rename_i h1
      exact eq_of_beq h1
    · simp at h
  · rename_i h
    exact absurd hp h
theorem spawn_id {ks : List Kf} {bk : Bk} {e : Ev} (hk : e.kd = 7) (hp : (ruleV ks bk e).1 = 0) : e.actor = (bk.acs.length : Int) + 1 ∧ (ruleV ks bk e).2.acs.length = bk.acs.length + 1 := by
  have hr : ruleV ks bk e = spawnedV ks bk e := by unfold ruleV; rw [if_neg (by omega), if_neg (by omega), if_neg (by omega), if_neg (by omega), if_neg (by omega), if_neg (by omega), if_pos hk]
  rw [hr] at hp ⊢
  unfold spawnedV at hp ⊢
  dsimp only at hp ⊢
  split at hp
  · rename_i h
    rw [if_pos h]
    refine ⟨?_, by simp⟩
    unfold brokenV at h
    split at h
    · rename_i h1
      unfold brokenV at h
      split at h
      · rename_i h2
        rw [Bool.and_eq_true] at h1
        rw [Bool.or_eq_true] at h2
        rcases h2 with h2 | h2
        · have h3 := h1.2
          rw [h2] at h3
          simp only [Bool.not_true, Bool.false_or, Bool.and_eq_true, beq_iff_eq] at h3
          have h4 : bk.acs = [] := by simpa using h2
          rw [h4]
          simpa using h3.1.1
        · rw [Bool.and_eq_true] at h2
          exact eq_of_beq h2.1
      · simp at h
    · simp at h
  · rename_i h
    exact absurd hp h
theorem ended_done {ks : List Kf} {bk : Bk} {e : Ev} (hk : e.kd = 14) (hp : (ruleV ks bk e).1 = 0) : ∃ (i : Nat) (a : Ac), e.actor = (i : Int) + 1 ∧ (ruleV ks bk e).2.acs[i]? = some a ∧ a.mode = 5 := by
  have hr : ruleV ks bk e = endedV bk e := by
    unfold ruleV; rw [if_neg (by omega), if_neg (by omega), if_neg (by omega), if_neg (by omega), if_neg (by omega), if_neg (by omega), if_neg (by omega), if_neg (by omega), if_neg (by omega), if_neg (by omega), if_neg (by omega), if_neg (by omega), if_neg (by omega), if_pos hk]
  rw [hr] at hp ⊢
  unfold endedV at hp ⊢
  cases ha : acV bk.acs e.actor with
  | none => rw [ha] at hp; simp at hp
  | some p =>
    obtain ⟨i, a⟩ := p
    rw [ha] at hp
    dsimp only at hp ⊢
    have hg := acV_get ha
    split at hp
    · rename_i h1
      rw [if_pos h1]
      exact ⟨i, { a with mode := 5 }, hg.2, by simp [Bk.setA, (List.getElem?_eq_some_iff.1 hg.1).1], rfl⟩
    · simp at hp
theorem ended_not {ks : List Kf} {bk : Bk} {e : Ev} {i : Nat} {a : Ac} (hk : e.kd = 14) (hid : e.actor = (i : Int) + 1) (ha : bk.acs[i]? = some a) (hm : a.mode = 5) : (ruleV ks bk e).1 ≠ 0 := by
  have hr : ruleV ks bk e = endedV bk e := by
    unfold ruleV; rw [if_neg (by omega), if_neg (by omega), if_neg (by omega), if_neg (by omega), if_neg (by omega), if_neg (by omega), if_neg (by omega), if_neg (by omega), if_neg (by omega), if_neg (by omega), if_neg (by omega), if_neg (by omega), if_neg (by omega), if_pos hk]
  have hv : acV bk.acs e.actor = some (i, a) := by
    unfold acV
    have hj := (List.getElem?_eq_some_iff.1 ha).1
    rw [if_neg (by omega), hid, show ((i : Int) + 1 - 1).toNat = i by omega, ha]; rfl
  rw [hr]
  unfold endedV
  rw [hv]
  dsimp only
  have hf : isV (some (i, a)) [4] = false := by
    cases h : isV (some (i, a)) [4] with
    | false => rfl
    | true =>
      have := isV_mode h
      rw [hm] at this; simp at this
  rw [hf]
  simp
def twiceV (a b : Ev) : Bool := (a.id == b.id && ((endsV a && endsV b) || (a.kd == 2 && b.kd == 2))) || (a.actor == b.actor && ((a.kd == 14 && b.kd == 14) || (a.kd == 7 && b.kd == 7)))
/-- Of events that are right nothing is done twice. -/
theorem once (ks : List Kf) {l : List Ev} {t i j : Nat} {a b : Ev} (ht : (runV ks bk0 0 l).2 = ((t : Nat) : Int)) (hji : j < i) (hit : i < t) (ha : l[j]? = some a) (hb : l[i]? = some b) : twiceV a b = false := by
  have ht' : (runV ks bk0 0 l).2 = ((0 + t : Nat) : Int) := by rw [Nat.zero_add]; exact ht
  have pa := runV_pass ks l bk0 0 t ht' j a (by omega) ha
  have pb := runV_pass ks l bk0 0 t ht' i b hit hb
  have hg := two_of ks hji ha
  cases hc : twiceV a b with
  | false => rfl
  | true =>
    exfalso
    unfold twiceV at hc
    simp only [Bool.or_eq_true, Bool.and_eq_true, beq_iff_eq] at hc
    rcases hc with ⟨hid, ⟨h1, h2⟩ | ⟨h1, h2⟩⟩ | ⟨hac, ⟨h1, h2⟩ | ⟨h1, h2⟩⟩
    · obtain ⟨q, x, h3, h4, h5⟩ := ends_done h1 pa
      obtain ⟨x', h6, h7⟩ := hg.held q x h4 h5
      exact ends_not h2 (by rw [← hid]; exact h3) h6 h7 pb
    · have h3 := sent_id h1 pa
      have h4 := sent_id h2 pb
      have h5 := hg.lt
      omega
    · obtain ⟨q, x, h3, h4, h5⟩ := ended_done h1 pa
      obtain ⟨x', h6, h7⟩ := hg.over q x h4 h5
      exact ended_not h2 (by rw [← hac]; exact h3) h6 h7 pb
    · have h3 := spawn_id h1 pa
      have h4 := spawn_id h2 pb
      have h5 := hg.ac
      omega
end Go.Proofs.Ytkjjhndccelbcaa
