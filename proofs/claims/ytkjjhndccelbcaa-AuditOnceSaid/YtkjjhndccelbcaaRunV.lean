/- The events one by one, as a Lean function; what stays true of the book. -/
import Derived.Test.YtkjjhndccelbcaaModel
namespace Go.Proofs.Ytkjjhndccelbcaa
open Go.RowKit Go.Maps Go.Troupe

def badKd (i : Nat) (e : Ev) : Bool := (decide (e.kd < 1) || decide (15 < e.kd)) || (i == 0 && e.kd != 7)
def runV (ks : List Kf) : Bk → Nat → List Ev → Int × Int
  | _, i, [] => (0, (i : Int))
  | bk, i, e :: es => if badKd i e = true then (1, (i : Int)) else if (ruleV ks bk e).1 ≠ 0 then ((ruleV ks bk e).1, (i : Int)) else runV ks (ruleV ks bk e).2 (i + 1) es
def bk0 : Bk := ⟨[], [], 0⟩

/-- What stays true of the book behind i events. -/
structure InvB (i : Nat) (bk : Bk) : Prop where
  ac : bk.acs.length ≤ i
  lt : bk.lts.length ≤ i
  tk : 0 ≤ bk.ticks ∧ bk.ticks ≤ (i : Int)
  n : ∀ l ∈ bk.lts, -9223372036854775808 ≤ l.ev.n ∧ l.ev.n ≤ 9223372036854775807
theorem InvB.zero : InvB 0 bk0 := ⟨Nat.le_refl _, Nat.le_refl _, ⟨Int.le_refl _, Int.le_refl _⟩, fun l hl => (by simp [bk0] at hl)⟩
theorem InvB.mono {i j : Nat} {bk : Bk} (h : InvB i bk) (hij : i ≤ j) : InvB j bk := ⟨Nat.le_trans h.ac hij, Nat.le_trans h.lt hij, ⟨h.tk.1, by have := h.tk.2; omega⟩, h.n⟩
theorem InvB.setA {i j : Nat} {bk : Bk} (h : InvB i bk) (a : Ac) : InvB i (bk.setA j a) := ⟨by simpa [Bk.setA] using h.ac, h.lt, h.tk, h.n⟩
theorem InvB.setL {i j : Nat} {bk : Bk} (h : InvB i bk) {l l' : Lt} (hl : bk.lts[j]? = some l) (he : l'.ev = l.ev) : InvB i (bk.setL j l') := by
  refine ⟨h.ac, by simpa [Bk.setL] using h.lt, h.tk, fun x hx => ?_⟩
  rcases List.mem_or_eq_of_mem_set hx with hx | rfl
  · exact h.n x hx
  · rw [he]; exact h.n l (List.mem_of_getElem? hl)
theorem ltV_get {l : List Lt} {id : Int} {j : Nat} {x : Lt} (h : ltV l id = some (j, x)) : l[j]? = some x := by
  rcases ltV_cases l id with ⟨h1, -⟩ | ⟨j', x', h1, -, h2, -⟩
  · rw [h1] at h; cases h
  · rw [h1] at h; cases h; exact h2
section
variable {i : Nat} {bk : Bk} {e : Ev}
theorem sentV_inv (h : InvB i bk) (he : -9223372036854775808 ≤ e.n ∧ e.n ≤ 9223372036854775807) : InvB (i + 1) (sentV bk e).2 := by
  unfold sentV
  dsimp only
  split
  · refine ⟨Nat.le_succ_of_le h.ac, by have := h.lt; simp; omega, ⟨h.tk.1, by have := h.tk.2; simp; omega⟩, fun l hl => ?_⟩
    rcases List.mem_append.1 hl with hl | hl
    · exact h.n l hl
    · simp at hl; subst hl; exact he
  · exact h.mono (Nat.le_succ _)
theorem startV_inv (h : InvB i bk) : InvB (i + 1) (startV bk e).2 := by
  have hm := h.mono (Nat.le_succ i)
  unfold startV
  cases ha : acV bk.acs e.actor with
  | none => exact hm
  | some p =>
    cases hl : ltV bk.lts e.id with
    | none => exact hm
    | some q =>
      obtain ⟨i1, a⟩ := p
      obtain ⟨j, l⟩ := q
      dsimp only
      have hg := ltV_get hl
      split
      · split
        · exact hm
        · split
          · exact hm
          · split
            · refine InvB.setA ?_ _
              exact hm.setL hg rfl
            · exact hm.setL hg rfl
      · exact hm
theorem endV_inv (h : InvB i bk) : InvB (i + 1) (endV bk e).2 := by
  have hm := h.mono (Nat.le_succ i)
  unfold endV
  split
  · split
    · split
      · exact hm.setA _
      · exact hm
    · exact hm
  · exact hm
theorem deadV_inv (h : InvB i bk) : InvB (i + 1) (deadV bk e).2 := by
  have hm := h.mono (Nat.le_succ i)
  unfold deadV
  cases hl : ltV bk.lts e.id with
  | none => exact hm
  | some q =>
    obtain ⟨j, l⟩ := q
    dsimp only
    split
    · exact hm.setL (ltV_get hl) rfl
    · exact hm
theorem spawnedV_inv (ks : List Kf) (h : InvB i bk) : InvB (i + 1) (spawnedV ks bk e).2 := by
  unfold spawnedV
  dsimp only
  split
  · exact ⟨by have := h.ac; simp; omega, Nat.le_succ_of_le h.lt, ⟨h.tk.1, by have := h.tk.2; simp; omega⟩, h.n⟩
  · exact h.mono (Nat.le_succ _)
theorem tickV_inv (h : InvB i bk) : InvB (i + 1) (tickV bk e).2 := by
  unfold tickV
  split
  · exact ⟨Nat.le_succ_of_le h.ac, Nat.le_succ_of_le h.lt, ⟨by have := h.tk.1; simp; omega, by have := h.tk.2; simp; omega⟩, h.n⟩
  · exact h.mono (Nat.le_succ _)
theorem ruleV_inv (ks : List Kf) (h : InvB i bk) (he : -9223372036854775808 ≤ e.n ∧ e.n ≤ 9223372036854775807) : InvB (i + 1) (ruleV ks bk e).2 := by
  have hm := h.mono (Nat.le_succ i)
  unfold ruleV
  by_cases h1 : e.kd = 1
  · rw [if_pos h1]
    exact hm
  rw [if_neg h1]
  by_cases h2 : e.kd = 2
  · rw [if_pos h2]
    exact sentV_inv h he
  rw [if_neg h2]
  by_cases h3 : e.kd = 3
  · rw [if_pos h3]
    exact startV_inv h
  rw [if_neg h3]
  by_cases h4 : e.kd = 4
  · rw [if_pos h4]
    exact endV_inv h
  rw [if_neg h4]
  by_cases h5 : e.kd = 5
  · rw [if_pos h5]
    exact startV_inv h
  rw [if_neg h5]
  by_cases h6 : e.kd = 6
  · rw [if_pos h6]
    exact deadV_inv h
  rw [if_neg h6]
  by_cases h7 : e.kd = 7
  · rw [if_pos h7]
    exact spawnedV_inv ks h
  rw [if_neg h7]
  by_cases h8 : e.kd = 8
  · rw [if_pos h8]
    exact hm
  rw [if_neg h8]
  by_cases h9 : e.kd = 9
  · rw [if_pos h9]
    unfold failedV
    split
    · split
      · exact hm.setA _
      · exact hm
    · exact hm
  rw [if_neg h9]
  by_cases h10 : e.kd = 10
  · rw [if_pos h10]
    unfold toldV
    split
    · split
      · dsimp only
        split
        · exact hm.setA _
        · exact hm
      · exact hm
    · exact hm
  rw [if_neg h10]
  by_cases h11 : e.kd = 11
  · rw [if_pos h11]
    unfold resumedV
    split
    · split
      · exact hm.setA _
      · exact hm
    · exact hm
  rw [if_neg h11]
  by_cases h12 : e.kd = 12
  · rw [if_pos h12]
    unfold restartedV
    split
    · split
      · exact hm.setA _
      · exact hm
    · exact hm
  rw [if_neg h12]
  by_cases h13 : e.kd = 13
  · rw [if_pos h13]
    unfold stoppingV
    split
    · split
      · exact hm.setA _
      · exact hm
    · exact hm
  rw [if_neg h13]
  by_cases h14 : e.kd = 14
  · rw [if_pos h14]
    unfold endedV
    split
    · split
      · exact hm.setA _
      · exact hm
    · exact hm
  rw [if_neg h14]
  exact tickV_inv h
end
end Go.Proofs.Ytkjjhndccelbcaa
