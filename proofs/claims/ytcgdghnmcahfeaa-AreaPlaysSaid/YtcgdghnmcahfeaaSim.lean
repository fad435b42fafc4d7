/- AreaPlays, the plain law: the regions and the document's row of cells. -/
import Derived.Test.YtcgdghnmcahfeaaBack
import Derived.Test.YtcgdghnmcahfeaaFirst
namespace Go.Proofs.Ytcgdghnmcahfeaa
open Go.RowKit Go.Maps Go.Troupe

def Cov (r : Rg) (i : Nat) : Prop := r.1 ≤ i ∧ i < r.1 + r.2
/-- Each cell holds where its region begins, -1 where it is free. -/
structure Sim (N : Nat) (L : List Rg) (O : List Int) : Prop where
  len : O.length = N
  at_ : ∀ i x, O[i]? = some x → (x = -1 ∧ ∀ r ∈ L, ¬ Cov r i) ∨ ∃ r ∈ L, x = (r.1 : Int) ∧ Cov r i
theorem Ok.cover {l : List Rg} {e n : Nat} (h : Ok e n l) {r s : Rg} (hr : r ∈ l) (hs : s ∈ l) {i : Nat} (h1 : Cov r i) (h2 : Cov s i) : r = s := by
  obtain ⟨a, ha⟩ := List.mem_iff_getElem?.1 hr
  obtain ⟨b, hb⟩ := List.mem_iff_getElem?.1 hs
  unfold Cov at h1 h2
  rcases Nat.lt_trichotomy a b with h' | h' | h'
  · have := h.lt h' ha hb; omega
  · subst h'; rw [ha] at hb; cases hb; rfl
  · have := h.lt h' hb ha; omega
theorem Ok.base {l : List Rg} {e n : Nat} (h : Ok e n l) {r s : Rg} (hr : r ∈ l) (hs : s ∈ l) (he : r.1 = s.1) : r = s := by
  have h1 := (h.mem r hr).2.1
  have h2 := (h.mem s hs).2.1
  exact h.cover hr hs (i := r.1) ⟨Nat.le_refl _, by omega⟩ ⟨by omega, by omega⟩
section
variable {N : Nat} {L : List Rg} {O : List Int}
theorem Sim.start (N : Nat) : Sim N [] (List.replicate N (-1)) := ⟨by simp, fun i x h => .inl ⟨(by
    rw [List.getElem?_replicate] at h
    split at h
    · cases h; rfl
    · cases h), fun r hr => by simp at hr⟩⟩
/-- A region's cells tell its beginning. -/
theorem Sim.cell (h : Sim N L O) (hok : Ok 0 N L) {r : Rg} (hr : r ∈ L) {i : Nat} (hc : Cov r i) : O[i]? = some (r.1 : Int) := by
  have hi : i < N := by have := (hok.mem r hr).2.2; unfold Cov at hc; omega
  obtain ⟨x, hx⟩ : ∃ x, O[i]? = some x := ⟨_, List.getElem?_eq_getElem (by rw [h.len]; exact hi)⟩
  rw [hx]
  rcases h.at_ i x hx with ⟨_, h2⟩ | ⟨s, hs, rfl, h2⟩
  · exact absurd hc (h2 r hr)
  · rw [hok.cover hr hs hc h2]
theorem Sim.begins (h : Sim N L O) {i : Nat} (hi : O[i]? = some (i : Int)) : ∃ r ∈ L, r.1 = i ∧ Cov r i := by
  rcases h.at_ i _ hi with ⟨h1, _⟩ | ⟨r, hr, h1, h2⟩
  · omega
  · exact ⟨r, hr, by omega, h2⟩
theorem Sim.neg (h : Sim N L O) {i : Nat} {x : Int} (hi : O[i]? = some x) : x < 0 ↔ ∀ r ∈ L, ¬ Cov r i := by
  rcases h.at_ i x hi with ⟨rfl, h2⟩ | ⟨r, hr, rfl, h2⟩
  · exact ⟨fun _ => h2, fun _ => by decide⟩
  · exact ⟨fun h => by omega, fun h => absurd h2 (h r hr)⟩
/-- Room for k from b on, in the row of cells. -/
def Room (N : Nat) (O : List Int) (b : Nat) (k : Int) : Prop := k ≤ (N : Int) - b ∧ ∀ t : Nat, (t : Int) < k → ∀ x, O[b + t]? = some x → x < 0
theorem scan_free : ∀ (l : List Rg) (k : Nat) (j e n : Nat), 1 ≤ k → Ok e n l → e ≤ (scan k j e l).2 ∧ ∀ r ∈ l, r.1 + r.2 ≤ (scan k j e l).2 ∨ (scan k j e l).2 + k ≤ r.1
  | [], k, j, e, n, _, _ => ⟨Nat.le_refl _, fun r hr => by simp at hr⟩
  | r :: l, k, j, e, n, hk, ⟨g1, g2, g3, g4⟩ => by
    unfold scan
    split
    · rename_i hc
      refine ⟨Nat.le_refl _, fun s hs => .inr ?_⟩
      show e + k ≤ s.1
      rcases List.mem_cons.1 hs with rfl | hs
      · omega
      · have := (g4.mem s hs).1; omega
    · obtain ⟨h1, h2⟩ := scan_free l k (j + 1) (r.1 + r.2) n hk g4
      refine ⟨by omega, fun s hs => ?_⟩
      rcases List.mem_cons.1 hs with rfl | hs
      · exact .inl h1
      · exact h2 s hs
/-- The row behind a Take. -/
def putO (O : List Int) (b k : Nat) (x : Int) : List Int := O.take b ++ List.replicate k x ++ O.drop (b + k)
theorem putO_len (b k : Nat) (x : Int) (h : b + k ≤ O.length) : (putO O b k x).length = O.length := by
  unfold putO; simp; omega
theorem putO_get (b k : Nat) (x : Int) (h : b + k ≤ O.length) (i : Nat) : (putO O b k x)[i]? = if b ≤ i ∧ i < b + k then some x else O[i]? := by
  unfold putO
  have h1 : (O.take b).length = b := by rw [List.length_take]; omega
  have h2 : (O.take b ++ List.replicate k x).length = b + k := by rw [List.length_append, h1, List.length_replicate]
  by_cases hb : i < b
  · rw [List.append_assoc, List.getElem?_append_left (by omega), List.getElem?_take, if_pos hb, if_neg (by omega)]
  · by_cases hk : i < b + k
    · rw [List.getElem?_append_left (by omega), List.getElem?_append_right (by omega), h1, List.getElem?_replicate, if_pos (by omega), if_pos (by omega)]
    · rw [List.getElem?_append_right (by omega), h2, List.getElem?_drop, if_neg (by omega)]
      congr 1; omega
/-- Take answers what the row of cells answers. -/
theorem Sim.take (h : Sim N L O) (hok : Ok 0 N L) (k : Nat) (hk : 1 ≤ k) :
    (∃ (L' : List Rg) (sb : Nat), takeV N L k = (L', (sb : Int), 0) ∧ sb + k ≤ N ∧ sb < N ∧ Room N O sb k ∧ (∀ b, b < sb → ¬ Room N O b k) ∧ Sim N L' (putO O sb k sb)) ∨
      (takeV N L k = (L, 0, 4) ∧ ∀ b, b < N → ¬ Room N O b k) := by
  obtain ⟨h0, hfree⟩ := scan_free L k 0 0 N hk hok
  have hfirst := scan_first L k 0 0 N hok
  have hsc := scan_ok L k 0 0 N (by omega) hok
  have hno : ∀ b, b < (scan k 0 0 L).2 → ¬ Room N O b k := by
    rintro b hb ⟨h1, h2⟩
    obtain ⟨r, hr, hh⟩ := List.any_eq_true.1 (hfirst b (Nat.zero_le _) hb)
    simp only [hitB, Bool.and_eq_true, decide_eq_true_eq] at hh
    have hm := hok.mem r hr
    have hcv : Cov r (max b r.1) := ⟨by omega, by omega⟩
    have hc := h.cell hok hr hcv
    have := h2 (max b r.1 - b) (by omega) (r.1 : Int) (by rw [show b + (max b r.1 - b) = max b r.1 by omega]; exact hc)
    omega
  have hroom : (scan k 0 0 L).2 + k ≤ N → Room N O (scan k 0 0 L).2 k := by
    intro hfit
    refine ⟨by omega, fun t ht x hx => (h.neg hx).2 fun r hr hc => ?_⟩
    unfold Cov at hc
    rcases hfree r hr with h' | h' <;> omega
  have hsim : ∀ L', (∀ x, x ∈ L' ↔ x ∈ L ∨ x = ((scan k 0 0 L).2, k)) → (scan k 0 0 L).2 + k ≤ N → Sim N L' (putO O (scan k 0 0 L).2 k (scan k 0 0 L).2) := by
    intro L' hmem hfit
    have hle : (scan k 0 0 L).2 + k ≤ O.length := by rw [h.len]; exact hfit
    refine ⟨by rw [putO_len _ _ _ hle, h.len], fun i x hx => ?_⟩
    rw [putO_get _ _ _ hle] at hx
    split at hx
    · rename_i hi
      cases hx
      exact .inr ⟨_, (hmem _).2 (.inr rfl), rfl, hi⟩
    · rename_i hi
      rcases h.at_ i x hx with ⟨h1, h2⟩ | ⟨r, hr, h1, h2⟩
      · refine .inl ⟨h1, fun r hr => ?_⟩
        rcases (hmem r).1 hr with hr | rfl
        · exact h2 r hr
        · exact hi
      · exact .inr ⟨r, (hmem r).2 (.inl hr), h1, h2⟩
  unfold takeV
  rw [if_neg (by omega)]
  rcases hsc with ⟨e1, e2, _⟩ | ⟨j, e1, hj, _, e2⟩
  · rw [if_pos (by omega)]
    by_cases hfit : (N : Int) - (scan k 0 0 L).2 < k
    · rw [if_pos hfit]
      refine .inr ⟨rfl, fun b hb => ?_⟩
      rcases Nat.lt_or_ge b (scan k 0 0 L).2 with h' | h'
      · exact hno b h'
      · rintro ⟨h1, _⟩; omega
    · rw [if_neg hfit]
      refine .inl ⟨_, _, rfl, by omega, by omega, hroom (by omega), hno, hsim _ (fun x => ?_) (by omega)⟩
      rw [Int.toNat_natCast]; simp
  · rw [if_neg (by omega)]
    refine .inl ⟨_, _, rfl, by omega, by omega, hroom (by omega), hno, hsim _ (fun x => ?_) (by omega)⟩
    rw [Int.toNat_natCast, show (scan k 0 0 L).1.toNat = j by omega, insertIdx_eq _ _ _ (by omega)]
    simp only [List.mem_append, List.mem_cons]
    have : x ∈ L ↔ x ∈ L.take j ∨ x ∈ L.drop j := by
      conv => lhs; rw [← List.take_append_drop j L]
      rw [List.mem_append]
    rw [this]
    constructor
    · rintro (h | h | h)
      · exact .inl (.inl h)
      · exact .inr h
      · exact .inl (.inr h)
    · rintro ((h | h) | h)
      · exact .inl h
      · exact .inr (.inr h)
      · exact .inr (.inl h)
/-- Give of a region that is out. -/
theorem Sim.give (h : Sim N L O) (hok : Ok 0 N L) (t : Int) :
    (∃ r, r ∈ L ∧ (r.1 : Int) = t ∧ O[r.1]? = some t ∧ r.1 + r.2 ≤ N ∧ (∀ j, r.1 ≤ j → j < r.1 + r.2 → O[j]? = some t) ∧ (O[r.1 + r.2]? ≠ some t) ∧ giveV L t = ((giveV L t).1, 0) ∧ Sim N (giveV L t).1 (putO O r.1 r.2 (-1))) ∨
      (giveV L t = (L, 2) ∧ (0 ≤ t → ∀ x, O[t.toNat]? = some x → x ≠ t)) := by
  by_cases hex : ∃ r ∈ L, (r.1 : Int) = t
  · obtain ⟨r, hr, rfl⟩ := hex
    obtain ⟨j, hj⟩ := List.mem_iff_getElem?.1 hr
    have hm := hok.mem r hr
    have hgv := giveV_hit hok hj rfl
    have hcells : ∀ j, r.1 ≤ j → j < r.1 + r.2 → O[j]? = some (r.1 : Int) := fun j h1 h2 => h.cell hok hr ⟨h1, h2⟩
    have hstop : O[r.1 + r.2]? ≠ some (r.1 : Int) := by
      intro e
      rcases h.at_ _ _ e with ⟨h1, _⟩ | ⟨s, hs, h1, h2⟩
      · omega
      · have := hok.base hr hs (by omega)
        subst this
        unfold Cov at h2; omega
    refine .inl ⟨r, hr, rfl, hcells _ (Nat.le_refl _) (by omega), hm.2.2, hcells, hstop, by rw [hgv], ?_⟩
    rw [hgv]
    have hle : r.1 + r.2 ≤ O.length := by rw [h.len]; exact hm.2.2
    refine ⟨by rw [putO_len _ _ _ hle, h.len], fun i x hx => ?_⟩
    rw [putO_get _ _ _ hle] at hx
    split at hx
    · rename_i hi
      cases hx
      refine .inl ⟨rfl, fun s hs hc => ?_⟩
      have hs' := (mem_erase hok hj s).1 hs
      exact hs'.2 (by rw [hok.cover hr hs'.1 hi hc])
    · rename_i hi
      rcases h.at_ i x hx with ⟨h1, h2⟩ | ⟨s, hs, h1, h2⟩
      · exact .inl ⟨h1, fun s hs => h2 s ((mem_erase hok hj s).1 hs).1⟩
      · refine .inr ⟨s, (mem_erase hok hj s).2 ⟨hs, fun e => ?_⟩, h1, h2⟩
        have := hok.base hs hr e
        subst this
        exact hi h2
  · have hne : ∀ r ∈ L, (r.1 : Int) ≠ t := fun r hr e => hex ⟨r, hr, e⟩
    refine .inr ⟨giveV_miss hne, fun ht x hx e => ?_⟩
    subst e
    obtain ⟨r, hr, h1, _⟩ := h.begins (i := x.toNat) (by rw [hx]; congr 1; omega)
    exact hne r hr (by omega)
/-- How many cells are free. -/
theorem Sim.free : ∀ {L : List Rg} {e : Nat}, Ok e N L → (∀ i x, e ≤ i → O[i]? = some x → (x < 0 ↔ ∀ r ∈ L, ¬ Cov r i)) → O.length = N →
    (((O.drop e).countP fun x => decide (x < 0) : Nat) : Int) = (N : Int) - e - (L.map (fun r => (r.2 : Int))).sum
  | [], e, hok, h, hl => by
    have hall : ∀ x ∈ O.drop e, decide (x < 0) = true := by
      intro x hx
      obtain ⟨i, hi⟩ := List.mem_iff_getElem?.1 hx
      rw [List.getElem?_drop] at hi
      exact decide_eq_true ((h _ x (by omega) hi).2 (fun r hr => by simp at hr))
    rw [List.countP_eq_length.2 hall, List.length_drop, hl]
    have : e ≤ N := hok
    simp; omega
  | r :: l, e, ⟨g1, g2, g3, g4⟩, h, hl => by
    have ih := Sim.free g4 (fun i x hi hx => by
      rw [h i x (by omega) hx]
      constructor
      · exact fun hh s hs => hh s (List.mem_cons_of_mem _ hs)
      · intro hh s hs
        rcases List.mem_cons.1 hs with rfl | hs
        · unfold Cov; omega
        · exact hh s hs) hl
    have e1 : O.drop e = (O.drop e).take (r.1 - e) ++ ((O.drop r.1).take r.2 ++ O.drop (r.1 + r.2)) := by
      have h1 : O.drop r.1 = (O.drop e).drop (r.1 - e) := by rw [List.drop_drop]; congr 1; omega
      have h2 : O.drop (r.1 + r.2) = (O.drop r.1).drop r.2 := by rw [List.drop_drop]
      rw [h2, List.take_append_drop, h1, List.take_append_drop]
    rw [e1, List.countP_append, List.countP_append]
    have c1 : ((O.drop e).take (r.1 - e)).countP (fun x => decide (x < 0)) = r.1 - e := by
      rw [List.countP_eq_length.2]
      · rw [List.length_take, List.length_drop, hl]; omega
      · intro x hx
        obtain ⟨i, hi⟩ := List.mem_iff_getElem?.1 hx
        rw [List.getElem?_take] at hi
        split at hi
        · rw [List.getElem?_drop] at hi
          refine decide_eq_true ((h _ x (by omega) hi).2 fun s hs => ?_)
          rcases List.mem_cons.1 hs with rfl | hs
          · unfold Cov; omega
          · have := (g4.mem s hs).1; unfold Cov; omega
        · cases hi
    have c2 : ((O.drop r.1).take r.2).countP (fun x => decide (x < 0)) = 0 := by
      rw [List.countP_eq_zero]
      intro x hx
      obtain ⟨i, hi⟩ := List.mem_iff_getElem?.1 hx
      rw [List.getElem?_take] at hi
      split at hi
      · rw [List.getElem?_drop] at hi
        intro hc
        exact (h _ x (by omega) hi).1 (of_decide_eq_true hc) r List.mem_cons_self ⟨by omega, by omega⟩
      · cases hi
    rw [c1, c2]
    simp only [List.map_cons, List.sum_cons]
    omega
theorem Sim.freeV (h : Sim N L O) (hok : Ok 0 N L) : ((O.countP fun x => decide (x < 0) : Nat) : Int) = freeV N L := by
  have := Sim.free hok (O := O) (fun i x _ hx => h.neg hx) h.len
  rw [List.drop_zero] at this
  rw [this]
  unfold Ytcgdghnmcahfeaa.freeV
  omega
end
end Go.Proofs.Ytcgdghnmcahfeaa
