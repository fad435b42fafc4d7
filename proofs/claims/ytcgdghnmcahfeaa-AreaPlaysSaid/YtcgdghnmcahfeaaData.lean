/- Regions as cells, and what the area's functions compute, in plain Lean. -/
import Derived.Test.YtcgdghnmcahfeaaChecked
import Derived.Test.YtcgdghnmcahfeaaMem
import Derived.Lib.SliceRun
import Derived.Deep.CutRange
import Derived.Deep.CutBlock
namespace Go.Proofs.Ytcgdghnmcahfeaa
open Go.RowKit Go.Maps Go.Troupe

abbrev Rg := Nat × Nat
def cellG (r : Rg) : List Value := [.int .i64 r.1, .int .i64 r.2]
def flatG (l : List Rg) : List Value := l.flatMap cellG
theorem flatG_len (l : List Rg) : (flatG l).length = l.length * 2 := by
  unfold flatG
  induction l with
  | nil => rfl
  | cons x l ih => rw [List.flatMap_cons, List.length_append, ih, List.length_cons]; simp [cellG]; omega
theorem flatG_append (l l' : List Rg) : flatG (l ++ l') = flatG l ++ flatG l' := by simp [flatG]
theorem flatG_cons (r : Rg) (l : List Rg) : flatG (r :: l) = cellG r ++ flatG l := by simp [flatG]
theorem flatG_at : ∀ (l : List Rg) (i : Nat) (r : Rg), l[i]? = some r → (flatG l)[i * 2]? = some (.int .i64 r.1) ∧ (flatG l)[i * 2 + 1]? = some (.int .i64 r.2)
  | [], i, r, h => by simp at h
  | x :: l, 0, r, h => by
    simp at h; subst h
    simp [flatG, cellG]
  | x :: l, i + 1, r, h => by
    have := flatG_at l i r (by simpa using h)
    rw [flatG_cons, show (i + 1) * 2 = i * 2 + 1 + 1 by omega]
    simpa [cellG] using this
theorem flatG_take (l : List Rg) (i : Nat) : (flatG l).take (i * 2) = flatG (l.take i) := by
  induction l generalizing i with
  | nil => simp [flatG]
  | cons x l ih =>
    cases i with
    | zero => simp [flatG]
    | succ i => rw [flatG_cons, List.take_succ_cons, flatG_cons, ← ih, show (i + 1) * 2 = i * 2 + 1 + 1 by omega]; simp [cellG]
theorem flatG_drop (l : List Rg) (i : Nat) : (flatG l).drop (i * 2) = flatG (l.drop i) := by
  induction l generalizing i with
  | nil => simp [flatG]
  | cons x l ih =>
    cases i with
    | zero => simp [flatG]
    | succ i => rw [flatG_cons, List.drop_succ_cons, ← ih, show (i + 1) * 2 = i * 2 + 1 + 1 by omega]; simp [cellG]
theorem flatG_one (l : List Rg) : ∀ u ∈ flatG l, u.oneCell' = true := by
  intro u hu
  unfold flatG at hu
  obtain ⟨x, _, hx⟩ := List.mem_flatMap.1 hu
  simp [cellG] at hx
  rcases hx with rfl | rfl <;> rfl
/-- The cells of one region. -/
theorem _root_.Go.Troupe.Cells.rg {w : World} {B : Nat} {A : Option Addr} {l : List Rg} (h : Cells w B A (flatG l)) {i : Nat} {r : Rg} (hi : l[i]? = some r) :
    ∃ b off, A = some ⟨b, off, none⟩ ∧ b < B ∧ w.cell? ⟨b, off + i * 2, none⟩ = some (.int .i64 r.1) ∧ w.cell? ⟨b, off + i * 2 + 1, none⟩ = some (.int .i64 r.2) := by
  obtain ⟨h0, h1⟩ := flatG_at l i r hi
  obtain ⟨b, off, hA, hb, hc⟩ := h.at_ (by intro e; rw [e] at h0; simp at h0)
  exact ⟨b, off, hA, hb, hc _ _ h0, by rw [Nat.add_assoc]; exact hc _ _ h1⟩

/-- Regions in order, from e on, none sharing a cell, all ahead of n. -/
def Ok : Nat → Nat → List Rg → Prop
  | e, n, [] => e ≤ n
  | e, n, r :: l => e ≤ r.1 ∧ 1 ≤ r.2 ∧ r.1 + r.2 ≤ n ∧ Ok (r.1 + r.2) n l
/-- Where room for k is first: the place among the regions (-1: behind them all) and the cell. -/
def scan (k : Int) : Nat → Nat → List Rg → Int × Nat
  | _, e, [] => (-1, e)
  | i, e, r :: l => if k ≤ (r.1 : Int) - e then (i, e) else scan k (i + 1) (r.1 + r.2) l
/-- Take: the regions behind it, what is answered, the error. -/
def takeV (N : Nat) (l : List Rg) (k : Int) : List Rg × Int × Int :=
  if k < 1 then (l, 0, 1)
  else if (scan k 0 0 l).1 < 0 then
    if (N : Int) - (scan k 0 0 l).2 < k then (l, 0, 4) else (l ++ [((scan k 0 0 l).2, k.toNat)], (scan k 0 0 l).2, 0)
  else (l.insertIdx (scan k 0 0 l).1.toNat ((scan k 0 0 l).2, k.toNat), (scan k 0 0 l).2, 0)
/-- Give: the regions behind it, the error. -/
def giveV (l : List Rg) (t : Int) : List Rg × Int :=
  match l.findIdx? (fun r => (r.1 : Int) == t) with
  | some i => (l.eraseIdx i, 0)
  | none => (l, 2)
def freeV (N : Nat) (l : List Rg) : Int := N - (l.map (fun r => (r.2 : Int))).sum

theorem Ok.le : ∀ {l : List Rg} {e n : Nat}, Ok e n l → e ≤ n
  | [], _, _, h => h
  | r :: l, e, n, ⟨h1, h2, h3, h4⟩ => by omega
theorem Ok.mem : ∀ {l : List Rg} {e n : Nat}, Ok e n l → ∀ r ∈ l, e ≤ r.1 ∧ 1 ≤ r.2 ∧ r.1 + r.2 ≤ n
  | [], _, _, _, r, hr => by simp at hr
  | x :: l, e, n, ⟨h1, h2, h3, h4⟩, r, hr => by
    rcases List.mem_cons.1 hr with rfl | hr
    · exact ⟨h1, h2, h3⟩
    · have := h4.mem r hr; omega
theorem Ok.length : ∀ {l : List Rg} {e n : Nat}, Ok e n l → l.length + e ≤ n
  | [], _, _, h => by have : _ ≤ _ := h; simpa using this
  | x :: l, e, n, ⟨h1, h2, h3, h4⟩ => by have := h4.length; rw [List.length_cons]; omega
theorem Ok.weak : ∀ {l : List Rg} {e e' n : Nat}, Ok e n l → e' ≤ e → Ok e' n l
  | [], e, e', n, h, he => by have : e ≤ n := h; show e' ≤ n; omega
  | x :: l, e, e', n, ⟨h1, h2, h3, h4⟩, he => ⟨by omega, h2, h3, h4⟩
theorem Ok.drop : ∀ {l : List Rg} {e n : Nat} (_ : Ok e n l) (i : Nat), ∃ e', Ok e' n (l.drop i)
  | l, e, n, h, 0 => ⟨e, h⟩
  | [], e, n, h, i + 1 => ⟨e, h⟩
  | x :: l, e, n, ⟨h1, h2, h3, h4⟩, i + 1 => h4.drop i
/-- The bases grow. -/
theorem Ok.lt : ∀ {l : List Rg} {e n : Nat}, Ok e n l → ∀ {i j : Nat} {r s : Rg}, i < j → l[i]? = some r → l[j]? = some s → r.1 + r.2 ≤ s.1
  | [], _, _, _, i, j, r, s, _, h, _ => by simp at h
  | x :: l, e, n, ⟨h1, h2, h3, h4⟩, 0, j + 1, r, s, _, hr, hs => by
    simp at hr hs; subst hr
    exact (h4.mem s (List.mem_of_getElem? hs)).1
  | x :: l, e, n, ⟨h1, h2, h3, h4⟩, i + 1, j + 1, r, s, hij, hr, hs => h4.lt (i := i) (j := j) (by omega) (by simpa using hr) (by simpa using hs)
  | x :: l, e, n, ⟨h1, h2, h3, h4⟩, _, 0, r, s, hij, _, _ => by omega

theorem scan_ge : ∀ (l : List Rg) (k : Int) (i e : Nat), (scan k i e l).1 = -1 ∨ ((i : Int) ≤ (scan k i e l).1 ∧ (scan k i e l).1 < i + l.length)
  | [], k, i, e => .inl rfl
  | r :: l, k, i, e => by
    unfold scan
    split
    · exact .inr ⟨Int.le_refl _, by simp; omega⟩
    · rcases scan_ge l k (i + 1) (r.1 + r.2) with h | ⟨h, h'⟩
      · exact .inl h
      · exact .inr ⟨by omega, by simp; omega⟩
/-- What is found has room, and the regions with it are in order again. -/
theorem scan_ok : ∀ (l : List Rg) (k : Int) (i e n : Nat), 1 ≤ k → Ok e n l →
    ((scan k i e l).1 = -1 ∧ (scan k i e l).2 ≤ n ∧ (∀ k' : Nat, k = k' → (scan k i e l).2 + k' ≤ n → Ok e n (l ++ [((scan k i e l).2, k')]))) ∨
    ∃ j : Nat, (scan k i e l).1 = i + j ∧ j < l.length ∧ (∀ k' : Nat, k = k' → Ok e n (l.insertIdx j ((scan k i e l).2, k'))) ∧ (scan k i e l).2 + k ≤ n
  | [], k, i, e, n, hk, h => .inl ⟨rfl, h, fun k' hk' hn => ⟨Nat.le_refl _, by omega, hn, hn⟩⟩
  | r :: l, k, i, e, n, hk, ⟨h1, h2, h3, h4⟩ => by
    unfold scan
    split
    · rename_i hc
      exact .inr ⟨0, by simp, by simp, fun k' hk' => ⟨Nat.le_refl _, by omega, by simp only; omega, by simp only; omega, h2, h3, h4⟩, by simp only; omega⟩
    · rcases scan_ok l k (i + 1) (r.1 + r.2) n hk h4 with ⟨g1, g2, g3⟩ | ⟨j, g1, g2, g3, g4⟩
      · exact .inl ⟨g1, g2, fun k' hk' hn => ⟨h1, h2, h3, g3 k' hk' hn⟩⟩
      · refine .inr ⟨j + 1, by omega, by simp; omega, fun k' hk' => ?_, g4⟩
        rw [List.insertIdx_succ_cons]
        exact ⟨h1, h2, h3, g3 k' hk'⟩
theorem takeV_ok (N : Nat) (l : List Rg) (k : Int) (h : Ok 0 N l) : Ok 0 N (takeV N l k).1 := by
  unfold takeV
  split
  · exact h
  · rename_i hk
    rcases scan_ok l k 0 0 N (by omega) h with ⟨g1, g2, g3⟩ | ⟨j, g1, g2, g3, g4⟩
    · rw [if_pos (by omega)]
      split
      · exact h
      · exact g3 k.toNat (by omega) (by omega)
    · rw [if_neg (by omega)]
      have e : (scan k 0 0 l).1.toNat = j := by omega
      simp only [e]
      exact g3 k.toNat (by omega)
theorem Ok.erase : ∀ {l : List Rg} {e n : Nat} (_ : Ok e n l) (i : Nat), Ok e n (l.eraseIdx i)
  | [], e, n, h, i => h
  | x :: l, e, n, ⟨h1, h2, h3, h4⟩, 0 => h4.weak (by omega)
  | x :: l, e, n, ⟨h1, h2, h3, h4⟩, i + 1 => ⟨h1, h2, h3, h4.erase i⟩
theorem giveV_ok (N : Nat) (l : List Rg) (t : Int) (h : Ok 0 N l) : Ok 0 N (giveV l t).1 := by
  unfold giveV
  split
  · exact h.erase _
  · exact h
theorem giveV_hit {l : List Rg} {n e : Nat} {t : Int} {i : Nat} {r : Rg} (h : Ok e n l) (hi : l[i]? = some r) (hr : (r.1 : Int) = t) : giveV l t = (l.eraseIdx i, 0) := by
  unfold giveV
  have : l.findIdx? (fun r => (r.1 : Int) == t) = some i := by
    rw [List.findIdx?_eq_some_iff_getElem]
    have hil := (List.getElem?_eq_some_iff.1 hi).1
    refine ⟨hil, by rw [(List.getElem?_eq_some_iff.1 hi).2]; simp [hr], fun j hj => ?_⟩
    have h1 := h.lt hj (List.getElem?_eq_getElem (by omega)) hi
    have h2 := h.mem _ (List.getElem_mem (show j < l.length by omega))
    simp
    omega
  rw [this]
theorem giveV_miss {l : List Rg} {t : Int} (h : ∀ r ∈ l, (r.1 : Int) ≠ t) : giveV l t = (l, 2) := by
  unfold giveV
  have : l.findIdx? (fun r => (r.1 : Int) == t) = none := List.findIdx?_eq_none_iff.2 (fun r hr => by simp [h r hr])
  rw [this]
end Go.Proofs.Ytcgdghnmcahfeaa
