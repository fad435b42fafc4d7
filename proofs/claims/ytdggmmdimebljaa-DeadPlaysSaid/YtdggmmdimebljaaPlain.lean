/- The plain law of the sink's row, and what holds of a sink behind any letters. -/
import Derived.Test.YtdggmmdimebljaaAlive
namespace Go.Proofs.Ytdggmmdimebljaa
open Go.RowKit Go.Maps Go.Troupe

theorem last_start (N : Nat) : lastL (List.replicate N zeroL) N 0 0 = [] := by
  unfold lastL
  split
  · rename_i h
    obtain rfl : N = 0 := by omega
    rfl
  · rfl
theorem last_length {R : List Let} {N a t : Nat} (hR : R.length = N) (ha : a < N ∨ a = 0) : (lastL R N a t).length = if N ≤ t then N else a := by
  unfold lastL
  split
  · rw [List.length_append, List.length_drop, List.length_take]; omega
  · rw [List.length_take]; omega
theorem last_step {R l : List Let} {N a : Nat} {x : Let} (hR : R.length = N) (ha : a < N ∨ a = 0) (h : lastL R N a l.length = l.drop (l.length - N)) :
    lastL (R.set a x) N (stepAt N a) (l.length + 1) = (l ++ [x]).drop (l.length + 1 - N) := by
  rcases Nat.eq_zero_or_pos N with rfl | hN
  · obtain rfl : R = [] := List.eq_nil_of_length_eq_zero hR
    simp [lastL]
  have ha' : a < N := by omega
  have hst : stepAt N a = (a + 1) % N := by unfold stepAt; rw [if_neg (by omega)]
  obtain ⟨A, y, D, hRe, hA⟩ : ∃ A y D, R = A ++ y :: D ∧ A.length = a := by
    refine ⟨R.take a, R[a]'(by omega), R.drop (a + 1), ?_, by rw [List.length_take]; omega⟩
    rw [← List.drop_eq_getElem_cons, List.take_append_drop]
  subst hRe
  subst hA
  have hD : D.length = N - A.length - 1 := by simp at hR; omega
  have e0 : (A ++ y :: D).set A.length x = A ++ x :: D := by simp
  have e1 : (A ++ y :: D).take A.length = A := by simp
  have e2 : (A ++ y :: D).drop A.length = y :: D := by simp
  have e3 : (A ++ x :: D).take (A.length + 1) = A ++ [x] := by rw [List.take_append]; simp [List.take_of_length_le]
  have e4 : (A ++ x :: D).drop (A.length + 1) = D := by rw [List.drop_append]; simp
  rw [hst, e0]
  unfold lastL at h ⊢
  rw [e1, e2] at h
  by_cases ht : N ≤ l.length
  · rw [if_pos ht] at h
    rw [if_pos (by omega)]
    have hr : (l ++ [x]).drop (l.length + 1 - N) = D ++ A ++ [x] := by
      rw [List.drop_append_of_le_length (by omega), show l.length + 1 - N = (l.length - N) + 1 by omega, ← List.drop_drop, ← h]
      rfl
    rw [hr]
    by_cases hl : A.length + 1 < N
    · rw [Nat.mod_eq_of_lt hl, e3, e4, List.append_assoc]
    · have hz : A.length + 1 = N := by omega
      obtain rfl : D = [] := List.eq_nil_of_length_eq_zero (by omega)
      rw [hz, Nat.mod_self]
      simp
  · rw [if_neg ht, show l.length - N = 0 by omega, List.drop_zero] at h
    subst h
    rw [show A.length + 1 - N = 0 by omega, List.drop_zero]
    by_cases hl : A.length + 1 < N
    · rw [if_neg (by omega), Nat.mod_eq_of_lt hl, e3]
    · have hz : A.length + 1 = N := by omega
      obtain rfl : D = [] := List.eq_nil_of_length_eq_zero (by omega)
      rw [if_pos (by omega), hz, Nat.mod_self]
      simp

/-- What holds of a sink into which the letters l were put. -/
def Holds (w : World) (p m r N : Nat) (l : List Let) : Prop :=
  ∃ c R a, Sink w p m r N c R a l.length ∧ (∀ k, c k = cntL l k) ∧ lastL R N a l.length = l.drop (l.length - N)
theorem Holds.frm {w w' : World} {p m r N : Nat} {l : List Let} {S : Nat → Prop} (h : Holds w p m r N l) (hf : Frm S w w') (hp : ¬ S p) (hm : ¬ S m) (hr : ¬ S r) : Holds w' p m r N l := by
  obtain ⟨c, R, a, hs, h⟩ := h
  exact ⟨c, R, a, hs.frm hf hp hm hr, h⟩
theorem Holds.lt {w : World} {p m r N : Nat} {l : List Let} (h : Holds w p m r N l) : p < w.heap.size ∧ m < w.heap.size ∧ r < w.heap.size := by
  obtain ⟨c, R, a, hs, h⟩ := h
  exact hs.lt
theorem Holds.le {w : World} {p m r N : Nat} {l : List Let} (h : Holds w p m r N l) : N ≤ 64 := by
  obtain ⟨c, R, a, hs, h⟩ := h
  exact hs.le
theorem Holds.heap {w w' : World} {p m r N : Nat} {l : List Let} (h : Holds w p m r N l) (hf : Frm (fun _ => False) w w') : Holds w' p m r N l := h.frm hf (by simp) (by simp) (by simp)

def Made (k : Int) (w : World) (e : Ending) (w' : World) : Prop :=
  ∃ p m r, e = .returned (.pointer (some ⟨p, 0, none⟩)) ∧ w.heap.size ≤ p ∧ w.heap.size ≤ m ∧ w.heap.size ≤ r ∧ Holds w' p m r (keptN k) [] ∧ Below w.heap.size w w'
theorem new_holds (k : Int) (w : World) : Calls Try.prog 8 #[.int .i64 k] w (Made k w) := by
  refine (new_any k w).mono ?_
  rintro e w' ⟨p, m, r, he, hp, hm, hr, hs, hb⟩
  exact ⟨p, m, r, he, hp, hm, hr, ⟨_, _, _, hs, fun _ => rfl, by simpa using last_start _⟩, hb⟩
theorem count_holds {p m r N : Nat} {l : List Let} (k : Int) (w : World) (h : Holds w p m r N l) :
    Calls Try.prog 11 #[.pointer (some ⟨p, 0, none⟩), .int .i64 k] w fun e w' => e = .returned (.int .i64 (cntL l k)) ∧ w = w' := by
  obtain ⟨c, R, a, hs, hc, _⟩ := h
  rw [← hc]
  exact count_any k w hs
theorem total_holds {p m r N : Nat} {l : List Let} (w : World) (h : Holds w p m r N l) :
    Calls Try.prog 16 #[.pointer (some ⟨p, 0, none⟩)] w fun e w' => e = .returned (.int .i64 l.length) ∧ w = w' := by
  obtain ⟨c, R, a, hs, hc, _⟩ := h
  exact total_any w hs
def Recents (l : List Let) (N : Nat) (w : World) (e : Ending) (w' : World) : Prop :=
  ∃ v, e = .returned v ∧ w'.ownsRow w.heap.size 29 3 v (min l.length N) (flat (l.drop (l.length - N))) ∧ Below w.heap.size w w'
theorem recent_holds {p m r N : Nat} {l : List Let} (w : World) (h : Holds w p m r N l) : Calls Try.prog 14 #[.pointer (some ⟨p, 0, none⟩)] w (Recents l N w) := by
  obtain ⟨c, R, a, hs, _, hl⟩ := h
  refine (recent_any w hs).mono ?_
  rintro e w' ⟨v, he, ho, hb⟩
  rw [hl, List.length_drop, show l.length - (l.length - N) = min l.length N by omega] at ho
  exact ⟨v, he, ho, hb⟩
theorem put_holds {p m r N : Nat} {l : List Let} (x : Let) (w : World) (h : Holds w p m r N l) (hx : rightB x.why = true) (hl : l.length < 1000000) :
    Calls Try.prog 9 #[.pointer (some ⟨p, 0, none⟩), .int .u64 x.id, .int .i64 x.to_, .int .i64 x.why] w fun e w' => e = .returned (.int .i64 0) ∧ Holds w' p m r N (l ++ [x]) ∧ Frm (fun k => k = p ∨ k = m ∨ k = r) w w' := by
  obtain ⟨c, R, a, hs, hc, hla⟩ := h
  have hx' : 1 ≤ x.why ∧ x.why ≤ 5 := by simpa [rightB] using hx
  have hle := cntL_le l x.why
  refine (put_ok x.id x.to_ x.why w hs hx'.1 hx'.2 (by rw [hc]; omega) hl).mono ?_
  rintro e w' ⟨he, hs', hf⟩
  refine ⟨he, ⟨bump c x.why, R.set a x, stepAt N a, ?_, ?_, ?_⟩, hf⟩
  · rw [List.length_append]; exact hs'
  · intro k
    unfold bump cntL
    rw [List.filter_append, List.length_append]
    by_cases hk : k = x.why
    · subst hk; simp [hc, cntL]
    · have : ¬ x.why = k := fun e => hk e.symm
      simp [hc, cntL, hk, this]
  · rw [List.length_append]
    exact last_step hs.len hs.at_ hla
theorem put_wrong {p : Nat} (x : Let) (w : World) (hx : rightB x.why = false) :
    Calls Try.prog 9 #[.pointer (some ⟨p, 0, none⟩), .int .u64 x.id, .int .i64 x.to_, .int .i64 x.why] w fun e w' => e = .returned (.int .i64 1) ∧ w = w' :=
  put_bad x.id x.to_ x.why w (by simpa [rightB] using hx)

/-- The letters that are put, of the first j. -/
def puts (L : List Let) (j : Nat) : List Let := (L.take j).filter fun x => rightB x.why
theorem puts_le (L : List Let) (j : Nat) : (puts L j).length ≤ j := by
  have h1 := List.length_filter_le (fun x : Let => rightB x.why) (L.take j)
  have h2 : (L.take j).length ≤ j := List.length_take_le _ _
  unfold puts; omega
theorem puts_yes {L : List Let} {j : Nat} {x : Let} (hx : L[j]? = some x) (h : rightB x.why = true) : puts L (j + 1) = puts L j ++ [x] := by
  unfold puts
  rw [List.take_add_one, hx, List.filter_append]
  simp [h]
theorem puts_no {L : List Let} {j : Nat} {x : Let} (hx : L[j]? = some x) (h : rightB x.why = false) : puts L (j + 1) = puts L j := by
  unfold puts
  rw [List.take_add_one, hx, List.filter_append]
  simp [h]
theorem puts_right {L : List Let} {j : Nat} : ∀ x ∈ puts L j, rightB x.why = true := fun _ hx => (List.mem_filter.1 hx).2
theorem cnt_wrong {L : List Let} {j : Nat} {k : Int} (h : rightB k = false) : cntL (puts L j) k = 0 := by
  unfold cntL
  rw [List.length_eq_zero_iff, List.filter_eq_nil_iff]
  intro x hx hk
  have h1 := puts_right x hx
  have h2 : x.why = k := by simpa using hk
  rw [h2, h] at h1
  cases h1
end Go.Proofs.Ytdggmmdimebljaa
