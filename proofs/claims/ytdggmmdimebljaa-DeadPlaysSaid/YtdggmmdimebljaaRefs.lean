/- The letters as lists; the reference's functions by contracts. -/
import Derived.Test.YtdggmmdimebljaaChecked
import Derived.Test.YtdggmmdimebljaaMem
import Derived.RegionTactic
import Derived.ChangeAlike
namespace Go.Proofs.Ytdggmmdimebljaa
open Go.RowKit Go.Maps Go.Troupe

/-- A letter. -/
structure Let where
  id : Int
  to_ : Int
  why : Int
def lv (x : Let) : List Value := [.int .u64 x.id, .int .i64 x.to_, .int .i64 x.why]
def flat (l : List Let) : List Value := l.flatMap lv
theorem flat_length (l : List Let) : (flat l).length = 3 * l.length := by
  induction l with
  | nil => rfl
  | cons x l ih => simp only [flat, List.flatMap_cons, List.length_append, lv, List.length_cons, List.length_nil] at ih ⊢; omega
theorem flat_at (l : List Let) (i : Nat) (x : Let) (h : l[i]? = some x) :
    (flat l)[i * 3]? = some (.int .u64 x.id) ∧ (flat l)[i * 3 + 1]? = some (.int .i64 x.to_) ∧ (flat l)[i * 3 + 2]? = some (.int .i64 x.why) := by
  induction l generalizing i with
  | nil => simp at h
  | cons y l ih =>
    cases i with
    | zero => simp at h; subst h; simp [flat, lv]
    | succ i =>
      have := ih i (by simpa using h)
      have e1 : (i + 1) * 3 = i * 3 + 1 + 1 + 1 := by omega
      have e2 : (i + 1) * 3 + 1 = i * 3 + 1 + 1 + 1 + 1 := by omega
      have e3 : (i + 1) * 3 + 2 = i * 3 + 2 + 1 + 1 + 1 := by omega
      have e : flat (y :: l) = .int .u64 y.id :: .int .i64 y.to_ :: .int .i64 y.why :: flat l := rfl
      rw [e3, e2, e1, e]
      simp only [List.getElem?_cons_succ]
      exact this

def rightB (k : Int) : Bool := decide (1 ≤ k) && decide (k ≤ 5)
theorem right_any (k : Int) (w : World) : Calls Try.prog 10 #[.int .i64 k] w fun e w' => e = .returned (.bool (rightB k)) ∧ w = w' := by
  by_cases h1 : 1 ≤ k
  · by_cases h2 : k ≤ 5
    · have e : rightB k = true := by simp [rightB, h1, h2]
      rw [e]
      go_enter Try.func10, Try.ntmps10
      go_wp2
      go_ret
      exact ⟨rfl, rfl⟩
    · have e : rightB k = false := by simp [rightB, h2]
      rw [e]
      go_enter Try.func10, Try.ntmps10
      go_wp2
      go_ret
      exact ⟨rfl, rfl⟩
  · have e : rightB k = false := by simp [rightB, h1]
    rw [e]
    go_enter Try.func10, Try.ntmps10
    go_wp2
    go_ret
    exact ⟨rfl, rfl⟩

def keptN (k : Int) : Nat := if k < 0 then 0 else if 64 < k then 64 else k.toNat
theorem kept_any (k : Int) (w : World) : Calls Try.prog 17 #[.int .i64 k] w fun e w' => e = .returned (.int .i64 (keptN k)) ∧ w = w' := by
  by_cases h1 : k < 0
  · have e : keptN k = 0 := by simp [keptN, h1]
    rw [e]
    go_enter Try.func17, Try.ntmps17
    go_wp2
    go_ret
    exact ⟨rfl, rfl⟩
  · by_cases h2 : 64 < k
    · have e : keptN k = 64 := by simp [keptN, h1, h2]
      rw [e]
      go_enter Try.func17, Try.ntmps17
      go_wp2
      go_ret
      exact ⟨rfl, rfl⟩
    · obtain ⟨n, rfl⟩ := Int.eq_ofNat_of_zero_le (show 0 ≤ k by omega)
      have e : keptN n = n := by simp only [keptN, h1, h2, if_false]; omega
      rw [e]
      go_enter Try.func17, Try.ntmps17
      go_wp2
      go_ret
      exact ⟨rfl, rfl⟩

def cntL (l : List Let) (k : Int) : Nat := (l.filter fun x => decide (x.why = k)).length
theorem cntL_le (l : List Let) (k : Int) : cntL l k ≤ l.length := List.length_filter_le _ _
theorem cntL_take (l : List Let) (k : Int) (i : Nat) (x : Let) (h : l[i]? = some x) : cntL (l.take (i + 1)) k = cntL (l.take i) k + if x.why = k then 1 else 0 := by
  rw [List.take_add_one, h]
  unfold cntL
  rw [List.filter_append, List.length_append]
  by_cases hx : x.why = k <;> simp [hx]

theorem ret_int {k : IntKind} {a b : Int} (h : a = b) : Ending.returned (.int k a) = .returned (.int k b) := by rw [h]

set_option maxHeartbeats 400000 in
theorem refCount_any (A : Option Addr) (n cap B : Nat) (l : List Let) (k : Int) (w : World) (hl : l.length = n) (hn : n ≤ 1000000) (hc : Cells w B A (flat l)) :
    Calls Try.prog 12 #[.slice A n cap, .int .i64 k] w fun e w' => e = .returned (.int .i64 (cntL l k)) ∧ w = w' := by
  go_enter Try.func12, Try.ntmps12
  go_wp2
  go_loop [5, 6] (fun c i => ∃ j : Nat, j ≤ n ∧ i = .int .i64 j ∧ c = .int .i64 (cntL (l.take j) k)) (fun _ i => n - (intOf i).toNat)
  case atStart => exact ⟨0, Nat.zero_le _, rfl, rfl⟩
  case round =>
    obtain ⟨j, hj, rfl, rfl⟩ := hrel
    have hle := cntL_le (l.take j) k
    have hle' : (l.take j).length ≤ j := List.length_take_le _ _
    by_cases hlt : j < n
    · obtain ⟨x, hx⟩ : ∃ x, l[j]? = some x := ⟨_, List.getElem?_eq_getElem (by omega)⟩
      obtain ⟨b, off, rfl, hb, hcell⟩ := hc.at_ (by intro e; have := flat_length l; rw [e] at this; simp at this; omega)
      have c2 : w.cell? ⟨b, off + j * 3 + 2, none⟩ = some (.int .i64 x.why) := by rw [Nat.add_assoc]; exact hcell _ _ (flat_at l j x hx).2.2
      have HS := Troupe.hid (cntL_take l k j x hx)
      clear hcell hx
      by_cases hw : x.why = k
      · have hwb : (x.why == k) = true := by simpa using hw
        go_wp2
        go_round
        case rel => exact ⟨j + 1, by omega, by go_num, by rw [HS.out, if_pos hw]; go_num⟩
        case measure => simp [intOf]; omega
      · have hwb : (x.why == k) = false := by simpa using hw
        go_wp2
        go_round
        case rel => exact ⟨j + 1, by omega, by go_num, by rw [HS.out, if_neg hw, Nat.add_zero]⟩
        case measure => simp [intOf]; omega
    · go_wp2
      go_ret
      exact ⟨ret_int (by rw [List.take_of_length_le (by omega)]), rfl⟩

theorem flat_drop (l : List Let) (k : Nat) : flat (l.drop k) = (flat l).drop (k * 3) := by
  induction k generalizing l with
  | zero => simp
  | succ k ih =>
    cases l with
    | nil => simp [flat]
    | cons x l =>
      have e : flat (x :: l) = .int .u64 x.id :: .int .i64 x.to_ :: .int .i64 x.why :: flat l := rfl
      rw [List.drop_succ_cons, ih, e, show (k + 1) * 3 = k * 3 + 1 + 1 + 1 by omega]
      simp only [List.drop_succ_cons]
theorem flat_take (l : List Let) (k : Nat) : flat (l.take k) = (flat l).take (k * 3) := by
  induction k generalizing l with
  | zero => simp [flat]
  | succ k ih =>
    cases l with
    | nil => simp [flat]
    | cons x l =>
      have e : ∀ l, flat (x :: l) = .int .u64 x.id :: .int .i64 x.to_ :: .int .i64 x.why :: flat l := fun _ => rfl
      rw [List.take_succ_cons, e, e, ih, show (k + 1) * 3 = k * 3 + 1 + 1 + 1 by omega]
      simp only [List.take_succ_cons]
theorem flat_append (l l' : List Let) : flat (l ++ l') = flat l ++ flat l' := by simp [flat]
theorem flat_ne {l : List Let} {j : Nat} {x : Let} (h : l[j]? = some x) : flat l ≠ [] := by
  intro e
  have h1 := flat_length l
  have h2 := (List.getElem?_eq_some_iff.1 h).1
  rw [e] at h1
  simp at h1
  omega
theorem let_at {w : World} {b off j : Nat} {l : List Let} {x : Let} (hcell : ∀ j u, (flat l)[j]? = some u → w.cell? ⟨b, off + j, none⟩ = some u) (hx : l[j]? = some x) :
    w.cell? ⟨b, off + j * 3, none⟩ = some (.int .u64 x.id) ∧ w.cell? ⟨b, off + j * 3 + 1, none⟩ = some (.int .i64 x.to_) ∧ w.cell? ⟨b, off + j * 3 + 2, none⟩ = some (.int .i64 x.why) := by
  obtain ⟨q0, q1, q2⟩ := flat_at l j x hx
  exact ⟨hcell _ _ q0, by rw [Nat.add_assoc]; exact hcell _ _ q1, by rw [Nat.add_assoc]; exact hcell _ _ q2⟩

set_option maxHeartbeats 400000 in
/-- Two slices that hold the same letters are told the same. -/
theorem refSame_any (A A' : Option Addr) (n cap cap' B : Nat) (l : List Let) (w : World) (hl : l.length = n) (hn : n ≤ 1000000) (hc : Cells w B A (flat l)) (hc' : Cells w B A' (flat l)) :
    Calls Try.prog 13 #[.slice A n cap, .slice A' n cap'] w fun e w' => e = .returned (.bool true) ∧ Frm (fun _ => False) w w' ∧ w'.heap = w.heap := by
  go_enter Try.func13, Try.ntmps13
  go_wp2
  go_loopw [5] (fun i wr => ∃ j : Nat, j ≤ n ∧ i = .int .i64 j ∧ Frm (fun _ => False) w wr ∧ wr.heap = w.heap) (fun i _ => n - (intOf i).toNat)
  case atStart => exact ⟨0, Nat.zero_le _, rfl, Frm.refl _ _, rfl⟩
  case round =>
    obtain ⟨j, hj, rfl, hf, hh⟩ := hrel
    by_cases hlt : j < n
    · obtain ⟨x, hx⟩ : ∃ x, l[j]? = some x := ⟨_, List.getElem?_eq_getElem (by omega)⟩
      obtain ⟨b, off, rfl, _, _⟩ := hc.at_ (flat_ne hx)
      obtain ⟨b', off', rfl, _, _⟩ := hc'.at_ (flat_ne hx)
      go_wp2
      refine region_still (by kernel_rfl) (by kernel_rfl) ?_
      intro w2 hh2 hf2
      have K2 := hh2.trans hh
      obtain ⟨b1, off1, e1, _, h1⟩ := (hc.heap K2).at_ (flat_ne hx)
      obtain ⟨b2, off2, e2, _, h2⟩ := (hc'.heap K2).at_ (flat_ne hx)
      cases e1; cases e2
      obtain ⟨c0, c1, c2⟩ := let_at h1 hx
      obtain ⟨d0, d1, d2⟩ := let_at h2 hx
      have F2 := Troupe.hid (hf.trans (S := fun _ => False) hf2 (fun _ _ h => h))
      have K2 := Troupe.hid K2
      clear h1 h2 hx hh2 hf2 hf hh
      repeat still_step
      refine wpStill_nil ?_
      go_wp2
      go_roundw
      case rel => exact ⟨j + 1, by omega, by go_num, F2.out, K2.out⟩
      case measure => simp [intOf]; omega
    · go_wp2
      go_ret
      exact ⟨rfl, hf, hh⟩

/-- The last ones of a list, as many as are kept: a cut of the same row. -/
theorem refRecent_any (A : Option Addr) (n cap B : Nat) (l : List Let) (k : Int) (w : World) (hl : l.length = n) (hn : n ≤ 1000000) (hcap : n ≤ cap) (hc : Cells w B A (flat l)) :
    Calls Try.prog 15 #[.slice A n cap, .int .i64 k] w fun e w' => w = w' ∧ ∃ A' cap', e = .returned (.slice A' (min n (keptN k)) cap') ∧ min n (keptN k) ≤ cap' ∧ Cells w B A' (flat (l.drop (n - keptN k))) := by
  by_cases hk : n ≤ keptN k
  · have hk' : n - keptN k = 0 := by omega
    have hmin : min n (keptN k) = n := Nat.min_eq_left hk
    rw [hk', hmin]
    go_enter Try.func15, Try.ntmps15
    go_wp2_with (go_at_call 17; refine (kept_any _ _).mono ?_; rintro e w' ⟨rfl, rfl⟩)
    go_ret
    exact ⟨rfl, A, cap, rfl, hcap, hc⟩
  · have hmin : min n (keptN k) = keptN k := Nat.min_eq_right (by omega)
    rw [hmin]
    have hsub : ((n : Int) - (keptN k : Int)) = ((n - keptN k : Nat) : Int) := by omega
    have hs3 : n - (n - keptN k) = keptN k := by omega
    go_enter Try.func15, Try.ntmps15
    go_wp2_with (go_at_call 17; refine (kept_any _ _).mono ?_; rintro e w' ⟨rfl, rfl⟩)
    all_goals go_ret
    · refine ⟨rfl, A, 0, rfl, by omega, ?_⟩
      rw [List.drop_eq_nil_of_le (by omega)]
      exact .inl rfl
    · refine ⟨rfl, _, cap - (n - keptN k), rfl, by omega, ?_⟩
      rw [flat_drop]
      exact hc.cut _
end Go.Proofs.Ytdggmmdimebljaa
