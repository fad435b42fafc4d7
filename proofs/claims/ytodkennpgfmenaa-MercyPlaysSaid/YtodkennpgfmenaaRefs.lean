/- The reference's Clamp, Left, Forget by contracts. -/
import Derived.Test.YtodkennpgfmenaaWindow
import Derived.Deep.QuietTactic
import Derived.Deep.RegionWith
namespace Go.Proofs.Ytodkennpgfmenaa
open Go.RowKit Go.Maps Go.Troupe

theorem clamp_any (n lo hi : Int) (w : World) : Calls Try.prog 17 #[.int .i64 n, .int .i64 lo, .int .i64 hi] w fun e w' => e = .returned (.int .i64 (clamp n lo hi)) ∧ w = w' := by
  by_cases h1 : n < lo
  · have e : clamp n lo hi = lo := by unfold clamp; rw [if_pos h1]
    rw [e]
    go_enter Try.func17, Try.ntmps17
    go_wp2
    go_ret
    exact ⟨rfl, rfl⟩
  · by_cases h2 : hi < n
    · have e : clamp n lo hi = hi := by unfold clamp; rw [if_neg h1, if_pos h2]
      rw [e]
      go_enter Try.func17, Try.ntmps17
      go_wp2
      go_ret
      exact ⟨rfl, rfl⟩
    · have e : clamp n lo hi = n := by unfold clamp; rw [if_neg h1, if_neg h2]
      rw [e]
      go_enter Try.func17, Try.ntmps17
      go_wp2
      go_ret
      exact ⟨rfl, rfl⟩
theorem quiet_left {P : Program} {f : FuncId} {args : Array Value} {w : World} {q : Nat} {v : Ending} (h : Calls P f args (w.drewN q) fun e w' => e = v ∧ w.drewN q = w') : Calls P f args (w.drewN q) fun e w'' => e = v ∧ ∃ m, w'' = w.drewN m :=
  h.mono fun _ _ ⟨a, b⟩ => ⟨a, q, b.symm⟩

structure Giv where
  c : Int
  at_ : Int
def gv (x : Giv) : List Value := [.int .i64 x.c, .int .i64 x.at_]
def flatG (l : List Giv) : List Value := l.flatMap gv
theorem flatG_length (l : List Giv) : (flatG l).length = 2 * l.length := by
  induction l with
  | nil => rfl
  | cons x l ih => simp only [flatG, List.flatMap_cons, List.length_append, gv, List.length_cons, List.length_nil] at ih ⊢; omega
theorem flatG_at (l : List Giv) (i : Nat) (x : Giv) (h : l[i]? = some x) :
    (flatG l)[i * 2]? = some (.int .i64 x.c) ∧ (flatG l)[i * 2 + 1]? = some (.int .i64 x.at_) := by
  induction l generalizing i with
  | nil => simp at h
  | cons y l ih =>
    cases i with
    | zero => simp at h; subst h; simp [flatG, gv]
    | succ i =>
      have := ih i (by simpa using h)
      have e1 : (i + 1) * 2 = i * 2 + 1 + 1 := by omega
      have e : flatG (y :: l) = .int .i64 y.c :: .int .i64 y.at_ :: flatG l := rfl
      rw [e1, e, show i * 2 + 1 + 1 + 1 = (i * 2 + 1) + 1 + 1 by omega]
      simp only [List.getElem?_cons_succ]
      exact this
def gOf (l : List Giv) (child : Int) : List Int := (l.filter fun x => x.c == child).map (·.at_)
theorem gOf_take (l : List Giv) (child : Int) (i : Nat) (x : Giv) (hx : l[i]? = some x) : gOf (l.take (i + 1)) child = gOf (l.take i) child ++ (if x.c == child then [x.at_] else []) := by
  unfold gOf
  rw [List.take_add_one, hx, List.filter_append, List.map_append]
  by_cases h : (x.c == child) = true <;> simp [h]
theorem gOf_le (l : List Giv) (child : Int) : (gOf l child).length ≤ l.length := by unfold gOf; rw [List.length_map]; exact List.length_filter_le _ _
theorem spent_app (T : List Int) (t N W : Int) : spent (T ++ [t]) N W = spent T N W + (if N - W < t then 1 else 0) := by
  unfold spent
  rw [List.filter_append, List.length_append]
  by_cases h : N - W < t
  · have : decide (t ≤ N - W) = false := by simp; omega
    simp [this, h]
  · have : decide (t ≤ N - W) = true := by simp; omega
    simp [this, h]

set_option maxRecDepth 100000 in
set_option maxHeartbeats 1000000 in
theorem refLeft_any (limit within child now : Int) (A : Option Addr) (n c : Nat) (l : List Giv) (w : World) {L W N : Int} (hl : l.length = n) (hn : n ≤ 1000) (hc : Cells w w.heap.size A (flatG l))
    (hL : clamp limit 0 100 = L) (hW : clamp within 1 4095 = W) (hN : clamp now 0 1099511627776 = N) :
    Calls Try.prog 14 #[.slice A n c, .int .i64 limit, .int .i64 within, .int .i64 child, .int .i64 now] w fun e w' => e = .returned (.int .i64 (leftOf L (gOf l child) N W)) ∧ Below w.heap.size w w' := by
  have C0 := Troupe.hid hc
  have bL : 0 ≤ L ∧ L ≤ 100 := by subst hL; unfold clamp; split <;> (try split) <;> omega
  have bW : 1 ≤ W ∧ W ≤ 4095 := by subst hW; unfold clamp; split <;> (try split) <;> omega
  have bN : 0 ≤ N ∧ N ≤ 1099511627776 := by subst hN; exact clampN now
  have KL : Hid (∀ w, Calls Try.prog 17 #[.int .i64 limit, .int .i64 0, .int .i64 100] w fun e w' => e = .returned (.int .i64 L) ∧ w = w') := fun w => by rw [← hL]; exact clamp_any _ _ _ _
  have KW : Hid (∀ w, Calls Try.prog 17 #[.int .i64 within, .int .i64 1, .int .i64 4095] w fun e w' => e = .returned (.int .i64 W) ∧ w = w') := fun w => by rw [← hW]; exact clamp_any _ _ _ _
  have KN : Hid (∀ w, Calls Try.prog 17 #[.int .i64 now, .int .i64 0, .int .i64 1099511627776] w fun e w' => e = .returned (.int .i64 N) ∧ w = w') := fun w => by rw [← hN]; exact clamp_any _ _ _ _
  clear hc hL hW hN
  go_enter Try.func14, Try.ntmps14
  go_wp2_with fail
  refine (KL.out _).mono ?_
  rintro e w1 ⟨rfl, rfl⟩
  go_wp2_with fail
  go_loopw [11, 12] (fun v11 v12 wr => ∃ i : Nat, i ≤ n ∧ v12 = .int .i64 i ∧ v11 = .int .i64 (L - spent (gOf (l.take i) child) N W) ∧ Below w.heap.size w wr) (fun _ v12 _ => n - (intOf v12).toNat)
  case atStart => exact ⟨0, by omega, rfl, by simp [gOf, spent], Below.refl _ _⟩
  case round =>
    obtain ⟨i, hi, rfl, rfl, hb⟩ := hrel
    have HB := Troupe.hid hb
    have hs1 := spent_le (gOf (l.take i) child) N W
    have hs2 := gOf_le (l.take i) child
    rw [List.length_take] at hs2
    by_cases hlt : i < n
    · obtain ⟨x, hx⟩ : ∃ x, l[i]? = some x := ⟨_, List.getElem?_eq_getElem (by omega)⟩
      obtain ⟨q0, q1⟩ := flatG_at l i x hx
      obtain ⟨b, off, hA, _, h1⟩ := (C0.out.below hb).at_ (by intro e; have := congrArg List.length e; rw [flatG_length] at this; simp at this; omega)
      have c0 : wr.cell? ⟨b, off + i * 2, none⟩ = some (.int .i64 x.c) := h1 _ _ q0
      have c1 : wr.cell? ⟨b, off + i * 2 + 1, none⟩ = some (.int .i64 x.at_) := by rw [Nat.add_assoc]; exact h1 _ _ q1
      have hG := gOf_take l child i x hx
      have HG := Troupe.hid hG
      have hwr : IntKind.i64.wrap (N - W) = N - W := IntWalk.i64_in _ (by omega)
      have hwr2 : IntKind.i64.wrap (L - (spent (gOf (l.take i) child) N W : Int) - 1) = L - (spent (gOf (l.take i) child) N W : Int) - 1 := IntWalk.i64_in _ (by omega)
      have QW : Hid (∀ q, Calls Try.prog 17 #[.int .i64 within, .int .i64 1, .int .i64 4095] (wr.drewN q) fun e w' => e = .returned (.int .i64 W) ∧ ∃ m, w' = wr.drewN m) := fun q => quiet_left (KW.out _)
      have QN : Hid (∀ q, Calls Try.prog 17 #[.int .i64 now, .int .i64 0, .int .i64 1099511627776] (wr.drewN q) fun e w' => e = .returned (.int .i64 N) ∧ ∃ m, w' = wr.drewN m) := fun q => quiet_left (KN.out _)
      subst hA
      clear h1 hx q0 q1 hG hb
      by_cases hcx : (x.c == child) = true
      · by_cases hgt : N - W < x.at_
        · have hst : spent (gOf (l.take (i + 1)) child) N W = spent (gOf (l.take i) child) N W + 1 := by rw [HG.out, if_pos hcx, spent_app, if_pos hgt]
          have ST := Troupe.hid hst
          clear hst
          go_wp2_with fail
          go_quiet ((first | (go_at_call_of 17 (Value.int .i64 now); exact QN.out _) | (go_at_call_of 17 (Value.int .i64 within); exact QW.out _)))
          go_wp2_with fail
          go_roundw
          case rel => exact ⟨i + 1, by omega, by go_num, by rw [ST.out]; congr 1; omega, HB.out.trans ((Frm.refl (fun _ => False) wr).drewN _ |>.below HB.out.size (fun _ h => h.elim))⟩
          case measure => simp [intOf]; omega
        · have hst : spent (gOf (l.take (i + 1)) child) N W = spent (gOf (l.take i) child) N W := by rw [HG.out, if_pos hcx, spent_app, if_neg hgt]; rfl
          have ST := Troupe.hid hst
          clear hst
          go_wp2_with fail
          go_quiet ((first | (go_at_call_of 17 (Value.int .i64 now); exact QN.out _) | (go_at_call_of 17 (Value.int .i64 within); exact QW.out _)))
          go_wp2_with fail
          go_roundw
          case rel => exact ⟨i + 1, by omega, by go_num, by rw [ST.out], HB.out.trans ((Frm.refl (fun _ => False) wr).drewN _ |>.below HB.out.size (fun _ h => h.elim))⟩
          case measure => simp [intOf]; omega
      · have hcx' : (x.c == child) = false := by simpa using hcx
        have hst : spent (gOf (l.take (i + 1)) child) N W = spent (gOf (l.take i) child) N W := by rw [HG.out, if_neg hcx, List.append_nil]
        have ST := Troupe.hid hst
        clear hst hcx
        go_wp2_with fail
        go_quiet (fail)
        go_wp2_with fail
        go_roundw
        case rel => exact ⟨i + 1, by omega, by go_num, by rw [ST.out], HB.out.trans ((Frm.refl (fun _ => False) wr).drewN _ |>.below HB.out.size (fun _ h => h.elim))⟩
        case measure => simp [intOf]; omega
    · have hti : l.take i = l := List.take_of_length_le (by omega)
      rw [hti] at hs1
      have hs3 := gOf_le l child
      have FIN : Hid (clamp (L - spent (gOf l child) N W) 0 100 = leftOf L (gOf l child) N W) := by
        unfold Hid clamp leftOf
        split
        · rfl
        · rw [if_neg (by omega)]
      simp only [hti]
      clear hb hti
      go_wp2_with fail
      refine (clamp_any _ 0 100 wr).mono ?_
      rintro e w2 ⟨rfl, rfl⟩
      go_wp2_with fail
      go_ret
      exact ⟨by rw [← FIN.out]; rfl, HB.out⟩
end Go.Proofs.Ytodkennpgfmenaa
