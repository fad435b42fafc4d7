/- DeadSums: the walk. -/
import Derived.Test.YtdggmmdimebljaaPlain
namespace Go.Proofs.Ytdggmmdimebljaa
open Go.RowKit Go.Maps Go.Troupe

def sumTo (l : List Let) : Nat → Nat
  | 0 => 0
  | q + 1 => sumTo l q + cntL l ((q + 1 : Nat) : Int)
theorem sumTo_le (l : List Let) : ∀ q, sumTo l q ≤ q * l.length
  | 0 => by simp [sumTo]
  | q + 1 => by
    have h1 := sumTo_le l q
    have h2 := cntL_le l ((q + 1 : Nat) : Int)
    unfold sumTo
    rw [Nat.add_mul]
    omega
theorem sum_all (l : List Let) (h : ∀ x ∈ l, rightB x.why = true) : sumTo l 5 = l.length := by
  induction l with
  | nil => rfl
  | cons x l ih =>
    have ih' := ih fun y hy => h y (.tail _ hy)
    have hx := h x (.head _)
    have e : ∀ k : Int, cntL (x :: l) k = cntL l k + if x.why = k then 1 else 0 := by
      intro k
      unfold cntL
      by_cases hk : x.why = k <;> simp [hk]
    simp only [sumTo, e, List.length_cons] at ih' ⊢
    simp only [rightB, Bool.and_eq_true, decide_eq_true_eq] at hx
    have : x.why = 1 ∨ x.why = 2 ∨ x.why = 3 ∨ x.why = 4 ∨ x.why = 5 := by omega
    rcases this with h | h | h | h | h <;> simp [h] at ih' ⊢ <;> omega

set_option maxRecDepth 100000 in
set_option maxHeartbeats 800000 in
theorem sums_walk (k : Int) (A : Option Addr) (n cap : Nat) (L : List Let) (w : World) (hL : L.length = n) (hc : Cells w w.heap.size A (flat L)) :
    Calls Try.prog 4 #[.int .i64 k, .slice A n cap] w fun e w' => e = .returned (.bool true) ∧ Below w.heap.size w w' := by
  go_enter Try.func4, Try.ntmps4
  go_wp2_with fail
  refine (alive_any w).mono ?_
  rintro e w1 ⟨rfl, hb1⟩
  have B1 := Troupe.hid hb1
  clear hb1
  go_wp2_with fail
  refine (new_holds k w1).mono ?_
  rintro e w2 ⟨p, m, r, rfl, hp, hm, hr, hh, hb2⟩
  have B2 := Troupe.hid (B1.out.trans (hb2.mono B1.out.size))
  have H2 := Troupe.hid hh
  have P2 := Troupe.hid (⟨Nat.le_trans B1.out.size hp, Nat.le_trans B1.out.size hm, Nat.le_trans B1.out.size hr⟩ : w.heap.size ≤ p ∧ w.heap.size ≤ m ∧ w.heap.size ≤ r)
  clear hb2 hh hp hm hr
  go_wp2_with fail
  go_loopw [6, 7] (fun last i wr => ∃ j : Nat, j ≤ n ∧ j ≤ 1000 ∧ i = .int .i64 j ∧ last = .int .i64 (puts L j).length ∧ Holds wr p m r (keptN k) (puts L j) ∧ Below w.heap.size w wr) (fun _ i _ => n - (intOf i).toNat)
  case atStart => exact ⟨0, Nat.zero_le _, Nat.zero_le _, rfl, rfl, H2.out, B2.out⟩
  case round =>
    obtain ⟨j, hj, hj2, rfl, rfl, hh, hb⟩ := hrel
    have hpl := puts_le L j
    by_cases hlt : j < n
    · by_cases h2 : j < 1000
      · obtain ⟨x, hx⟩ : ∃ x, L[j]? = some x := ⟨_, List.getElem?_eq_getElem (by omega)⟩
        obtain ⟨b, off, rfl, _, _⟩ := hc.at_ (flat_ne hx)
        have HH := Troupe.hid hh
        have HB := Troupe.hid hb
        clear hh hb
        go_wp2_with fail
        refine region_still_tail 16 (by kernel_rfl) (by kernel_rfl) ?_
        intro w3 hh3 hf3
        obtain ⟨b1, off1, e1, hb1, h1⟩ := ((hc.below HB.out).heap hh3).at_ (flat_ne hx)
        cases e1
        obtain ⟨c0, c1, c2⟩ := let_at h1 hx
        have H3 := Troupe.hid (HH.out.heap hf3)
        have B3 := Troupe.hid (HB.out.trans (hf3.below (B := w.heap.size) HB.out.size (by simp)))
        have X := Troupe.hid hx
        clear h1 hx hh3 hf3
        simp only [List.take_succ_cons, List.take_zero, List.drop_succ_cons, List.drop_zero]
        repeat still_step
        refine wpStill_nil ?_
        go_wp2_with fail
        by_cases hr : rightB x.why = true
        · refine (put_holds x w3 H3.out hr (by omega)).mono ?_
          rintro e w4 ⟨rfl, hh4, hf4⟩
          have H4 := Troupe.hid hh4
          have B4 := Troupe.hid (B3.out.trans (hf4.below (B := w.heap.size) B3.out.size (by have := P2.out; intro k hk; omega)))
          have PY := Troupe.hid (puts_yes X.out hr)
          have HR : Hid (∀ y ∈ puts L j ++ [x], rightB y.why = true) := by rw [← PY.out]; exact puts_right
          clear hh4 hf4
          go_wp2_with fail
          go_loop [9, 10] (fun s y => ∃ q : Nat, q ≤ 5 ∧ y = .int .i64 ((q : Int) + 1) ∧ s = .int .i64 (sumTo (puts L j ++ [x]) q)) (fun _ y => 6 - (intOf y).toNat)
          case atStart => exact ⟨0, by omega, rfl, rfl⟩
          case round =>
            obtain ⟨q, hq, rfl, rfl⟩ := hrel
            have hs := sumTo_le (puts L j ++ [x]) q
            have hcl := cntL_le (puts L j ++ [x]) ((q : Int) + 1)
            have hll : (puts L j ++ [x]).length ≤ (puts L j).length + 1 := by simp
            have hq5 : q * (puts L j ++ [x]).length ≤ 5 * (puts L j ++ [x]).length := Nat.mul_le_mul_right _ hq
            by_cases hq2 : q < 5
            · go_wp2_with (go_at_call 11; refine (count_holds _ _ H4.out).mono ?_; rintro e w5 ⟨rfl, rfl⟩)
              go_round
              case rel => exact ⟨q + 1, by omega, by go_num, by simp [sumTo]⟩
              case measure => simp [intOf]; omega
            · obtain rfl : q = 5 := by omega
              have hsum : sumTo (puts L j ++ [x]) 5 = (puts L j ++ [x]).length := sum_all _ HR.out
              simp only [hsum]
              clear hs hq5 hsum hcl
              have hlen : (puts L j ++ [x]).length = (puts L j).length + 1 := by simp
              simp only [hlen] at *
              go_wp2_with (go_at_call 16; refine (total_holds _ H4.out).mono ?_; rintro e w5 ⟨rfl, rfl⟩)
              go_roundw
              case rel => exact ⟨j + 1, by omega, by omega, by go_num, by rw [PY.out]; simp, by rw [PY.out]; exact H4.out, B4.out⟩
              case measure => simp [intOf]; omega
        · have hr' : rightB x.why = false := by simpa using hr
          refine (put_wrong (p := p) x w3 hr').mono ?_
          rintro e w4 ⟨rfl, rfl⟩
          have H4 := Troupe.hid H3.out
          have B4 := Troupe.hid B3.out
          have PY := Troupe.hid (puts_no X.out hr')
          have HR : Hid (∀ y ∈ puts L j, rightB y.why = true) := puts_right
          clear hr
          go_wp2_with fail
          go_loop [9, 10] (fun s y => ∃ q : Nat, q ≤ 5 ∧ y = .int .i64 ((q : Int) + 1) ∧ s = .int .i64 (sumTo (puts L j) q)) (fun _ y => 6 - (intOf y).toNat)
          case atStart => exact ⟨0, by omega, rfl, rfl⟩
          case round =>
            obtain ⟨q, hq, rfl, rfl⟩ := hrel
            have hs := sumTo_le (puts L j) q
            have hcl := cntL_le (puts L j) ((q : Int) + 1)
            have hll : (puts L j).length ≤ (puts L j).length + 1 := by simp
            have hq5 : q * (puts L j).length ≤ 5 * (puts L j).length := Nat.mul_le_mul_right _ hq
            by_cases hq2 : q < 5
            · go_wp2_with (go_at_call 11; refine (count_holds _ _ H4.out).mono ?_; rintro e w5 ⟨rfl, rfl⟩)
              go_round
              case rel => exact ⟨q + 1, by omega, by go_num, by simp [sumTo]⟩
              case measure => simp [intOf]; omega
            · obtain rfl : q = 5 := by omega
              have hsum : sumTo (puts L j) 5 = (puts L j).length := sum_all _ HR.out
              simp only [hsum]
              clear hs hq5 hsum hcl
              go_wp2_with (go_at_call 16; refine (total_holds _ H4.out).mono ?_; rintro e w5 ⟨rfl, rfl⟩)
              go_roundw
              case rel => exact ⟨j + 1, by omega, by omega, by go_num, by rw [PY.out], by rw [PY.out]; exact H4.out, B4.out⟩
              case measure => simp [intOf]; omega
      · go_wp2_with (go_at_call 16; refine (total_holds _ hh).mono ?_; rintro e w5 ⟨rfl, rfl⟩)
        go_ret
        exact ⟨rfl, hb⟩
    · go_wp2_with (go_at_call 16; refine (total_holds _ hh).mono ?_; rintro e w5 ⟨rfl, rfl⟩)
      go_ret
      exact ⟨rfl, hb⟩
end Go.Proofs.Ytdggmmdimebljaa
