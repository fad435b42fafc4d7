/- MercyForgets: the walk. -/
import Derived.Test.YtodkennpgfmenaaKept
namespace Go.Proofs.Ytodkennpgfmenaa
open Go.RowKit Go.Maps Go.Troupe

def GR (c N : Int) (i : Nat) : Int → List Int := fun k => if k = c then List.replicate i N else []
theorem GR_self (c N : Int) (i : Nat) : GR c N i c = List.replicate i N := by simp [GR]
theorem GR_zero (c N : Int) : GR c N 0 = fun _ => [] := by funext k; simp [GR]
theorem GR_give (c N : Int) (i : Nat) : give (GR c N i) c N = GR c N (i + 1) := by
  funext k
  unfold give GR
  by_cases hk : k = c
  · simp [hk, List.replicate_succ']
  · simp [hk]
theorem GR_forget (c N : Int) (i : Nat) : (fun k => if k = c then [] else GR c N i k) = fun _ => [] := by
  funext k
  unfold GR
  by_cases hk : k = c <;> simp [hk]
set_option maxRecDepth 100000 in
set_option maxHeartbeats 1000000 in
theorem forgets_walk (limit within child other now : Int) (w : World) :
    Calls Try.prog 7 #[.int .i64 limit, .int .i64 within, .int .i64 child, .int .i64 other, .int .i64 now] w fun e w' => e = .returned (.bool true) ∧ Below w.heap.size w w' := by
  obtain ⟨N, hN⟩ : ∃ N, clamp now 0 1099511627776 = N := ⟨_, rfl⟩
  obtain ⟨n, hn, hcl⟩ := clampL limit
  obtain ⟨wi, hw1, hw2, hcw⟩ := clampW within
  have CL := Troupe.hid hcl
  have CW := Troupe.hid hcw
  have HN := Troupe.hid hN
  clear hcl hcw hN
  go_enter Try.func7, Try.ntmps7
  go_wp2_with fail
  refine (alive_any w).mono ?_
  rintro e w1 ⟨rfl, hb⟩
  have B1 := Troupe.hid hb
  clear hb
  go_wp2_with fail
  refine (new_any limit within w1).mono ?_
  intro e w2 hnew
  obtain ⟨p, m, rfl, hk⟩ := Kt.new B1.out hnew
  rw [CL.out, CW.out] at hk
  have K2 := Troupe.hid hk
  clear hnew hk
  dsimp only
  rename_i hk9
  refine hk9 _ _ ?_
  go_step
  go_step
  rename_i hk8
  refine hk8 _ _ ?_
  show Exit.then _ _ Exit.normal _ _
  simp only [Exit.then]
  refine ‹∀ (a : Act) (w : World), Code.wp Try.prog _ _ a w → _› _ _ ?_
  go_step
  go_cut [12] from 20 to 22 (fun v12 w3 => v12 = .int .i64 n ∧ w3 = w2)
  case first =>
    go_wp2_with fail
    all_goals go_meet
    all_goals refine ⟨?_, by trivial⟩
    all_goals have h := CL.out
    all_goals unfold clamp at h
    all_goals congr 1
    all_goals repeat' split at h
    all_goals omega
  case rest =>
    obtain ⟨rfl, hw⟩ := hcut
    obtain rfl := hw.symm
    go_upto_block 0 with (fail)
    go_cut [13] from 23 to 42 (fun _ w' => Kt w w' p m n wi (GR child N n))
    case first =>
      go_wp2_with fail
      go_loopw [13] (fun v13 wr => ∃ i : Nat, i ≤ n ∧ v13 = .int .i64 i ∧ Kt w wr p m n wi (GR child N i)) (fun v13 _ => n - (intOf v13).toNat)
      case atStart => exact ⟨0, Nat.zero_le _, rfl, by rw [GR_zero]; exact K2.out⟩
      case round =>
        obtain ⟨i, hi, rfl, hk⟩ := hrel
        have K3 := Troupe.hid hk
        clear hk
        by_cases hlt : i < n
        · have hwr : IntKind.i64.wrap ((n : Int) - (i : Int)) = (n : Int) - (i : Int) := IntWalk.i64_in _ (by omega)
          have hlo : leftOf n (GR child N i child) N wi = (n : Int) - i := by rw [GR_self]; exact left_rep N (by omega) hw1
          have LO := Troupe.hid hlo
          have LN : Hid ((GR child N i child).length ≤ 1000000) := by unfold Hid; rw [GR_self, List.length_replicate]; omega
          clear hlo
          go_wp2_with fail
          refine (K3.out.left N _ LN.out HN.out LO.out).mono ?_
          rintro e w4 ⟨rfl, hk4⟩
          have K4 := Troupe.hid hk4
          clear hk4
          go_wp2_with fail
          refine (K4.out.yes N LN.out HN.out (by rw [LO.out]; omega)).mono ?_
          rintro e w5 ⟨rfl, hk5⟩
          rw [GR_give] at hk5
          have K5 := Troupe.hid hk5
          clear hk5
          go_wp2_with fail
          go_roundw
          case rel => exact ⟨i + 1, by omega, by go_num, K5.out⟩
          case measure => simp [intOf]; omega
        · have hin : i = n := by omega
          subst hin
          go_wp2_with fail
          go_meet
          case rel => exact K3.out
    case rest =>
      obtain ⟨w3, rfl⟩ : ∃ w3 : World, w3 = wc := ⟨_, rfl⟩
      have K3 := Troupe.hid hcut
      clear hcut
      have hlo : leftOf n (GR child N n child) N wi = 0 := by rw [GR_self, left_rep N (Nat.le_refl n) hw1]; omega
      have LO := Troupe.hid hlo
      have LN : Hid ((GR child N n child).length ≤ 1000000) := by unfold Hid; rw [GR_self, List.length_replicate]; omega
      have LNo : Hid ((GR child N n other).length ≤ 1000000) := by unfold Hid; unfold GR; split <;> simp <;> omega
      have L0 : Hid (leftOf n [] N wi = n) := by unfold Hid; have := left_rep (n := n) (i := 0) N (Nat.zero_le _) hw1; simpa using this
      clear hlo
      go_wp2_with fail
      refine (K3.out.no N LN.out HN.out LO.out).mono ?_
      rintro e w4 ⟨rfl, hk4⟩
      have K4 := Troupe.hid hk4
      clear hk4
      go_wp2_with fail
      refine (K4.out.left N _ LN.out HN.out LO.out).mono ?_
      rintro e w5 ⟨rfl, hk5⟩
      have K5 := Troupe.hid hk5
      clear hk5
      go_wp2_with fail
      obtain ⟨lo, hlo⟩ : ∃ lo, leftOf n (GR child N n other) N wi = lo := ⟨_, rfl⟩
      have LOO := Troupe.hid hlo
      clear hlo
      refine (K5.out.left N _ LNo.out HN.out LOO.out).mono ?_
      rintro e w6 ⟨rfl, hk6⟩
      have K6 := Troupe.hid hk6
      clear hk6
      go_wp2_with fail
      refine (K6.out.forget child).mono ?_
      rintro e w7 ⟨rfl, hk7⟩
      rw [GR_forget] at hk7
      have K7 := Troupe.hid hk7
      clear hk7
      go_wp2_with fail
      refine (K7.out.left N _ (by simp) HN.out L0.out).mono ?_
      rintro e w8 ⟨rfl, hk8⟩
      have K8 := Troupe.hid hk8
      clear hk8
      by_cases hoc : other = child
      · have h1 : (other == child) = true := by simp [hoc]
        have h2 : (other != child) = false := by simp [hoc]
        clear hoc
        by_cases hn0 : n = 0
        · have hz : ((n : Int) == 0) = true := by simp [hn0]
          go_wp2_with fail
          go_ret
          exact ⟨rfl, K8.out.be⟩
        · have hz : ((n : Int) == 0) = false := by rw [beq_eq_false_iff_ne]; omega
          go_wp2_with fail
          refine (K8.out.yes (child := child) N (by simp) HN.out (by rw [L0.out]; omega)).mono ?_
          rintro e w10 ⟨rfl, hk10⟩
          have KK := Troupe.hid hk10.be
          clear hk10
          go_wp2_with fail
          go_ret
          exact ⟨rfl, KK.out⟩
      · have h1 : (other == child) = false := by simp [hoc]
        have h2 : (other != child) = true := by simp [hoc]
        have e1 : lo = n := by rw [← LOO.out]; unfold GR; rw [if_neg hoc]; exact L0.out
        subst e1
        clear hoc
        go_wp2_with fail
        refine (K8.out.left N _ (by simp) HN.out L0.out).mono ?_
        rintro e w9 ⟨rfl, hk9⟩
        have K9 := Troupe.hid hk9
        clear hk9
        by_cases hn0 : n = 0
        · have hz : ((n : Int) == 0) = true := by simp [hn0]
          go_wp2_with fail
          go_ret
          exact ⟨rfl, K9.out.be⟩
        · have hz : ((n : Int) == 0) = false := by rw [beq_eq_false_iff_ne]; omega
          go_wp2_with fail
          refine (K9.out.yes (child := child) N (by simp) HN.out (by rw [L0.out]; omega)).mono ?_
          rintro e w10 ⟨rfl, hk10⟩
          have KK := Troupe.hid hk10.be
          clear hk10
          go_wp2_with fail
          go_ret
          exact ⟨rfl, KK.out⟩
end Go.Proofs.Ytodkennpgfmenaa
