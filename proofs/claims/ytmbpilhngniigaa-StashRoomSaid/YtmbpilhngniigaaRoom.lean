/- StashRoom: the walk. -/
import Derived.Test.YtmbpilhngniigaaAlive
namespace Go.Proofs.Ytmbpilhngniigaa
open Go.RowKit Go.Maps Go.Troupe

theorem rep_succ (id : Int) (i : Nat) : List.replicate i id ++ [id] = List.replicate (i + 1) id := by rw [List.replicate_succ']
set_option maxRecDepth 100000 in
set_option maxHeartbeats 2000000 in
theorem room_walk (room id : Int) (w : World) :
    Calls Try.prog 4 #[.int .i64 room, .int .u64 id] w fun e w' => e = .returned (.bool true) ∧ Below w.heap.size w w' := by
  obtain ⟨n, hn⟩ : ∃ n, n = roomN room := ⟨_, rfl⟩
  have hn64 : n ≤ 64 := by rw [hn]; unfold roomN; split <;> (try split) <;> omega
  have HN := Troupe.hid hn
  clear hn
  go_enter Try.func4, Try.ntmps4
  go_wp2_with fail
  refine (alive_any w).mono ?_
  rintro e w1 ⟨rfl, hb⟩
  have B1 := Troupe.hid hb
  clear hb
  go_wp2_with fail
  refine (Ls.new room w1).mono ?_
  rintro e w2 ⟨p, rfl, hl⟩
  rw [← HN.out] at hl
  have K2 : Hid (Ls w w2 p n [] []) := ⟨by
    obtain ⟨S, h1, h2⟩ := hl.ex
    exact ⟨S, h1, fun k hk => Nat.le_trans B1.out.size (h2 k hk)⟩, B1.out.trans (hl.be.mono B1.out.size)⟩
  clear hl
  dsimp only
  rename_i hk9
  refine hk9 _ _ ?_
  go_step
  go_step
  rename_i hk8
  refine hk8 _ _ ?_
  show Exit.then _ _ Exit.normal _ _
  simp only [Exit.then]
  refine ‹∀ (a : Act) (w : World), Code.wp Try.prog _ _ a w → _› _ _ ?_
  go_step
  go_cut [6] from 13 to 15 (fun v6 w3 => v6 = .int .i64 n ∧ w3 = w2)
  case first =>
    go_wp2_with fail
    all_goals go_meet
    all_goals refine ⟨?_, by trivial⟩
    all_goals have h := HN.out
    all_goals unfold roomN at h
    all_goals congr 1
    all_goals repeat' split at h
    all_goals omega
  case rest =>
    obtain ⟨rfl, hw⟩ := hcut
    obtain rfl := hw.symm
    go_upto_block 0 with (fail)
    go_cut [7] from 16 to 47 (fun _ w' => Ls w w' p n [] (List.replicate (3 * n) id))
    case first =>
      go_wp2_with fail
      go_loopw [7] (fun v7 wr => ∃ i : Nat, 1 ≤ i ∧ i ≤ 4 ∧ v7 = .int .i64 i ∧ Ls w wr p n [] (List.replicate ((i - 1) * n) id)) (fun v7 _ => 4 - (intOf v7).toNat)
      case atStart => exact ⟨1, Nat.le_refl _, by omega, rfl, by simpa using K2.out⟩
      case round =>
        obtain ⟨i, hi1, hi, rfl, hk⟩ := hrel
        have K3 := Troupe.hid hk
        clear hk
        by_cases hlt : i ≤ 3
        · have hlit : (i : Int) ≤ 3 := by omega
          have hM0 : (i - 1) * n ≤ 192 := Nat.le_trans (Nat.mul_le_mul (show i - 1 ≤ 3 by omega) hn64) (by decide)
          have hM1 : (i - 1) * n + n = i * n := by rw [Nat.sub_mul, Nat.one_mul, Nat.sub_add_cancel (Nat.le_mul_of_pos_left n (by omega))]
          obtain ⟨M, hM⟩ : ∃ M, M = (i - 1) * n := ⟨_, rfl⟩
          have hmul : IntKind.i64.wrap ((i : Int) * (n : Int)) = ((M + n : Nat) : Int) := by
            have e : (i : Int) * (n : Int) = ((M + n : Nat) : Int) := by rw [hM, hM1]; simp
            rw [e]; exact IntWalk.i64_in _ (by omega)
          rw [← hM] at K3 hM0 hM1
          have HM := Troupe.hid hM
          clear hM
          go_upto_block 2 with (fail)
          go_cut [8] from 20 to 28 (fun _ w' => Ls w w' p n (List.replicate n id) (List.replicate M id))
          case first =>
            go_wp2_with fail
            go_loopw [8] (fun v8 wr => ∃ j : Nat, j ≤ n ∧ v8 = .int .i64 j ∧ Ls w wr p n (List.replicate j id) (List.replicate M id)) (fun v8 _ => n - (intOf v8).toNat)
            case atStart => exact ⟨0, Nat.zero_le _, rfl, K3.out⟩
            case round =>
              obtain ⟨j, hj, rfl, hk⟩ := hrel
              have K4 := Troupe.hid hk
              clear hk
              by_cases hlt2 : j < n
              · go_wp2_with fail
                refine (K4.out.stash id (by simpa using hlt2)).mono ?_
                rintro e w5 ⟨rfl, hk5⟩
                rw [rep_succ] at hk5
                have K5 := Troupe.hid hk5
                clear hk5
                go_wp2_with fail
                go_roundw
                case rel => exact ⟨j + 1, by omega, by go_num, K5.out⟩
                case measure => simp [intOf]; omega
              · obtain rfl : j = n := by omega
                go_wp2_with fail
                go_meet
                case rel => exact K4.out
          case rest =>
            obtain ⟨w4, rfl⟩ : ∃ w4 : World, w4 = wc := ⟨_, rfl⟩
            have K4 := Troupe.hid hcut
            clear hcut
            go_wp2_with fail
            refine (K4.out.full id (by simp)).mono ?_
            rintro e w5 ⟨rfl, hk5⟩
            have K5 := Troupe.hid hk5
            clear hk5
            go_wp2_with fail
            refine (K5.out.unstash (by simp; omega) (by simp; omega)).mono ?_
            rintro e w6 ⟨rfl, hk6⟩
            have e6 : List.replicate M id ++ (List.replicate n id).reverse = List.replicate (M + n) id := by simp [List.replicate_append_replicate]
            rw [e6] at hk6
            have K6 := Troupe.hid hk6
            clear hk6 e6
            rw [List.length_replicate]
            go_wp2_with fail
            refine (K6.out.front (by simp; omega)).mono ?_
            rintro e w7 ⟨A, c, rfl, hr, -, hk7⟩
            rw [hM1] at hk7
            have K7 := Troupe.hid hk7
            clear hk7 hr
            rw [List.length_replicate]
            go_wp2_with fail
            go_roundw
            case rel => exact ⟨i + 1, by omega, by omega, by go_num, by simpa using K7.out⟩
            case measure => simp [intOf]; omega
        · obtain rfl : i = 4 := by omega
          go_wp2_with fail
          go_meet
          case rel => exact K3.out
    case rest =>
      obtain ⟨w3, rfl⟩ : ∃ w3 : World, w3 = wc := ⟨_, rfl⟩
      have K3 := Troupe.hid hcut
      clear hcut
      have hm3 : IntKind.i64.wrap (3 * (n : Int)) = 3 * (n : Int) := IntWalk.i64_in _ (by omega)
      go_wp2_with fail
      refine (K3.out.clear (by simp; omega) (by decide)).mono ?_
      rintro e w4 ⟨A, c, rfl, hr, hk4⟩
      have K4 := Troupe.hid hk4
      clear hk4 hr
      have e4 : (List.replicate (3 * n) id).length + ([] : List Int).length = 3 * n := by simp
      rw [e4]
      go_wp2_with fail
      go_ret
      exact ⟨by simp, K4.out.be⟩
end Go.Proofs.Ytmbpilhngniigaa
