/- StashOrder: the walk. -/
import Derived.Test.YtmbpilhngniigaaAlive
namespace Go.Proofs.Ytmbpilhngniigaa
open Go.RowKit Go.Maps Go.Troupe

theorem take_succ_at {l : List Int} {i : Nat} {x : Int} (h : l[i]? = some x) : l.take i ++ [x] = l.take (i + 1) := by
  rw [List.take_add_one, h]; rfl
theorem drop_rev {l : List Int} {i : Nat} {x : Int} (h : l[i]? = some x) : (l.drop i).reverse = (l.drop (i + 1)).reverse ++ [x] := by
  have hi : i < l.length := (List.getElem?_eq_some_iff.1 h).1
  have hx : l[i] = x := (List.getElem?_eq_some_iff.1 h).2
  rw [List.drop_eq_getElem_cons hi, hx]; simp
theorem cell_word {w : World} {B : Nat} {A : Option Addr} {l : List Int} (h : Cells w B A (words l)) {i : Nat} {x : Int} (hx : l[i]? = some x) : ∃ b o, A = some ⟨b, o, none⟩ ∧ b < B ∧ w.cell? ⟨b, o + i, none⟩ = some (.int .u64 x) := by
  have hne : words l ≠ [] := by intro e; have := congrArg List.length e; simp [words] at this; subst this; simp at hx
  obtain ⟨b, o, hA, hb, g⟩ := h.at_ hne
  exact ⟨b, o, hA, hb, g i _ (by simp [words, hx])⟩

set_option maxRecDepth 100000 in
set_option maxHeartbeats 2000000 in
theorem order_walk {w : World} (A0 : Option Addr) (n0 c0 : Nat) (L0 : List Int) (hL0 : L0.length = n0) (hC0 : Cells w w.heap.size A0 (words L0))
    (A1 : Option Addr) (n1 c1 : Nat) (L1 : List Int) (hL1 : L1.length = n1) (hC1 : Cells w w.heap.size A1 (words L1)) (hm0 : n0 ≤ maxLen) (hm1 : n1 ≤ maxLen) :
    Calls Try.prog 3 #[.slice A0 n0 c0, .slice A1 n1 c1] w fun e w' => e = .returned (.bool true) ∧ Below w.heap.size w w' := by
  obtain ⟨n, hn⟩ : ∃ n, n = min n0 60 := ⟨_, rfl⟩
  obtain ⟨k, hk⟩ : ∃ k, k = min n1 60 := ⟨_, rfl⟩
  have HN := Troupe.hid hn
  have HK := Troupe.hid hk
  have hn60 : n ≤ 60 := by omega
  have hk60 : k ≤ 60 := by omega
  have hnL : n ≤ L0.length := by omega
  have hkL : k ≤ L1.length := by omega
  have C0 := Troupe.hid hC0
  have C1 := Troupe.hid hC1
  unfold maxLen at hm0 hm1
  clear hn hk hC0 hC1
  go_enter Try.func3, Try.ntmps3
  go_wp2_with fail
  refine (alive_any w).mono ?_
  rintro e w1 ⟨rfl, hb⟩
  have B1 := Troupe.hid hb
  clear hb
  go_wp2_with fail
  refine (Ls.new 64 w1).mono ?_
  rintro e w2 ⟨p, rfl, hl⟩
  have K2 : Hid (Ls w w2 p 64 [] []) := ⟨by
    obtain ⟨S, h1, h2⟩ := hl.ex
    exact ⟨S, h1, fun k hk => Nat.le_trans B1.out.size (h2 k hk)⟩, B1.out.trans (hl.be.mono B1.out.size)⟩
  clear hl
  dsimp only
  rename_i hk9
  refine hk9 _ _ ?_
  go_step
  go_step
  rename_i hk8
  refine hk8 _ _ ?_
  show Exit.then _ _ Exit.normal _ _
  simp only [Exit.then]
  refine ‹∀ (a : Act) (w : World), Code.wp Try.prog _ _ a w → _› _ _ ?_
  go_step
  go_cut [6, 7] from 18 to 23 (fun v6 v7 w3 => v6 = .int .i64 n ∧ v7 = .int .i64 k ∧ w3 = w2)
  case first =>
    go_wp2_with fail
    all_goals go_meet
    all_goals refine ⟨?_, ?_, by trivial⟩
    all_goals have h0 := HN.out
    all_goals have h1 := HK.out
    all_goals congr 1
    all_goals omega
  case rest =>
    obtain ⟨rfl, rfl, hw⟩ := hcut
    obtain rfl := hw.symm
    go_upto_block 0 with (fail)
    go_cut [8] from 24 to 35 (fun _ w' => Ls w w' p 64 (L0.take n) [])
    case first =>
      go_wp2_with fail
      go_loopw [8] (fun v8 wr => ∃ i : Nat, i ≤ n ∧ v8 = .int .i64 i ∧ Ls w wr p 64 (L0.take i) []) (fun v8 _ => n - (intOf v8).toNat)
      case atStart => exact ⟨0, Nat.zero_le _, rfl, K2.out⟩
      case round =>
        obtain ⟨i, hi, rfl, hk⟩ := hrel
        by_cases hlt : i < n
        · obtain ⟨x, hx⟩ : ∃ x, L0[i]? = some x := ⟨_, List.getElem?_eq_getElem (by omega)⟩
          obtain ⟨b, o, hA, _, hcell⟩ := cell_word (C0.out.below hk.be) hx
          subst hA
          have hi0 : i < n0 := by omega
          have K3 := Troupe.hid hk
          have HX := Troupe.hid hx
          clear hk hx
          go_wp2_with fail
          refine (K3.out.stash x (by rw [List.length_take]; omega)).mono ?_
          rintro e w4 ⟨rfl, hk4⟩
          rw [take_succ_at HX.out] at hk4
          have K4 := Troupe.hid hk4
          clear hk4 hcell
          go_wp2_with fail
          go_roundw
          case rel => exact ⟨i + 1, by omega, by go_num, K4.out⟩
          case measure => simp [intOf]; omega
        · have hin : i = n := by omega
          subst hin
          have K3 := Troupe.hid hk
          clear hk
          go_wp2_with fail
          go_meet
          case rel => exact K3.out
    case rest =>
      obtain ⟨w3, rfl⟩ : ∃ w3 : World, w3 = wc := ⟨_, rfl⟩
      obtain ⟨E, hE⟩ : ∃ E, E = L0.take n := ⟨_, rfl⟩
      have hEl : E.length = n := by rw [hE, List.length_take]; omega
      rw [← hE] at hcut
      have K3 := Troupe.hid hcut
      have HE := Troupe.hid hE
      clear hcut hE
      go_upto_block 2 with (go_at_call 11; refine (K3.out.unstash (by omega) (by decide)).mono ?_; rintro e w4 ⟨rfl, hk4⟩; have K4 := Troupe.hid hk4; clear hk4)
      go_cut [9] from 38 to 49 (fun _ w' => Ls w w' p 64 (L1.take k) ([] ++ E.reverse))
      case first =>
        go_wp2_with fail
        go_loopw [9] (fun v9 wr => ∃ i : Nat, i ≤ k ∧ v9 = .int .i64 i ∧ Ls w wr p 64 (L1.take i) ([] ++ E.reverse)) (fun v9 _ => k - (intOf v9).toNat)
        case atStart => exact ⟨0, Nat.zero_le _, rfl, K4.out⟩
        case round =>
          obtain ⟨i, hi, rfl, hk⟩ := hrel
          by_cases hlt : i < k
          · obtain ⟨x, hx⟩ : ∃ x, L1[i]? = some x := ⟨_, List.getElem?_eq_getElem (by omega)⟩
            obtain ⟨b, o, hA, _, hcell⟩ := cell_word (C1.out.below hk.be) hx
            subst hA
            have hi0 : i < n1 := by omega
            have K5 := Troupe.hid hk
            have HX := Troupe.hid hx
            clear hk hx
            go_wp2_with fail
            refine (K5.out.stash x (by rw [List.length_take]; omega)).mono ?_
            rintro e w5 ⟨rfl, hk6⟩
            rw [take_succ_at HX.out] at hk6
            have K6 := Troupe.hid hk6
            clear hk6 hcell
            go_wp2_with fail
            go_roundw
            case rel => exact ⟨i + 1, by omega, by go_num, K6.out⟩
            case measure => simp [intOf]; omega
          · have hin : i = k := by omega
            subst hin
            have K5 := Troupe.hid hk
            clear hk
            go_wp2_with fail
            go_meet
            case rel => exact K5.out
      case rest =>
        obtain ⟨w5, rfl⟩ : ∃ w5 : World, w5 = wc := ⟨_, rfl⟩
        obtain ⟨I, hI⟩ : ∃ I, I = L1.take k := ⟨_, rfl⟩
        have hIl : I.length = k := by rw [hI, List.length_take]; omega
        rw [← hI] at hcut
        have K5 := Troupe.hid hcut
        have HI := Troupe.hid hI
        clear hcut hI
        go_wp2_with fail
        refine (K5.out.unstash (by omega) (by simp; omega)).mono ?_
        rintro e w6 ⟨rfl, hk6⟩
        have K6 := Troupe.hid hk6
        clear hk6
        rw [hIl]
        go_wp2_with fail
        refine (K6.out.unstash (by decide) (by simp; omega)).mono ?_
        rintro e w7 ⟨rfl, hk7⟩
        have e7 : [] ++ E.reverse ++ I.reverse ++ ([] : List Int).reverse = ((I ++ E).drop 0).reverse := by simp
        rw [e7] at hk7
        have K7 := Troupe.hid hk7
        clear hk7 e7
        go_upto_block 4 with (fail)
        have hIE : (I ++ E).length = k + n := by simp; omega
        go_cut [10] from 59 to 100 (fun _ w' => Ls w w' p 64 [] [])
        case first =>
          go_wp2_with fail
          go_loopw [10] (fun v10 wr => ∃ i : Nat, i ≤ k + n ∧ v10 = .int .i64 i ∧ Ls w wr p 64 [] ((I ++ E).drop i).reverse) (fun v10 _ => k + n - (intOf v10).toNat)
          case atStart => exact ⟨0, Nat.zero_le _, rfl, K7.out⟩
          case round =>
            obtain ⟨i, hi, rfl, hk⟩ := hrel
            have hlit : (i : Int) < 200 := by omega
            by_cases hlt : i < k + n
            · obtain ⟨x, hx⟩ : ∃ x, (I ++ E)[i]? = some x := ⟨_, List.getElem?_eq_getElem (by omega)⟩
              have hbe := hk.be
              rw [drop_rev hx] at hk
              have hnl : ((I ++ E).drop (i + 1)).reverse.length ≤ 1000000 := by simp; omega
              have K8 := Troupe.hid hk
              have HNL := Troupe.hid hnl
              have HB := Troupe.hid hbe
              clear hk hnl hbe
              have hlt2 : (i : Int) < (k : Int) + (n : Int) := by omega
              go_wp2_with fail
              refine (K8.out.nextSome HNL.out).mono ?_
              rintro e w8 ⟨rfl, hk9⟩
              have K9 := Troupe.hid hk9
              have HB9 := Troupe.hid hk9.be
              clear hk9
              by_cases hik : i < k
              · have hx1 : L1[i]? = some x := by
                  rw [List.getElem?_append_left (by omega), HI.out, List.getElem?_take, if_pos hik] at hx
                  exact hx
                obtain ⟨b, o, hA, _, hcell⟩ := cell_word (C1.out.below HB9.out) hx1
                subst hA
                have hi1 : i < n1 := by omega
                have hik2 : (i : Int) < (k : Int) := by omega
                clear hx hx1
                go_wp2_with fail
                go_roundw
                case rel => exact ⟨i + 1, by omega, by go_num, K9.out⟩
                case measure => simp [intOf]; omega
              · obtain ⟨j, rfl⟩ : ∃ j, i = k + j := ⟨i - k, by omega⟩
                have hx0 : L0[j]? = some x := by
                  rw [List.getElem?_append_right (by omega), hIl, show k + j - k = j by omega, HE.out, List.getElem?_take, if_pos (by omega)] at hx
                  exact hx
                obtain ⟨b, o, hA, _, hcell⟩ := cell_word (C0.out.below HB9.out) hx0
                subst hA
                have hj1 : j < n0 := by omega
                have hw1 : IntKind.i64.wrap ((k : Int) + (j : Int) - (k : Int)) = (j : Int) := by rw [IntWalk.i64_in _ (by omega)]; omega
                have hw2 : IntKind.i64.wrap (j : Int) = (j : Int) := IntWalk.i64_in _ (by omega)
                clear hx hx0
                go_wp2_with fail
                go_roundw
                case rel => exact ⟨k + j + 1, by omega, by go_num, K9.out⟩
                case measure => simp [intOf]; omega
            · have hin : i = k + n := by omega
              subst hin
              have e0 : ((I ++ E).drop (k + n)).reverse = [] := by rw [List.drop_of_length_le (by omega)]; rfl
              rw [e0] at hk
              have K8 := Troupe.hid hk
              clear hk e0
              go_wp2_with fail
              go_meet
              case rel => exact K8.out
        case rest =>
          obtain ⟨w8, rfl⟩ : ∃ w8 : World, w8 = wc := ⟨_, rfl⟩
          have K8 := Troupe.hid hcut
          clear hcut
          go_wp2_with fail
          refine (K8.out.nextNone).mono ?_
          rintro e w9 ⟨rfl, hk9⟩
          have K9 := Troupe.hid hk9
          clear hk9
          go_wp2_with fail
          go_ret
          exact ⟨rfl, K9.out.be⟩
end Go.Proofs.Ytmbpilhngniigaa
