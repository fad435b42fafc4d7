/- StashSums: the walk. -/
import Derived.Test.YtmbpilhngniigaaOps
namespace Go.Proofs.Ytmbpilhngniigaa
open Go.RowKit Go.Maps Go.Troupe

/-- What stands between two operations. -/
structure SI (w wr : World) (p n : Nat) (id : Int) (i a b : Nat) (As Fr : List Int) : Prop where
  ls : Ls w wr p n As Fr
  sum : a = b + As.count id + Fr.count id
  len : As.length + Fr.length ≤ i
  room : As.length ≤ n
  ai : a ≤ i
theorem SI.put {w wr w' : World} {p n : Nat} {id x : Int} {i a b : Nat} {As Fr : List Int} (h : SI w wr p n id i a b As Fr) (hl : Ls w w' p n (As ++ [x]) Fr) (hr : As.length < n) :
    SI w w' p n id (i + 1) (if x = id then a + 1 else a) b (As ++ [x]) Fr := by
  have h1 := h.sum; have h2 := h.len; have h3 := h.ai
  refine ⟨hl, ?_, by simp; omega, by simp; omega, by split <;> omega⟩
  rw [List.count_append, List.count_singleton]
  by_cases hx : x = id
  · simp [hx]; omega
  · simp [hx]; omega
theorem SI.same {w wr w' : World} {p n : Nat} {id : Int} {i a b : Nat} {As Fr : List Int} (h : SI w wr p n id i a b As Fr) (hl : Ls w w' p n As Fr) : SI w w' p n id (i + 1) a b As Fr := by
  have h1 := h.sum; have h2 := h.len; have h3 := h.ai
  exact ⟨hl, h1, by omega, h.room, by omega⟩
theorem SI.up {w wr w' : World} {p n : Nat} {id : Int} {i a b : Nat} {As Fr : List Int} (h : SI w wr p n id i a b As Fr) (hl : Ls w w' p n [] (Fr ++ As.reverse)) : SI w w' p n id (i + 1) a b [] (Fr ++ As.reverse) := by
  have h1 := h.sum; have h2 := h.len; have h3 := h.ai
  exact ⟨hl, by simp; omega, by simp; omega, by simp, by omega⟩
theorem SI.out {w wr w' : World} {p n : Nat} {id x : Int} {i a b : Nat} {As Fr : List Int} (h : SI w wr p n id i a b As (Fr ++ [x])) (hl : Ls w w' p n As Fr) :
    SI w w' p n id (i + 1) a (if x = id then b + 1 else b) As Fr := by
  have h1 := h.sum; have h2 := h.len; have h3 := h.ai
  rw [List.count_append, List.count_singleton] at h1
  simp at h2
  refine ⟨hl, ?_, by omega, h.room, by omega⟩
  by_cases hx : x = id
  · simp [hx] at h1 ⊢; omega
  · simp [hx] at h1 ⊢; omega
theorem SI.cleared {w wr w' : World} {p n : Nat} {id : Int} {i a b : Nat} {As Fr : List Int} (h : SI w wr p n id i a b As Fr) (hl : Ls w w' p n [] []) :
    SI w w' p n id (i + 1) a (b + (Fr.reverse ++ As).count id) [] [] := by
  have h1 := h.sum; have h2 := h.len; have h3 := h.ai
  refine ⟨hl, ?_, by simp, by simp, by omega⟩
  simp [List.count_append]; omega
theorem roomN_cases {n : Nat} {room : Int} (h : n = roomN room) : (room < 0 → n = 0) ∧ (0 ≤ room ∧ room ≤ 64 → (n : Int) = room) ∧ (64 < room → n = 64) := by
  unfold roomN at h
  split at h <;> (try split at h) <;> omega
theorem count_take {l : List Int} {i : Nat} {x : Int} (h : l[i]? = some x) (id : Int) : (l.take (i + 1)).count id = (l.take i).count id + (if x = id then 1 else 0) := by
  rw [← take_succ_at h, List.count_append, List.count_singleton]
  by_cases hx : x = id <;> simp [hx]

set_option maxRecDepth 100000 in
set_option maxHeartbeats 4000000 in
theorem sums_walk (room : Int) (Ad : Option Addr) (len cap : Nat) (l0 : List Opr) (id : Int) (w : World) (hl : l0.length = len) (hc : Cells w w.heap.size Ad (flatP l0)) :
    Calls Try.prog 6 #[.int .i64 room, .slice Ad len cap, .int .u64 id] w fun e w' => e = .returned (.bool true) ∧ Below w.heap.size w w' := by
  obtain ⟨n, hn⟩ : ∃ n, n = roomN room := ⟨_, rfl⟩
  have hn64 : n ≤ 64 := by rw [hn]; unfold roomN; split <;> (try split) <;> omega
  have HN := Troupe.hid hn
  have C0 := Troupe.hid hc
  clear hn hc
  go_enter Try.func6, Try.ntmps6
  go_wp2_with fail
  refine (alive_any w).mono ?_
  rintro e w1 ⟨rfl, hb⟩
  have B1 := Troupe.hid hb
  clear hb
  go_wp2_with fail
  refine (Ls.new room w1).mono ?_
  rintro e w2 ⟨p, rfl, hl⟩
  rw [← HN.out] at hl
  have K2 : Hid (Ls w w2 p n [] []) := ⟨by
    obtain ⟨S, h1, h2⟩ := hl.ex
    exact ⟨S, h1, fun k hk => Nat.le_trans B1.out.size (h2 k hk)⟩, B1.out.trans (hl.be.mono B1.out.size)⟩
  clear hl
  go_upto_block 0 with (fail)
  go_cut [8, 9, 10] from 21 to 94 (fun v8 v9 _ w' => ∃ (i a b : Nat) (As Fr : List Int), i ≤ 300 ∧ v8 = .int .i64 a ∧ v9 = .int .i64 b ∧ SI w w' p n id i a b As Fr)
  case first =>
    go_wp2_with fail
    go_loopw [8, 9, 10] (fun v8 v9 v10 wr => ∃ (i a b : Nat) (As Fr : List Int), i ≤ len ∧ i ≤ 300 ∧ v8 = .int .i64 a ∧ v9 = .int .i64 b ∧ v10 = .int .i64 i ∧ SI w wr p n id i a b As Fr) (fun _ _ v10 _ => len - (intOf v10).toNat)
    case atStart => exact ⟨0, 0, 0, [], [], Nat.zero_le _, by omega, rfl, rfl, rfl, K2.out, by simp, by simp, by simp, by simp⟩
    case round =>
      obtain ⟨i, a, b, As, Fr, hi, hi3, rfl, rfl, rfl, hsi⟩ := hrel
      have S0 := Troupe.hid hsi
      clear hsi
      by_cases hlt : i < len ∧ i < 300
      · obtain ⟨hlt, hlt3⟩ := hlt
        have hlit : (i : Int) < 300 := by omega
        obtain ⟨x, hx⟩ : ∃ x, l0[i]? = some x := ⟨_, List.getElem?_eq_getElem (by omega)⟩
        obtain ⟨bb, o, hA, hbb, q0, q1⟩ := opr_cells C0.out hx
        subst hA
        have hk2 := x.k.isLt
        obtain ⟨k, hk⟩ : ∃ k : Nat, x.k.val = k := ⟨_, rfl⟩
        obtain ⟨y, hy⟩ : ∃ y : Int, x.id = y := ⟨_, rfl⟩
        rw [hk] at q0 hk2
        rw [hy] at q1
        have k0 : wr.cell? ⟨bb, o + i * 2, none⟩ = some (.int .u8 (k : Int)) := (S0.out.ls.be.cell (p := ⟨bb, o + i * 2, none⟩) hbb).trans q0
        have k1 : wr.cell? ⟨bb, o + i * 2 + 1, none⟩ = some (.int .u64 y) := (S0.out.ls.be.cell (p := ⟨bb, o + i * 2 + 1, none⟩) hbb).trans q1
        have Q1 := Troupe.hid q1
        clear hk hy hx q0 q1
        have hle := S0.out.len
        have hai := S0.out.ai
        have hsm := S0.out.sum
        have hlA : As.length ≤ 1000000 := by omega
        have hlF : Fr.length ≤ 1000000 := by omega
        have ha300 : a ≤ 300 := by omega
        have hb300 : b ≤ 300 := by omega
        clear hle hai hsm
        by_cases h0 : k % 4 = 0
        · have m0 : ((k : Int) % 4 == 0) = true := by simp; omega
          clear h0
          by_cases hr : As.length < n
          · go_wp2_with fail
            refine (S0.out.ls.stash y hr).mono ?_
            rintro e w4 ⟨rfl, h4⟩
            have S4 := Troupe.hid (S0.out.put h4 hr)
            have k4 : w4.cell? ⟨bb, o + i * 2 + 1, none⟩ = some (.int .u64 y) := (h4.be.cell (p := ⟨bb, o + i * 2 + 1, none⟩) hbb).trans Q1.out
            clear h4 k0 k1
            by_cases hy : y = id
            · subst hy
              rw [if_pos rfl] at S4
              go_wp2_with fail
              go_roundw
              case rel => exact ⟨i + 1, a + 1, b, _, _, by omega, by omega, by go_num, rfl, by go_num, S4.out⟩
              case measure => simp [intOf]; omega
            · have hyb : (y == id) = false := by rw [beq_eq_false_iff_ne]; exact hy
              rw [if_neg hy] at S4
              go_wp2_with fail
              go_roundw
              case rel => exact ⟨i + 1, a, b, _, _, by omega, by omega, rfl, rfl, by go_num, S4.out⟩
              case measure => simp [intOf]; omega
          · go_wp2_with fail
            refine (S0.out.ls.full y (by omega)).mono ?_
            rintro e w4 ⟨rfl, h4⟩
            have S4 := Troupe.hid (S0.out.same h4)
            clear h4 k0 k1
            go_wp2_with fail
            go_roundw
            case rel => exact ⟨i + 1, a, b, _, _, by omega, by omega, rfl, rfl, by go_num, S4.out⟩
            case measure => simp [intOf]; omega
        · have m0 : ((k : Int) % 4 == 0) = false := by rw [beq_eq_false_iff_ne]; omega
          by_cases h1 : k % 4 = 1
          · have m1 : ((k : Int) % 4 == 1) = true := by simp; omega
            clear h0 h1
            go_wp2_with fail
            refine (S0.out.ls.unstash hlA hlF).mono ?_
            rintro e w4 ⟨rfl, h4⟩
            have S4 := Troupe.hid (S0.out.up h4)
            clear h4 k0 k1
            go_wp2_with fail
            go_roundw
            case rel => exact ⟨i + 1, a, b, _, _, by omega, by omega, rfl, rfl, by go_num, S4.out⟩
            case measure => simp [intOf]; omega
          · have m1 : ((k : Int) % 4 == 1) = false := by rw [beq_eq_false_iff_ne]; omega
            by_cases h2 : k % 4 = 2
            · have m2 : ((k : Int) % 4 == 2) = true := by simp; omega
              clear h0 h1 h2
              rcases List.eq_nil_or_concat Fr with hF | ⟨F', z, hF⟩
              · subst hF
                go_wp2_with fail
                refine (S0.out.ls.nextNone).mono ?_
                rintro e w4 ⟨rfl, h4⟩
                have S4 := Troupe.hid (S0.out.same h4)
                clear h4 k0 k1
                go_wp2_with fail
                go_roundw
                case rel => exact ⟨i + 1, a, b, _, _, by omega, by omega, rfl, rfl, by go_num, S4.out⟩
                case measure => simp [intOf]; omega
              · rw [List.concat_eq_append] at hF
                subst hF
                have hlF' : F'.length ≤ 1000000 := by simp at hlF; omega
                go_wp2_with fail
                refine (S0.out.ls.nextSome hlF').mono ?_
                rintro e w4 ⟨rfl, h4⟩
                have S4 := Troupe.hid (S0.out.out h4)
                clear h4 k0 k1 hlF hlF'
                by_cases hz : z = id
                · subst hz
                  rw [if_pos rfl] at S4
                  go_wp2_with fail
                  go_roundw
                  case rel => exact ⟨i + 1, a, b + 1, _, _, by omega, by omega, rfl, by go_num, by go_num, S4.out⟩
                  case measure => simp [intOf]; omega
                · have hzb : (z == id) = false := by rw [beq_eq_false_iff_ne]; exact hz
                  rw [if_neg hz] at S4
                  go_wp2_with fail
                  go_roundw
                  case rel => exact ⟨i + 1, a, b, _, _, by omega, by omega, rfl, rfl, by go_num, S4.out⟩
                  case measure => simp [intOf]; omega
            · have m2 : ((k : Int) % 4 == 2) = false := by rw [beq_eq_false_iff_ne]; omega
              have m3 : ((k : Int) % 4 == 3) = true := by simp; omega
              clear h0 h1 h2
              go_wp2_with fail
              refine (S0.out.ls.clear hlF hlA).mono ?_
              rintro e w4 ⟨A, c, rfl, hr, h4⟩
              have S4 := Troupe.hid (S0.out.cleared h4)
              have hml : (Fr.reverse ++ As).length = Fr.length + As.length := by simp
              obtain ⟨m, hm⟩ : ∃ m, m = Fr.length + As.length := ⟨_, rfl⟩
              obtain ⟨ll, hll⟩ : ∃ ll, ll = Fr.reverse ++ As := ⟨_, rfl⟩
              rw [← hm, ← hll] at hr
              rw [← hll] at S4 hml
              rw [← hm] at hml ⊢
              have hm3 : m ≤ 2000000 := by omega
              have HR := Troupe.hid hr.cells
              clear h4 k0 k1 hr
              have HM := Troupe.hid hm
              clear hm hll
              go_wp2_with fail
              go_loopw [9, 14] (fun v9 v14 wq => ∃ j : Nat, j ≤ m ∧ v14 = .int .i64 j ∧ v9 = .int .i64 ((b + (ll.take j).count id : Nat) : Int) ∧ wq = w4) (fun _ v14 _ => m - (intOf v14).toNat)
              case atStart => exact ⟨0, Nat.zero_le _, rfl, by simp, rfl⟩
              case round =>
                obtain ⟨j, hj, rfl, rfl, rfl⟩ := hrel
                by_cases hjm : j < m
                · obtain ⟨z, hz⟩ : ∃ z, ll[j]? = some z := ⟨_, List.getElem?_eq_getElem (by omega)⟩
                  obtain ⟨b2, o2, hA2, _, k5⟩ := cell_word HR.out hz
                  subst hA2
                  have hct := count_take hz id
                  have hcl : (ll.take j).count id ≤ j := Nat.le_trans List.count_le_length (by rw [List.length_take]; omega)
                  obtain ⟨q, hq⟩ : ∃ q, b + (ll.take j).count id = q := ⟨_, rfl⟩
                  have hq2 : q ≤ 3000000 := by omega
                  rw [hq]
                  by_cases hzi : z = id
                  · subst hzi
                    rw [if_pos rfl] at hct
                    have hq3 : b + (ll.take (j + 1)).count z = q + 1 := by omega
                    have HQ := Troupe.hid hq3
                    clear hct hcl hq hz hq3
                    go_wp2_with fail
                    go_roundw
                    case rel => exact ⟨j + 1, by omega, by go_num, by rw [HQ.out]; go_num, by trivial⟩
                    case measure => simp [intOf]; omega
                  · have hzb : (z == id) = false := by rw [beq_eq_false_iff_ne]; exact hzi
                    rw [if_neg hzi] at hct
                    have hq3 : b + (ll.take (j + 1)).count id = q := by omega
                    have HQ := Troupe.hid hq3
                    clear hct hcl hq hz hq3
                    go_wp2_with fail
                    go_roundw
                    case rel => exact ⟨j + 1, by omega, by go_num, by rw [HQ.out], by trivial⟩
                    case measure => simp [intOf]; omega
                · obtain rfl : j = m := by omega
                  have etk : ll.take j = ll := by rw [← hml, List.take_length]
                  rw [etk]
                  have HCT : Hid (ll.count id ≤ 2000000) := Nat.le_trans List.count_le_length (by omega)
                  go_wp2_with fail
                  go_roundw
                  case rel => exact ⟨i + 1, a, b + ll.count id, _, _, by omega, by omega, rfl, by simp, by go_num, S4.out⟩
                  case measure => simp [intOf]; omega
      · by_cases h1 : i < len
        · have h2 : ¬ i < 300 := fun h => hlt ⟨h1, h⟩
          have h2i : ¬ (i : Int) < 300 := by omega
          clear hlt
          go_wp2_with fail
          go_meet
          case rel => exact ⟨i, a, b, As, Fr, by omega, by simp, by simp, S0.out⟩
        · clear hlt
          go_wp2_with fail
          go_meet
          case rel => exact ⟨i, a, b, As, Fr, by omega, by simp, by simp, S0.out⟩
  case rest =>
    obtain ⟨w3, rfl⟩ : ∃ w3 : World, w3 = wc := ⟨_, rfl⟩
    obtain ⟨i, a, b, As, Fr, hi, rfl, rfl, hsi⟩ := hcut
    have S0 := Troupe.hid hsi
    clear hsi
    have hle := S0.out.len
    have hai := S0.out.ai
    have hsm := S0.out.sum
    have hrm := S0.out.room
    have hlA : As.length ≤ 1000000 := by omega
    have hlF : Fr.length ≤ 1000000 := by omega
    have SUM : Hid (a = b + As.count id + Fr.count id) := hsm
    have ha300 : a ≤ 300 := by omega
    have hb300 : b ≤ 300 := by omega
    clear hsm
    go_wp2_with fail
    refine (S0.out.ls.stashed hlA).mono ?_
    rintro e w4 ⟨A4, c4, rfl, hr4, hb4, h4⟩
    have R4 := Troupe.hid hr4
    have B4 := Troupe.hid hb4
    have S4 := Troupe.hid h4
    clear hr4 hb4 h4
    go_wp2_with fail
    refine (S4.out.front hlF).mono ?_
    rintro e w5 ⟨A5, c5, rfl, hr5, hb5, -⟩
    have OW : Hid (w5.ownsRow w3.heap.size 28 1 (.slice A4 As.length c4) As.length (words As)) := own_frm R4.out.own (Frm.of_below hb5) (fun k hk h => by
      obtain ⟨cs, hbk⟩ := own_at R4.out.own hk
      have := hbk.lt; omega)
    have R5 := Troupe.hid hr5
    have B5 := Troupe.hid (B4.out.trans (hb5.mono B4.out.size))
    have hle5 := B5.out.size
    clear hr5 hb5
    go_upto_block 5 with (at_builtin; refine wpList_app rfl (.tmp 96) (.tmp 98) 22 rfl w3.heap.size 28 info28 Try.underlying22 rfl (by decide) (.slice A4 As.length c4) As.length (words As) rfl OW.out w5.heap.size A5 Fr.length c5 (words Fr.reverse) rfl (by simp [words]) R5.out.cells (fun h => (R5.out.nil h).2) (one_ints _ _) (by omega) (by unfold maxLen; omega) hle5 ?_; intro v0 w6 h'; obtain ⟨A6, c6, rfl, -, -, hc6, -⟩ := own_form h'.own; have R6 := Troupe.hid hc6; have B6 := Troupe.hid (B5.out.trans (h'.frm.below hle5 (fun k hk => (OW.out.lt k hk).1))); clear h' hc6)
    have hml : (As ++ Fr.reverse).length = As.length + Fr.length := by simp
    obtain ⟨m, hm⟩ : ∃ m, m = As.length + Fr.length := ⟨_, rfl⟩
    have RC : Cells w6 w6.heap.size A6 (words (As ++ Fr.reverse)) := by
      have e : words (As ++ Fr.reverse) = words As ++ words Fr.reverse := by simp [words]
      rw [e]; exact R6.out
    have CNT : (As ++ Fr.reverse).count id = As.count id + Fr.count id := by simp
    obtain ⟨ll, hll⟩ : ∃ ll, ll = As ++ Fr.reverse := ⟨_, rfl⟩
    rw [← hll] at RC CNT hml
    rw [← hm] at hml ⊢
    have hm3 : m ≤ 2000000 := by omega
    have HR := Troupe.hid RC
    have HM := Troupe.hid hm
    have CNT2 := Troupe.hid CNT
    clear hm hll RC CNT
    go_cut [9] from 100 to 113 (fun v9 w' => v9 = .int .i64 a ∧ w' = w6)
    case first =>
      go_wp2_with fail
      go_loopw [9, 16] (fun v9 v16 wq => ∃ j : Nat, j ≤ m ∧ v16 = .int .i64 j ∧ v9 = .int .i64 ((b + (ll.take j).count id : Nat) : Int) ∧ wq = w6) (fun _ v16 _ => m - (intOf v16).toNat)
      case atStart => exact ⟨0, Nat.zero_le _, rfl, by simp, rfl⟩
      case round =>
        obtain ⟨j, hj, rfl, rfl, rfl⟩ := hrel
        by_cases hjm : j < m
        · obtain ⟨z, hz⟩ : ∃ z, ll[j]? = some z := ⟨_, List.getElem?_eq_getElem (by omega)⟩
          obtain ⟨b2, o2, hA2, _, k5⟩ := cell_word HR.out hz
          subst hA2
          have hct := count_take hz id
          have hcl : (ll.take j).count id ≤ j := Nat.le_trans List.count_le_length (by rw [List.length_take]; omega)
          obtain ⟨q, hq⟩ : ∃ q, b + (ll.take j).count id = q := ⟨_, rfl⟩
          have hq2 : q ≤ 3000000 := by omega
          rw [hq]
          by_cases hzi : z = id
          · subst hzi
            rw [if_pos rfl] at hct
            have hq3 : b + (ll.take (j + 1)).count z = q + 1 := by omega
            have HQ := Troupe.hid hq3
            clear hct hcl hq hz hq3
            go_wp2_with fail
            go_roundw
            case rel => exact ⟨j + 1, by omega, by go_num, by rw [HQ.out]; go_num, by trivial⟩
            case measure => simp [intOf]; omega
          · have hzb : (z == id) = false := by rw [beq_eq_false_iff_ne]; exact hzi
            rw [if_neg hzi] at hct
            have hq3 : b + (ll.take (j + 1)).count id = q := by omega
            have HQ := Troupe.hid hq3
            clear hct hcl hq hz hq3
            go_wp2_with fail
            go_roundw
            case rel => exact ⟨j + 1, by omega, by go_num, by rw [HQ.out], by trivial⟩
            case measure => simp [intOf]; omega
        · obtain rfl : j = m := by omega
          have etk : ll.take j = ll := by rw [← hml, List.take_length]
          have e9 : b + ll.count id = a := by have := SUM.out; have := CNT2.out; omega
          rw [etk, e9]
          go_wp2_with fail
          go_meet
          case rel => exact ⟨by trivial, by trivial⟩
    case rest =>
      obtain ⟨rfl, hw⟩ := hcut
      obtain rfl := hw.symm
      go_wp2_with fail
      refine ((S0.out.ls.below B6.out).stashed hlA).mono ?_
      rintro e w7 ⟨A7, c7, rfl, -, -, h7⟩
      have S7 := Troupe.hid h7
      clear h7
      obtain ⟨g1, g2, g3⟩ := roomN_cases HN.out
      rcases Int.lt_or_le 64 room with hR | hR
      · have hq : (As.length : Int) ≤ 64 := by omega
        clear g1 g2 g3
        go_wp2_with fail
        all_goals first | omega | (go_ret; exact ⟨rfl, S7.out.be⟩)
      · rcases Int.lt_or_le 0 room with hR0 | hR0
        · have hq : (As.length : Int) ≤ room := by omega
          have hR1 : ¬ 64 < room := by omega
          clear g1 g2 g3
          go_wp2_with fail
          all_goals first | omega | (go_ret; exact ⟨rfl, S7.out.be⟩)
        · have hq : As = [] := List.eq_nil_of_length_eq_zero (by omega)
          have hR1 : ¬ 64 < room := by omega
          clear g1 g2 g3
          go_wp2_with fail
          all_goals first | omega | (go_ret; exact ⟨rfl, S7.out.be⟩)
end Go.Proofs.Ytmbpilhngniigaa
