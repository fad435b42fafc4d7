/- AreaFirst: the plain law and the walk (printed by genfirst.py). -/
import Derived.Test.YtcgdghnmcahfeaaApart
namespace Go.Proofs.Ytcgdghnmcahfeaa
open Go.RowKit Go.Maps Go.Troupe

def hitB (k : Nat) (i : Nat) (r : Rg) : Bool := decide ((r.1 : Int) < (i : Int) + k) && decide ((i : Int) < (r.1 : Int) + r.2)
theorem scan_first : ∀ (l : List Rg) (k : Nat) (j e n : Nat), Ok e n l → ∀ i : Nat, e ≤ i → i < (scan k j e l).2 → l.any (hitB k i) = true
  | [], k, j, e, n, _, i, h1, h2 => absurd h2 (Nat.not_lt.2 h1)
  | r :: l, k, j, e, n, ⟨g1, g2, g3, g4⟩, i, h1, h2 => by
    unfold scan at h2
    split at h2
    · simp only at h2; omega
    · rename_i hc
      rw [List.any_cons]
      by_cases hi : i < r.1 + r.2
      · have : hitB k i r = true := by simp only [hitB, Bool.and_eq_true, decide_eq_true_eq]; omega
        rw [this]; rfl
      · rw [scan_first l k (j + 1) (r.1 + r.2) n g4 i (by omega) h2, Bool.or_true]
/-- What is handed out lies where room is first; what is refused finds room nowhere. -/
theorem first_law (N : Nat) (L : List Rg) (k : Nat) (hk : 1 ≤ k) (hok : Ok 0 N L) :
    (∃ (L' : List Rg) (sb : Nat), takeV N L k = (L', (sb : Int), 0) ∧ sb ≤ N ∧ ∀ i : Nat, (i : Int) < (sb : Int) → L.any (hitB k i) = true) ∨ (takeV N L k = (L, 0, 4) ∧ ∀ i : Nat, (i : Int) < (N : Int) - k + 1 → L.any (hitB k i) = true) := by
  have hs := scan_first L k 0 0 N hok
  have hsc := scan_ok L k 0 0 N (by omega) hok
  unfold takeV
  rw [if_neg (by omega)]
  generalize scan k 0 0 L = sc at *
  obtain ⟨si, sb⟩ := sc
  simp only at hs hsc ⊢
  rcases hsc with ⟨e1, e2, _⟩ | ⟨j, e1, _, _, e2⟩
  · rw [if_pos (by omega)]
    by_cases h : (N : Int) - sb < k
    · rw [if_pos h]
      exact .inr ⟨rfl, fun i hi => hs i (Nat.zero_le _) (by omega)⟩
    · rw [if_neg h]
      exact .inl ⟨_, _, rfl, e2, fun i hi => hs i (Nat.zero_le _) (by omega)⟩
  · rw [if_neg (by omega)]
    exact .inl ⟨_, _, rfl, by omega, fun i hi => hs i (Nat.zero_le _) (by omega)⟩
theorem any_take {α : Type} (p : α → Bool) (l : List α) (i : Nat) (x : α) (h : l[i]? = some x) : (l.take (i + 1)).any p = ((l.take i).any p || p x) := by
  rw [List.take_add_one, h]
  simp

set_option maxRecDepth 100000 in
set_option maxHeartbeats 8000000 in
theorem first_walk (n : Int) (Ad : Option Addr) (len cap : Nat) (s : List Opn) (kk : Int) (w : World) (hl : s.length = len) (hm : len ≤ maxLen) (hc : Cells w w.heap.size Ad (flatO s)) :
    Calls Try.prog 5 #[.int .i64 n, .slice Ad len cap, .int .i64 kk] w fun e w' => e = .returned (.bool true) ∧ Below w.heap.size w w' := by
  have C0 := Troupe.hid hc
  have HM := Troupe.hid hm
  clear hc hm
  by_cases hn : 500 < n
  · go_enter Try.func5, Try.ntmps5
    go_wp2_with fail
    refine (alive_any w).mono ?_
    rintro e w1 ⟨rfl, hb⟩
    have B1 := Troupe.hid hb
    clear hb
    go_wp2_with fail
    go_ret
    exact ⟨rfl, B1.out⟩
  by_cases hk1 : kk < 1
  · go_enter Try.func5, Try.ntmps5
    go_wp2_with fail
    refine (alive_any w).mono ?_
    rintro e w1 ⟨rfl, hb⟩
    have B1 := Troupe.hid hb
    clear hb
    go_wp2_with fail
    go_ret
    exact ⟨rfl, B1.out⟩
  by_cases hk2 : 500 < kk
  · go_enter Try.func5, Try.ntmps5
    go_wp2_with fail
    refine (alive_any w).mono ?_
    rintro e w1 ⟨rfl, hb⟩
    have B1 := Troupe.hid hb
    clear hb
    go_wp2_with fail
    go_ret
    exact ⟨rfl, B1.out⟩
  obtain ⟨k, rfl⟩ : ∃ k : Nat, kk = k := ⟨kk.toNat, by omega⟩
  have hkl : k ≤ 500 := by omega
  have hkg : 1 ≤ k := by omega
  go_enter Try.func5, Try.ntmps5
  go_wp2_with fail
  refine (alive_any w).mono ?_
  rintro e w1 ⟨rfl, hb⟩
  have B1 := Troupe.hid hb
  clear hb
  go_wp2_with fail
  refine (play_any n Ad len cap s w1 hl HM.out ((C0.out.below B1.out).mono B1.out.size)).mono ?_
  rintro e w2 ⟨p, rfl, h2⟩
  generalize playV (areaN n) [] s = L at h2
  obtain ⟨M, hMe⟩ : ∃ M, M = areaN n := ⟨_, rfl⟩
  rw [← hMe] at h2
  have CN := Troupe.hid (fun W => hMe ▸ count_any n W)
  clear hMe
  have hle := h2.ok.length
  have hNN := h2.hN
  have OK := Troupe.hid h2.ok
  obtain ⟨S, hS, hSl⟩ := h2.trim
  have A2 : Hid (ArS w w2 p S M L) := ⟨hS.ar, fun k hk => Nat.le_trans B1.out.size (hS.lo k hk), B1.out.trans (hS.be.mono B1.out.size)⟩
  have SL := Troupe.hid hSl
  clear h2 hS hSl
  go_wp2_with fail
  refine (regions_any w2 A2.out.ar).mono ?_
  rintro e w4 ⟨v, rfl, ho, hb⟩
  obtain ⟨A4, c4, rfl, -⟩ := own_form ho
  have O4 := Troupe.hid ho
  have B4 := Troupe.hid hb
  have A4' := Troupe.hid (A2.out.below hb)
  clear ho hb
  go_wp2_with fail
  refine (take_any k w4 A4'.out.ar).mono ?_
  rintro e w5 ⟨rfl, hlf⟩
  obtain ⟨S', hA5, hG, hF⟩ := A4'.out.left hlf
  have O5 := Troupe.hid (own_frm O4.out hF (fun b hb hSb => by have := SL.out b hSb; have := (O4.out.lt b hb).1; omega))
  have C5 := Troupe.hid (own_cells O5.out)
  have A5 := Troupe.hid hA5
  clear hlf hA5 hG hF
  have LAW := Troupe.hid (first_law M L k hkg OK.out)
  rcases LAW.out with ⟨L', sb, htk, hsb, hfirst⟩ | ⟨htk, hfirst⟩
  · rw [htk] at A5 ⊢
    have FST := Troupe.hid hfirst
    clear htk hfirst LAW
    dsimp only at A5 ⊢
    go_wp2_with fail
    go_loopw [12] (fun v12 wr => ∃ i : Nat, v12 = .int .i64 i ∧ (i : Int) ≤ max 0 (sb : Int) ∧ Below w5.heap.size w5 wr) (fun v12 _ => (sb : Int).toNat - (intOf v12).toNat)
    case atStart => exact ⟨0, rfl, by omega, Below.refl _ _⟩
    case round =>
      obtain ⟨i, rfl, hi, hb⟩ := hrel
      have HB := Troupe.hid hb
      clear hb
      by_cases hlt : (i : Int) < (sb : Int)
      · have HIT := Troupe.hid (FST.out i hlt)
        have hiM : i ≤ 66000 := by omega
        go_upto_block 2 with (fail)
        go_cut [13, 14] from 51 to 83 (fun v13 _ w' => v13 = .bool true ∧ Below w5.heap.size w5 w')
        case first =>
          go_wp2_with fail
          go_loopw [13, 14] (fun v13 v14 wr => ∃ j : Nat, j ≤ L.length ∧ v14 = .int .i64 j ∧ v13 = .bool ((L.take j).any (hitB k i)) ∧ Below w5.heap.size w5 wr) (fun _ v14 _ => L.length - (intOf v14).toNat)
          case atStart => exact ⟨0, Nat.zero_le _, rfl, rfl, HB.out⟩
          case round =>
            obtain ⟨j, hj, rfl, rfl, hb⟩ := hrel
            have HB2 := Troupe.hid hb
            have C6 := Troupe.hid (C5.out.below hb)
            clear hb
            by_cases hjl : j < L.length
            · obtain ⟨x, hx⟩ : ∃ x, L[j]? = some x := ⟨_, List.getElem?_eq_getElem hjl⟩
              obtain ⟨b, off, hA, _, d0, d1⟩ := C6.out.rg hx
              subst hA
              have hmx := OK.out.mem x (List.mem_of_getElem? hx)
              have AT := Troupe.hid (any_take (hitB k i) L j x hx)
              obtain ⟨bs, ln⟩ := x
              simp only at d0 d1 hmx
              have u1 : IntKind.i64.wrap ((i : Int) + k) = (i : Int) + k := by rw [IntKind.wrap_i64]; omega
              have u2 : IntKind.i64.wrap ((bs : Int) + ln) = (bs : Int) + ln := by rw [IntKind.wrap_i64]; omega
              clear hx
              cases hcur : (L.take j).any (hitB k i) with
              | true =>
                have AT2 : Hid ((L.take (j + 1)).any (hitB k i) = true) := by unfold Hid; rw [AT.out, hcur]; rfl
                clear hcur
                go_wp2_with fail
                go_quiet (fail)
                go_wp2_with fail
                go_roundw
                case rel => exact ⟨j + 1, by omega, by go_num, by rw [AT2.out], HB2.out.trans ((Frm.refl (fun _ => False) wr).drewN _ |>.below HB2.out.size (fun _ h => h.elim))⟩
                case measure => simp [intOf]; omega
              | false =>
                by_cases hp : (bs : Int) < (i : Int) + k
                · by_cases hq : (i : Int) < (bs : Int) + ln
                  · have AT2 : Hid ((L.take (j + 1)).any (hitB k i) = true) := by unfold Hid; rw [AT.out, hcur]; simp only [hitB, Bool.false_or, Bool.and_eq_true, decide_eq_true_eq]; exact ⟨hp, hq⟩
                    have hqd : decide ((i : Int) < (bs : Int) + ln) = true := decide_eq_true hq
                    have hpd : decide ((bs : Int) < (i : Int) + k) = true := decide_eq_true hp
                    clear hcur hp hq
                    go_wp2_with fail
                    go_quiet (fail)
                    go_wp2_with fail
                    go_roundw
                    case rel => exact ⟨j + 1, by omega, by go_num, by rw [AT2.out], HB2.out.trans ((Frm.refl (fun _ => False) wr).drewN _ |>.below HB2.out.size (fun _ h => h.elim))⟩
                    case measure => simp [intOf]; omega
                  · have AT2 : Hid ((L.take (j + 1)).any (hitB k i) = false) := by unfold Hid; rw [AT.out, hcur]; simp only [hitB, Bool.false_or, Bool.and_eq_false_iff, decide_eq_false_iff_not]; exact .inr hq
                    have hqd : decide ((i : Int) < (bs : Int) + ln) = false := decide_eq_false hq
                    have hpd : decide ((bs : Int) < (i : Int) + k) = true := decide_eq_true hp
                    clear hcur hp hq
                    go_wp2_with fail
                    go_quiet (fail)
                    go_wp2_with fail
                    go_roundw
                    case rel => exact ⟨j + 1, by omega, by go_num, by rw [AT2.out], HB2.out.trans ((Frm.refl (fun _ => False) wr).drewN _ |>.below HB2.out.size (fun _ h => h.elim))⟩
                    case measure => simp [intOf]; omega
                · have AT2 : Hid ((L.take (j + 1)).any (hitB k i) = false) := by unfold Hid; rw [AT.out, hcur]; simp only [hitB, Bool.false_or, Bool.and_eq_false_iff, decide_eq_false_iff_not]; exact .inl hp
                  have hpd : decide ((bs : Int) < (i : Int) + k) = false := decide_eq_false hp
                  clear hcur hp
                  go_wp2_with fail
                  go_quiet (fail)
                  go_wp2_with fail
                  go_roundw
                  case rel => exact ⟨j + 1, by omega, by go_num, by rw [AT2.out], HB2.out.trans ((Frm.refl (fun _ => False) wr).drewN _ |>.below HB2.out.size (fun _ h => h.elim))⟩
                  case measure => simp [intOf]; omega
            · have hT : Hid ((L.take j).any (hitB k i) = true) := by unfold Hid; rw [List.take_of_length_le (by omega)]; exact HIT.out
              go_wp2_with fail
              go_meet
              case rel => exact ⟨by rw [hT.out], HB2.out⟩
        case rest =>
          obtain ⟨w7, rfl⟩ : ∃ w7 : World, w7 = wc := ⟨_, rfl⟩
          obtain ⟨rfl, hb⟩ := hcut
          have HB3 := Troupe.hid hb
          clear hb
          go_wp2_with fail
          go_roundw
          case rel => exact ⟨i + 1, by go_num, by omega, HB3.out⟩
          case measure => simp [intOf]; omega
      · have AX := Troupe.hid (A5.out.below HB.out)
        go_wp2_with fail
        go_ret
        exact ⟨rfl, AX.out.be⟩
  · rw [htk] at A5 ⊢
    have FST := Troupe.hid hfirst
    clear htk hfirst LAW
    dsimp only at A5 ⊢
    have v1 : IntKind.i64.wrap ((M : Int) - k) = (M : Int) - k := by rw [IntKind.wrap_i64]; omega
    have v2 : IntKind.i64.wrap ((M : Int) - k + 1) = (M : Int) - k + 1 := by rw [IntKind.wrap_i64]; omega
    go_wp2_with fail
    refine (CN.out w5).mono ?_
    rintro e w6 ⟨rfl, rfl⟩
    go_wp2_with fail
    go_loopw [12] (fun v12 wr => ∃ i : Nat, v12 = .int .i64 i ∧ (i : Int) ≤ max 0 ((M : Int) - k + 1) ∧ Below w6.heap.size w6 wr) (fun v12 _ => ((M : Int) - k + 1).toNat - (intOf v12).toNat)
    case atStart => exact ⟨0, rfl, by omega, Below.refl _ _⟩
    case round =>
      obtain ⟨i, rfl, hi, hb⟩ := hrel
      have HB := Troupe.hid hb
      clear hb
      by_cases hlt : (i : Int) < ((M : Int) - k + 1)
      · have HIT := Troupe.hid (FST.out i hlt)
        have hiM : i ≤ 66000 := by omega
        go_upto_block 2 with (fail)
        go_cut [13, 14] from 51 to 83 (fun v13 _ w' => v13 = .bool true ∧ Below w6.heap.size w6 w')
        case first =>
          go_wp2_with fail
          go_loopw [13, 14] (fun v13 v14 wr => ∃ j : Nat, j ≤ L.length ∧ v14 = .int .i64 j ∧ v13 = .bool ((L.take j).any (hitB k i)) ∧ Below w6.heap.size w6 wr) (fun _ v14 _ => L.length - (intOf v14).toNat)
          case atStart => exact ⟨0, Nat.zero_le _, rfl, rfl, HB.out⟩
          case round =>
            obtain ⟨j, hj, rfl, rfl, hb⟩ := hrel
            have HB2 := Troupe.hid hb
            have C6 := Troupe.hid (C5.out.below hb)
            clear hb
            by_cases hjl : j < L.length
            · obtain ⟨x, hx⟩ : ∃ x, L[j]? = some x := ⟨_, List.getElem?_eq_getElem hjl⟩
              obtain ⟨b, off, hA, _, d0, d1⟩ := C6.out.rg hx
              subst hA
              have hmx := OK.out.mem x (List.mem_of_getElem? hx)
              have AT := Troupe.hid (any_take (hitB k i) L j x hx)
              obtain ⟨bs, ln⟩ := x
              simp only at d0 d1 hmx
              have u1 : IntKind.i64.wrap ((i : Int) + k) = (i : Int) + k := by rw [IntKind.wrap_i64]; omega
              have u2 : IntKind.i64.wrap ((bs : Int) + ln) = (bs : Int) + ln := by rw [IntKind.wrap_i64]; omega
              clear hx
              cases hcur : (L.take j).any (hitB k i) with
              | true =>
                have AT2 : Hid ((L.take (j + 1)).any (hitB k i) = true) := by unfold Hid; rw [AT.out, hcur]; rfl
                clear hcur
                go_wp2_with fail
                go_quiet (fail)
                go_wp2_with fail
                go_roundw
                case rel => exact ⟨j + 1, by omega, by go_num, by rw [AT2.out], HB2.out.trans ((Frm.refl (fun _ => False) wr).drewN _ |>.below HB2.out.size (fun _ h => h.elim))⟩
                case measure => simp [intOf]; omega
              | false =>
                by_cases hp : (bs : Int) < (i : Int) + k
                · by_cases hq : (i : Int) < (bs : Int) + ln
                  · have AT2 : Hid ((L.take (j + 1)).any (hitB k i) = true) := by unfold Hid; rw [AT.out, hcur]; simp only [hitB, Bool.false_or, Bool.and_eq_true, decide_eq_true_eq]; exact ⟨hp, hq⟩
                    have hqd : decide ((i : Int) < (bs : Int) + ln) = true := decide_eq_true hq
                    have hpd : decide ((bs : Int) < (i : Int) + k) = true := decide_eq_true hp
                    clear hcur hp hq
                    go_wp2_with fail
                    go_quiet (fail)
                    go_wp2_with fail
                    go_roundw
                    case rel => exact ⟨j + 1, by omega, by go_num, by rw [AT2.out], HB2.out.trans ((Frm.refl (fun _ => False) wr).drewN _ |>.below HB2.out.size (fun _ h => h.elim))⟩
                    case measure => simp [intOf]; omega
                  · have AT2 : Hid ((L.take (j + 1)).any (hitB k i) = false) := by unfold Hid; rw [AT.out, hcur]; simp only [hitB, Bool.false_or, Bool.and_eq_false_iff, decide_eq_false_iff_not]; exact .inr hq
                    have hqd : decide ((i : Int) < (bs : Int) + ln) = false := decide_eq_false hq
                    have hpd : decide ((bs : Int) < (i : Int) + k) = true := decide_eq_true hp
                    clear hcur hp hq
                    go_wp2_with fail
                    go_quiet (fail)
                    go_wp2_with fail
                    go_roundw
                    case rel => exact ⟨j + 1, by omega, by go_num, by rw [AT2.out], HB2.out.trans ((Frm.refl (fun _ => False) wr).drewN _ |>.below HB2.out.size (fun _ h => h.elim))⟩
                    case measure => simp [intOf]; omega
                · have AT2 : Hid ((L.take (j + 1)).any (hitB k i) = false) := by unfold Hid; rw [AT.out, hcur]; simp only [hitB, Bool.false_or, Bool.and_eq_false_iff, decide_eq_false_iff_not]; exact .inl hp
                  have hpd : decide ((bs : Int) < (i : Int) + k) = false := decide_eq_false hp
                  clear hcur hp
                  go_wp2_with fail
                  go_quiet (fail)
                  go_wp2_with fail
                  go_roundw
                  case rel => exact ⟨j + 1, by omega, by go_num, by rw [AT2.out], HB2.out.trans ((Frm.refl (fun _ => False) wr).drewN _ |>.below HB2.out.size (fun _ h => h.elim))⟩
                  case measure => simp [intOf]; omega
            · have hT : Hid ((L.take j).any (hitB k i) = true) := by unfold Hid; rw [List.take_of_length_le (by omega)]; exact HIT.out
              go_wp2_with fail
              go_meet
              case rel => exact ⟨by rw [hT.out], HB2.out⟩
        case rest =>
          obtain ⟨w7, rfl⟩ : ∃ w7 : World, w7 = wc := ⟨_, rfl⟩
          obtain ⟨rfl, hb⟩ := hcut
          have HB3 := Troupe.hid hb
          clear hb
          go_wp2_with fail
          go_roundw
          case rel => exact ⟨i + 1, by go_num, by omega, HB3.out⟩
          case measure => simp [intOf]; omega
      · have AX := Troupe.hid (A5.out.below HB.out)
        go_wp2_with fail
        refine (regions_any wr AX.out.ar).mono ?_
        rintro e w8 ⟨v8, rfl, ho8, hb⟩
        obtain ⟨A8, c8, rfl, -⟩ := own_form ho8
        have AY := Troupe.hid (AX.out.below hb)
        clear ho8 hb
        go_wp2_with fail
        go_ret
        exact ⟨rfl, AY.out.be⟩
end Go.Proofs.Ytcgdghnmcahfeaa
