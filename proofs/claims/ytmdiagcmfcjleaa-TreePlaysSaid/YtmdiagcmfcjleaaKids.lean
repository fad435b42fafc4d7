/- TreeKids: the walk (printed by genkids.py). -/
import Derived.Test.YtmdiagcmfcjleaaParent
namespace Go.Proofs.Ytmdiagcmfcjleaa
open Go.RowKit Go.Maps Go.Troupe

theorem over_step (K : List Int) (k : Nat) (h : k < K.length) : (wordsI (List.replicate k (-7) ++ K.drop k)).set k (.int .i64 (-7)) = wordsI (List.replicate (k + 1) (-7) ++ K.drop (k + 1)) := by
  have e : wordsI ((List.replicate k (-7) ++ K.drop k).set k (-7)) = (wordsI (List.replicate k (-7) ++ K.drop k)).set k (.int .i64 (-7)) := by simp [wordsI, List.map_set]
  rw [← e]
  congr 1
  rw [List.set_append_right _ _ (by simp), List.length_replicate, Nat.sub_self, List.drop_eq_getElem_cons h, List.set_cons_zero, List.replicate_succ', List.append_assoc]
  rfl
theorem over_at (K : List Int) (k : Nat) (x : Int) (h : K[k]? = some x) : (List.replicate k (-7) ++ K.drop k)[k]? = some x := by
  rw [List.getElem?_append_right (by simp), List.length_replicate, Nat.sub_self, List.getElem?_drop, Nat.add_zero]; exact h
theorem kidsA_le (M : List Mb) (id : Int) : (kidsA M id).length ≤ M.length := by
  unfold kidsA
  split
  · unfold kidsV; rw [List.length_map]; exact List.length_filter_le _ _
  · simp
theorem row_at {w w' : World} {B : Nat} {A : Option Addr} {c : Nat} {K : List Int} (h : w.ownsRow B 3 1 (.slice A K.length c) K.length (wordsI K)) (hb : Below w.heap.size w w') {i : Nat} {x : Int} (hx : K[i]? = some x) :
    ∃ b o, A = some ⟨b, o, none⟩ ∧ w'.cell? ⟨b, o + i, none⟩ = some (.int .i64 x) := by
  have hxw := wordsI_at K i x hx
  obtain ⟨b, o, hA, _, g⟩ := (own_cells (own_below h hb)).at_ (by intro e; rw [e] at hxw; simp at hxw)
  exact ⟨b, o, hA, g i _ hxw⟩
set_option maxRecDepth 100000 in
set_option maxHeartbeats 16000000 in
theorem kids_walk (Ad : Option Addr) (len cap : Nat) (s : List Opt) (par id : Int) (w : World) (hl : s.length = len) (hc : Cells w w.heap.size Ad (flatO s)) :
    Calls Try.prog 6 #[.slice Ad len cap, .int .i64 par, .int .i64 id] w fun e w' => e = .returned (.bool true) ∧ Below w.heap.size w w' := by
  have C0 := Troupe.hid hc
  clear hc
  go_enter Try.func6, Try.ntmps6
  go_wp2_with fail
  refine (alive_any w).mono ?_
  rintro e w1 ⟨rfl, hb⟩
  have B1 := Troupe.hid hb
  clear hb
  go_wp2_with fail
  refine (grown_any Ad len cap s w1 hl ((C0.out.below B1.out).mono B1.out.size)).mono ?_
  rintro e w2 ⟨p, A2, c2, ids, rfl, hg, hidE⟩
  clear hidE
  have hML := growV_len (s.take 100) []
  rw [List.length_take, List.length_nil] at hML
  generalize growV [] (s.take 100) = M at hg hML
  have hML2 : M.length ≤ 100 := by omega
  clear hML
  obtain ⟨S, hT, hS, hbe, hid0, hds⟩ := hg
  have hbw : Below w.heap.size w w2 := B1.out.trans (hbe.mono B1.out.size)
  have hidm := (own_form hid0)
  have VD := Troupe.hid hT.vd
  have hk0 := kidsA_le M par
  have T2 := Troupe.hid hT
  have K2 := Troupe.hid (kids_any par w2 hT (by omega))
  have S2 := Troupe.hid hS
  have I2 := Troupe.hid hid0
  have D2 := Troupe.hid hds
  have BW := Troupe.hid hbw
  have BE := Troupe.hid hbe
  have hq : ids.length ≤ 9223372036854775807 := by
    obtain ⟨_, _, he, h1, h2, _⟩ := hidm
    have : ids.length ≤ maxLen := Nat.le_trans h1 h2
    exact this
  clear hT hS hbe hid0 hds hbw hidm
  go_wp2_with fail
  refine K2.out.mono ?_
  rintro e w3 ⟨A3, c3, rfl, ho3, hb3⟩
  have T3 := Troupe.hid (T2.out.below hb3)
  have O3 := Troupe.hid ho3
  have I3 := Troupe.hid (own_below I2.out hb3)
  have B3 := Troupe.hid (BW.out.trans (hb3.mono BW.out.size))
  have B3' := Troupe.hid hb3
  clear ho3 hb3 K2 T2
  go_wp2_with fail
  refine (add_any par id w3 T3.out (by omega)).mono ?_
  rintro e w4 ⟨rfl, S', hT4, hg4, hf4⟩
  have TOLD := Troupe.hid (add_told VD.out par id)
  have I4 := Troupe.hid (own_frm I3.out hf4 (fun b hb hSb => D2.out b hb hSb))
  have O4 := Troupe.hid (own_frm O3.out hf4 (fun b hb hSb => by have := (S2.out b hSb).2; have := (O3.out.lt b hb).1; omega))
  have T4 := Troupe.hid hT4
  have B4 := Troupe.hid (B3.out.trans (hf4.below B3.out.size (fun k hk => by have := (S2.out k hk).1; have := B1.out.size; omega)))
  clear hT4 hg4 hf4 I3 O3
  have hk1 := kidsA_le (addV M par id).1 par
  have hM1 : (addV M par id).1.length ≤ 101 := by
    rcases TOLD.out with ⟨_, h⟩ | ⟨_, h, _⟩
    · rw [h]; omega
    · rw [h]; simp; omega
  have K4 := Troupe.hid (kids_any par w4 T4.out (by omega))
  go_wp2_with fail
  refine K4.out.mono ?_
  rintro e w5 ⟨A5, c5, rfl, ho5, hb5⟩
  have T5 := Troupe.hid (T4.out.below hb5)
  have O5 := Troupe.hid ho5
  have I5 := Troupe.hid (own_below I4.out hb5)
  have W5 := Troupe.hid (own_below O4.out hb5)
  have B5 := Troupe.hid (B4.out.trans (hb5.mono B4.out.size))
  clear ho5 hb5 K4 T4 I4 O4 B4
  obtain ⟨K0, hK0⟩ : ∃ K0, K0 = kidsA M par := ⟨_, rfl⟩
  rw [← hK0] at W5 hk0 ⊢
  have HK0 := Troupe.hid hK0
  clear hK0
  rcases TOLD.out with ⟨he, hM⟩ | ⟨he, hM, hp, hp0, hq1⟩
  · rw [hM] at O5 ⊢
    rw [← HK0.out] at O5 ⊢
    have hne : ((addV M par id).2 != 0) = true := bne_iff_ne.2 he
    generalize (addV M par id).2 = e0 at *
    clear he
    go_wp2_with fail
    go_ret
    exact ⟨by simp, B5.out⟩
  rw [hM] at O5 T5 hk1 hM1 ⊢
  rw [he]
  have hf1 : hasV (M ++ [(id, par)]) id = true := hasV_iff.2 ⟨(id, par), by simp, rfl⟩
  obtain ⟨K1, hK1⟩ : ∃ K1, K1 = kidsA (M ++ [(id, par)]) par := ⟨_, rfl⟩
  rw [← hK1] at O5 hk1 ⊢
  rw [← hK1, ← HK0.out] at hp hp0
  have HK1 := Troupe.hid hK1
  have HQ := Troupe.hid hq1
  have PRE : Hid (K0.length ≤ K1.length ∧ ∀ i, i < K0.length → K1[i]? = K0[i]?) := by
    by_cases h : par = 0
    · rw [hp0 h]; exact ⟨Nat.le_refl _, fun _ _ => rfl⟩
    · rw [hp h]
      refine ⟨by simp, fun i hi => List.getElem?_append_left hi⟩
  have HP := Troupe.hid hp
  clear hp hp0 hK1 hq1 he hM hf1
  by_cases h0 : par = 0
  · subst h0
    go_wp2_with fail
    go_loopw [12] (fun v12 wr => ∃ i : Nat, v12 = .int .i64 i ∧ i ≤ K0.length ∧ Below w5.heap.size w5 wr) (fun v12 _ => K0.length - (intOf v12).toNat)
    case atStart => exact ⟨0, rfl, Nat.zero_le _, Below.refl _ _⟩
    case round =>
      obtain ⟨i, rfl, hi, hb⟩ := hrel
      have HB := Troupe.hid hb
      clear hb
      by_cases hlt : i < K0.length
      · obtain ⟨x, hx⟩ : ∃ x, K0[i]? = some x := ⟨_, List.getElem?_eq_getElem hlt⟩
        obtain ⟨b1, o1, hA1, d1⟩ := row_at W5.out HB.out hx
        obtain ⟨b2, o2, hA2, d2⟩ := row_at O5.out HB.out ((PRE.out.2 i hlt).trans hx)
        have hlt2 : i < K1.length := by have := PRE.out.1; omega
        subst hA1
        subst hA2
        clear hx
        go_wp2_with fail
        go_quiet (fail)
        go_wp2_with fail
        go_roundw
        case rel => exact ⟨i + 1, by go_num, by omega, HB.out.trans ((Frm.refl (fun _ => False) wr).drewN _ |>.below HB.out.size (fun _ h => h.elim))⟩
        case measure => simp [intOf]; omega
      · go_wp2_with fail
        go_loopw [13, 14, 15] (fun v13 _ _ wr => ∃ i : Nat, v13 = .int .i64 i ∧ i ≤ ids.length ∧ Below w5.heap.size w5 wr) (fun v13 _ _ _ => ids.length - (intOf v13).toNat)
        case atStart => exact ⟨0, rfl, Nat.zero_le _, HB.out⟩
        case round =>
          obtain ⟨i, rfl, hi, hb⟩ := hrel
          have HB2 := Troupe.hid hb
          clear hb
          by_cases hlt : i < ids.length
          · obtain ⟨q, hqx⟩ : ∃ q, ids[i]? = some q := ⟨_, List.getElem?_eq_getElem hlt⟩
            obtain ⟨b3, o3, hA3, d3⟩ := row_at I5.out HB2.out hqx
            subst hA3
            have QX := Troupe.hid hqx
            have KQ := Troupe.hid (kids_any q wr (T5.out.below HB2.out) (by omega))
            have hkq := kidsA_le (M ++ [(id, 0)]) q
            have HQ2 := Troupe.hid (HQ.out q)
            obtain ⟨K, hK⟩ : ∃ K, K = kidsA (M ++ [(id, 0)]) q := ⟨_, rfl⟩
            rw [← hK] at KQ hkq HQ2
            clear hqx hK
            go_wp2_with fail
            refine KQ.out.mono ?_
            rintro e w6 ⟨A6, c6, rfl, ho6, hb6⟩
            have HB6 := Troupe.hid (HB2.out.trans (hb6.mono HB2.out.size))
            have hws := HB2.out.size
            obtain ⟨bs, hbs⟩ : ∃ bs, bs = wr.heap.size := ⟨_, rfl⟩
            rw [← hbs] at ho6 hws
            have O6 := Troupe.hid ho6
            clear ho6 hb6 d3 hbs
            go_wp2_with fail
            go_loopw [15] (fun v15 wr2 => ∃ k : Nat, v15 = .int .i64 k ∧ k ≤ K.length ∧ wr2.ownsRow bs 3 1 (.slice A6 K.length c6) K.length (wordsI (List.replicate k (-7) ++ K.drop k)) ∧ Below w5.heap.size w5 wr2) (fun v15 _ => K.length - (intOf v15).toNat)
            case atStart => exact ⟨0, rfl, Nat.zero_le _, by simpa using O6.out, HB6.out⟩
            case round =>
              obtain ⟨k, rfl, hk, hok, hbk⟩ := hrel
              have HBk := Troupe.hid hbk
              have OK := Troupe.hid hok
              clear hok hbk
              by_cases hkl : k < K.length
              · obtain ⟨x, hx⟩ : ∃ x, K[k]? = some x := ⟨_, List.getElem?_eq_getElem hkl⟩
                have hA6 : ∃ g, A6 = some ⟨g, 0, none⟩ := by
                  rcases own_blk OK.out with ⟨_, h0, _⟩ | ⟨g, cs, rfl, _⟩
                  · omega
                  · exact ⟨g, rfl⟩
                obtain ⟨g, rfl⟩ := hA6
                obtain ⟨e1, e2, e3, e4⟩ := own_set1 OK.out hkl (.int .i64 (-7))
                rw [wordsI_at _ _ _ (over_at K k x hx)] at e1
                rw [over_step K k hkl] at e4
                have hgb : bs ≤ g := (OK.out.lt g rfl).1
                obtain ⟨b4, o4, hA4, d4⟩ := row_at I5.out HBk.out QX.out
                obtain ⟨rfl, rfl⟩ : b3 = b4 ∧ o3 = o4 := by simpa using hA4
                have E4 := Troupe.hid e4
                have BS : Hid (Below w5.heap.size w5 (wr.setCell ⟨g, k, none⟩ (.int .i64 (-7)))) := HBk.out.setCell (by show w5.heap.size ≤ g; omega) _
                have HX : Hid (x = id → q = 0) := fun e => HQ2.out (by rw [← e]; exact List.mem_of_getElem? hx)
                clear e2 e4 hx hA4
                by_cases hxi : x = id
                · have hqp := HX.out hxi
                  subst hqp
                  subst hxi
                  go_wp2_with fail
                  go_roundw
                  case rel => exact ⟨k + 1, by go_num, by omega, E4.out, BS.out⟩
                  case measure => simp [intOf]; omega
                · have hxb : (x == id) = false := beq_eq_false_iff_ne.2 hxi
                  clear hxi
                  go_wp2_with fail
                  go_roundw
                  case rel => exact ⟨k + 1, by go_num, by omega, E4.out, BS.out⟩
                  case measure => simp [intOf]; omega
              · go_wp2_with fail
                go_roundw
                case rel => exact ⟨i + 1, by go_num, by omega, HBk.out⟩
                case measure => simp [intOf]; omega
          · have KA := Troupe.hid (kids_any 0 wr (T5.out.below HB2.out) (by omega))
            rw [← HK1.out] at KA
            go_wp2_with fail
            refine KA.out.mono ?_
            rintro e w8 ⟨A8, c8, rfl, ho8, hb8⟩
            have HB8 := Troupe.hid (HB2.out.trans (hb8.mono HB2.out.size))
            have O8 := Troupe.hid ho8
            clear ho8 hb8
            go_wp2_with fail
            go_loopw [17] (fun v17 wr => ∃ i : Nat, v17 = .int .i64 i ∧ i ≤ K1.length ∧ Below w8.heap.size w8 wr) (fun v17 _ => K1.length - (intOf v17).toNat)
            case atStart => exact ⟨0, rfl, Nat.zero_le _, Below.refl _ _⟩
            case round =>
              obtain ⟨i, rfl, hi, hb⟩ := hrel
              have HB9 := Troupe.hid hb
              have HB9' := Troupe.hid (HB8.out.trans (hb.mono HB8.out.size))
              clear hb
              by_cases hlt : i < K1.length
              · obtain ⟨x, hx⟩ : ∃ x, K1[i]? = some x := ⟨_, List.getElem?_eq_getElem hlt⟩
                obtain ⟨b1, o1, hA1, d1⟩ := row_at O5.out HB9'.out hx
                obtain ⟨b2, o2, hA2, d2⟩ := row_at O8.out HB9.out hx
                subst hA1
                subst hA2
                clear hx
                go_wp2_with fail
                go_quiet (fail)
                go_wp2_with fail
                go_roundw
                case rel => exact ⟨i + 1, by go_num, by omega, HB9.out.trans ((Frm.refl (fun _ => False) wr).drewN _ |>.below HB9.out.size (fun _ h => h.elim))⟩
                case measure => simp [intOf]; omega
              · have PA := Troupe.hid (parent_any (id, 0) wr (T5.out.below HB9'.out) (by simp))
                go_wp2_with fail
                refine PA.out.mono ?_
                rintro e wz ⟨rfl, rfl⟩
                go_wp2_with fail
                go_ret
                exact ⟨by simp, B5.out.trans (HB9'.out.mono B5.out.size)⟩
  · have e1 := HP.out h0
    have hpn : (par != 0) = true := bne_iff_ne.2 h0
    have el : K1.length = K0.length + 1 := by rw [e1]; simp
    have hlast : K1[K0.length]? = some id := by rw [e1]; simp
    obtain ⟨bl, ol, hAl, dl⟩ := row_at O5.out (Below.refl _ _) hlast
    subst hAl
    have el2 : ((K1.length : Int) != (K0.length : Int) + 1) = false := by rw [el]; simp
    have el3 : K0.length < K1.length := by omega
    clear e1 h0 hlast el
    go_wp2_with fail
    go_loopw [12] (fun v12 wr => ∃ i : Nat, v12 = .int .i64 i ∧ i ≤ K0.length ∧ Below w5.heap.size w5 wr) (fun v12 _ => K0.length - (intOf v12).toNat)
    case atStart => exact ⟨0, rfl, Nat.zero_le _, Below.refl _ _⟩
    case round =>
      obtain ⟨i, rfl, hi, hb⟩ := hrel
      have HB := Troupe.hid hb
      clear hb
      by_cases hlt : i < K0.length
      · obtain ⟨x, hx⟩ : ∃ x, K0[i]? = some x := ⟨_, List.getElem?_eq_getElem hlt⟩
        obtain ⟨b1, o1, hA1, d1⟩ := row_at W5.out HB.out hx
        obtain ⟨b2, o2, hA2, d2⟩ := row_at O5.out HB.out ((PRE.out.2 i hlt).trans hx)
        have hlt2 : i < K1.length := by have := PRE.out.1; omega
        subst hA1
        obtain ⟨rfl, rfl⟩ : bl = b2 ∧ ol = o2 := by simpa using hA2
        clear hA2
        clear hx
        go_wp2_with fail
        go_quiet (fail)
        go_wp2_with fail
        go_roundw
        case rel => exact ⟨i + 1, by go_num, by omega, HB.out.trans ((Frm.refl (fun _ => False) wr).drewN _ |>.below HB.out.size (fun _ h => h.elim))⟩
        case measure => simp [intOf]; omega
      · go_wp2_with fail
        go_loopw [13, 14, 15] (fun v13 _ _ wr => ∃ i : Nat, v13 = .int .i64 i ∧ i ≤ ids.length ∧ Below w5.heap.size w5 wr) (fun v13 _ _ _ => ids.length - (intOf v13).toNat)
        case atStart => exact ⟨0, rfl, Nat.zero_le _, HB.out⟩
        case round =>
          obtain ⟨i, rfl, hi, hb⟩ := hrel
          have HB2 := Troupe.hid hb
          clear hb
          by_cases hlt : i < ids.length
          · obtain ⟨q, hqx⟩ : ∃ q, ids[i]? = some q := ⟨_, List.getElem?_eq_getElem hlt⟩
            obtain ⟨b3, o3, hA3, d3⟩ := row_at I5.out HB2.out hqx
            subst hA3
            have QX := Troupe.hid hqx
            have KQ := Troupe.hid (kids_any q wr (T5.out.below HB2.out) (by omega))
            have hkq := kidsA_le (M ++ [(id, par)]) q
            have HQ2 := Troupe.hid (HQ.out q)
            obtain ⟨K, hK⟩ : ∃ K, K = kidsA (M ++ [(id, par)]) q := ⟨_, rfl⟩
            rw [← hK] at KQ hkq HQ2
            clear hqx hK
            go_wp2_with fail
            refine KQ.out.mono ?_
            rintro e w6 ⟨A6, c6, rfl, ho6, hb6⟩
            have HB6 := Troupe.hid (HB2.out.trans (hb6.mono HB2.out.size))
            have hws := HB2.out.size
            obtain ⟨bs, hbs⟩ : ∃ bs, bs = wr.heap.size := ⟨_, rfl⟩
            rw [← hbs] at ho6 hws
            have O6 := Troupe.hid ho6
            clear ho6 hb6 d3 hbs
            go_wp2_with fail
            go_loopw [15] (fun v15 wr2 => ∃ k : Nat, v15 = .int .i64 k ∧ k ≤ K.length ∧ wr2.ownsRow bs 3 1 (.slice A6 K.length c6) K.length (wordsI (List.replicate k (-7) ++ K.drop k)) ∧ Below w5.heap.size w5 wr2) (fun v15 _ => K.length - (intOf v15).toNat)
            case atStart => exact ⟨0, rfl, Nat.zero_le _, by simpa using O6.out, HB6.out⟩
            case round =>
              obtain ⟨k, rfl, hk, hok, hbk⟩ := hrel
              have HBk := Troupe.hid hbk
              have OK := Troupe.hid hok
              clear hok hbk
              by_cases hkl : k < K.length
              · obtain ⟨x, hx⟩ : ∃ x, K[k]? = some x := ⟨_, List.getElem?_eq_getElem hkl⟩
                have hA6 : ∃ g, A6 = some ⟨g, 0, none⟩ := by
                  rcases own_blk OK.out with ⟨_, h0, _⟩ | ⟨g, cs, rfl, _⟩
                  · omega
                  · exact ⟨g, rfl⟩
                obtain ⟨g, rfl⟩ := hA6
                obtain ⟨e1, e2, e3, e4⟩ := own_set1 OK.out hkl (.int .i64 (-7))
                rw [wordsI_at _ _ _ (over_at K k x hx)] at e1
                rw [over_step K k hkl] at e4
                have hgb : bs ≤ g := (OK.out.lt g rfl).1
                obtain ⟨b4, o4, hA4, d4⟩ := row_at I5.out HBk.out QX.out
                obtain ⟨rfl, rfl⟩ : b3 = b4 ∧ o3 = o4 := by simpa using hA4
                have E4 := Troupe.hid e4
                have BS : Hid (Below w5.heap.size w5 (wr.setCell ⟨g, k, none⟩ (.int .i64 (-7)))) := HBk.out.setCell (by show w5.heap.size ≤ g; omega) _
                have HX : Hid (x = id → q = par) := fun e => HQ2.out (by rw [← e]; exact List.mem_of_getElem? hx)
                clear e2 e4 hx hA4
                by_cases hxi : x = id
                · have hqp := HX.out hxi
                  subst hqp
                  subst hxi
                  go_wp2_with fail
                  go_roundw
                  case rel => exact ⟨k + 1, by go_num, by omega, E4.out, BS.out⟩
                  case measure => simp [intOf]; omega
                · have hxb : (x == id) = false := beq_eq_false_iff_ne.2 hxi
                  clear hxi
                  go_wp2_with fail
                  go_roundw
                  case rel => exact ⟨k + 1, by go_num, by omega, E4.out, BS.out⟩
                  case measure => simp [intOf]; omega
              · go_wp2_with fail
                go_roundw
                case rel => exact ⟨i + 1, by go_num, by omega, HBk.out⟩
                case measure => simp [intOf]; omega
          · have KA := Troupe.hid (kids_any par wr (T5.out.below HB2.out) (by omega))
            rw [← HK1.out] at KA
            go_wp2_with fail
            refine KA.out.mono ?_
            rintro e w8 ⟨A8, c8, rfl, ho8, hb8⟩
            have HB8 := Troupe.hid (HB2.out.trans (hb8.mono HB2.out.size))
            have O8 := Troupe.hid ho8
            clear ho8 hb8
            go_wp2_with fail
            go_loopw [17] (fun v17 wr => ∃ i : Nat, v17 = .int .i64 i ∧ i ≤ K1.length ∧ Below w8.heap.size w8 wr) (fun v17 _ => K1.length - (intOf v17).toNat)
            case atStart => exact ⟨0, rfl, Nat.zero_le _, Below.refl _ _⟩
            case round =>
              obtain ⟨i, rfl, hi, hb⟩ := hrel
              have HB9 := Troupe.hid hb
              have HB9' := Troupe.hid (HB8.out.trans (hb.mono HB8.out.size))
              clear hb
              by_cases hlt : i < K1.length
              · obtain ⟨x, hx⟩ : ∃ x, K1[i]? = some x := ⟨_, List.getElem?_eq_getElem hlt⟩
                obtain ⟨b1, o1, hA1, d1⟩ := row_at O5.out HB9'.out hx
                obtain ⟨b2, o2, hA2, d2⟩ := row_at O8.out HB9.out hx
                obtain ⟨rfl, rfl⟩ : bl = b1 ∧ ol = o1 := by simpa using hA1
                clear hA1
                subst hA2
                clear hx
                go_wp2_with fail
                go_quiet (fail)
                go_wp2_with fail
                go_roundw
                case rel => exact ⟨i + 1, by go_num, by omega, HB9.out.trans ((Frm.refl (fun _ => False) wr).drewN _ |>.below HB9.out.size (fun _ h => h.elim))⟩
                case measure => simp [intOf]; omega
              · have PA := Troupe.hid (parent_any (id, par) wr (T5.out.below HB9'.out) (by simp))
                go_wp2_with fail
                refine PA.out.mono ?_
                rintro e wz ⟨rfl, rfl⟩
                go_wp2_with fail
                go_ret
                exact ⟨by simp, B5.out.trans (HB9'.out.mono B5.out.size)⟩
end Go.Proofs.Ytmdiagcmfcjleaa
