/- DeadKept: the walk. -/
import Derived.Test.YtdggmmdimebljaaPlain
import Derived.Deep.CutRange
import Derived.Deep.CutBlock
namespace Go.Proofs.Ytdggmmdimebljaa
open Go.RowKit Go.Maps Go.Troupe

set_option maxRecDepth 100000 in
set_option maxHeartbeats 1600000 in
theorem kept_walk (k : Int) (A : Option Addr) (n cap : Nat) (L : List Let) (w0 : World) (hL : L.length = n) (hc : Cells w0 w0.heap.size A (flat L)) :
    Calls Try.prog 6 #[.int .i64 k, .slice A n cap] w0 fun e w' => e = .returned (.bool true) ∧ Below w0.heap.size w0 w' := by
  have HC := Troupe.hid hc
  clear hc
  go_enter Try.func6, Try.ntmps6
  go_wp2_with fail
  refine (alive_any w0).mono ?_
  rintro e w1 ⟨rfl, hb1⟩
  have B1 := Troupe.hid hb1
  clear hb1
  go_wp2_with fail
  refine (new_holds k w1).mono ?_
  rintro e w2 ⟨p, m, r, rfl, hp, hm, hr, hh, hb2⟩
  have B2 := Troupe.hid (B1.out.trans (hb2.mono B1.out.size))
  have H2 := Troupe.hid hh
  have P2 := Troupe.hid (⟨Nat.le_trans B1.out.size hp, Nat.le_trans B1.out.size hm, Nat.le_trans B1.out.size hr⟩ : w0.heap.size ≤ p ∧ w0.heap.size ≤ m ∧ w0.heap.size ≤ r)
  clear hb2 hh hp hm hr
  go_upto_block 0 with (fail)
  go_cut [6] from 16 to 42 (fun _ w' => ∃ j : Nat, j ≤ 1000 ∧ Holds w' p m r (keptN k) (puts L j) ∧ Below w0.heap.size w0 w')
  case first =>
    go_wp2_with fail
    go_loopw [6] (fun i wr => ∃ j : Nat, j ≤ n ∧ j ≤ 1000 ∧ i = .int .i64 j ∧ Holds wr p m r (keptN k) (puts L j) ∧ Below w0.heap.size w0 wr) (fun i _ => n - (intOf i).toNat)
    case atStart => exact ⟨0, Nat.zero_le _, Nat.zero_le _, rfl, H2.out, B2.out⟩
    case round =>
      obtain ⟨j, hj, hj2, rfl, hh, hb⟩ := hrel
      have hpl := puts_le L j
      by_cases hlt : j < n ∧ j < 1000
      · obtain ⟨hlt, h2⟩ := hlt
        obtain ⟨x, hx⟩ : ∃ x, L[j]? = some x := ⟨_, List.getElem?_eq_getElem (by omega)⟩
        obtain ⟨b, off, rfl, _, _⟩ := HC.out.at_ (flat_ne hx)
        have HH := Troupe.hid hh
        have HB := Troupe.hid hb
        clear hh hb
        go_wp2_with fail
        refine region_still_tail 16 (by kernel_rfl) (by kernel_rfl) ?_
        intro w3 hh3 hf3
        obtain ⟨b1, off1, e1, hb1, h1⟩ := ((HC.out.below HB.out).heap hh3).at_ (flat_ne hx)
        cases e1
        obtain ⟨c0, c1, c2⟩ := let_at h1 hx
        have H3 := Troupe.hid (HH.out.heap hf3)
        have B3 := Troupe.hid (HB.out.trans (hf3.below (B := w0.heap.size) HB.out.size (by simp)))
        have X := Troupe.hid hx
        clear h1 hx hh3 hf3
        simp only [List.take_succ_cons, List.take_zero, List.drop_succ_cons, List.drop_zero]
        repeat still_step
        refine wpStill_nil ?_
        go_wp2_with fail
        by_cases hr : rightB x.why = true
        · refine (put_holds x w3 H3.out hr (by omega)).mono ?_
          rintro e w4 ⟨rfl, hh4, hf4⟩
          have H4 := Troupe.hid hh4
          have B4 := Troupe.hid (B3.out.trans (hf4.below (B := w0.heap.size) B3.out.size (by have := P2.out; intro k hk; omega)))
          have PY := Troupe.hid (puts_yes X.out hr)
          clear hh4 hf4
          go_wp2_with fail
          go_roundw
          case rel => exact ⟨j + 1, by omega, by omega, by go_num, by rw [PY.out]; exact H4.out, B4.out⟩
          case measure => simp [intOf]; omega
        · have hr' : rightB x.why = false := by simpa using hr
          refine (put_wrong (p := p) x w3 hr').mono ?_
          rintro e w4 ⟨rfl, rfl⟩
          have PY := Troupe.hid (puts_no X.out hr')
          clear hr
          go_wp2_with fail
          go_roundw
          case rel => exact ⟨j + 1, by omega, by omega, by go_num, by rw [PY.out]; exact H3.out, B3.out⟩
          case measure => simp [intOf]; omega
      · have hex : ¬ (j : Int) < n ∨ ¬ (j : Int) < 1000 := by omega
        go_wp2_with fail
        all_goals
          go_meet
          case rel => exact ⟨j, hj2, hh, hb⟩
  case rest =>
    obtain ⟨j, hj2, hh, hb⟩ := hcut
    have hpl := puts_le L j
    have HH := Troupe.hid hh
    have HB := Troupe.hid hb
    clear hh hb
    obtain ⟨wA, rfl⟩ : ∃ wA : World, wA = wc := ⟨_, rfl⟩
    go_wp2_with fail
    refine (recent_holds _ HH.out).mono ?_
    rintro e w3 ⟨va, rfl, howna, hba⟩
    have hlt := HH.out.lt
    have fa := Frm.of_below hba
    have H3 := Troupe.hid (HH.out.frm fa (by omega) (by omega) (by omega))
    have B3 := Troupe.hid (HB.out.trans (hba.mono HB.out.size))
    have hza := hba.size
    obtain ⟨Aa, capa, rfl, _, _, _, _, _⟩ := own_form howna
    go_wp2_with fail
    refine (recent_holds _ H3.out).mono ?_
    rintro e w4 ⟨vb, rfl, hownb, hbb⟩
    have hlt3 := H3.out.lt
    have fb := Frm.of_below hbb
    have H4 := Troupe.hid (H3.out.frm fb (by omega) (by omega) (by omega))
    have B4 := Troupe.hid (B3.out.trans (hbb.mono B3.out.size))
    obtain ⟨Ab, capb, rfl, _, _, _, _, _⟩ := own_form hownb
    have oa := own_frm howna fb (by have h := howna.lt; intro k hk; have := h k hk; omega)
    obtain ⟨q, hq⟩ : ∃ q, q = min (puts L j).length (keptN k) := ⟨_, rfl⟩
    obtain ⟨ys, hys⟩ : ∃ ys, ys = (puts L j).drop ((puts L j).length - keptN k) := ⟨_, rfl⟩
    have hyq : ys.length = q := by rw [hys, hq, List.length_drop]; omega
    have hq1 : q ≤ 1000 := by omega
    rw [← hq, ← hys] at oa hownb
    rw [← hq]
    have OB := Troupe.hid hownb
    have OA := Troupe.hid oa
    have YQ := Troupe.hid hyq
    have P4 : Hid (∀ g, (Value.slice Aa q capa).ownBlock = some g → g ≠ p ∧ g ≠ m ∧ g ≠ r ∧ w0.heap.size ≤ g ∧ g < w3.heap.size) := by
      intro g hg
      have h := howna.lt g (by rw [← hg, hq])
      have := HB.out.size
      omega
    have PB : Hid (∀ g, (Value.slice Ab q capb).ownBlock = some g → w3.heap.size ≤ g ∧ g < w4.heap.size) := fun g hg => hownb.lt g hg
    have QQ := Troupe.hid hq
    have YS := Troupe.hid hys
    have ZA := Troupe.hid (⟨hza, hbb.size⟩ : wA.heap.size ≤ w3.heap.size ∧ w3.heap.size ≤ w4.heap.size)
    clear hownb oa hyq hq hys fa fb hba hbb howna hlt hlt3 hza
    go_upto_block 2 with (fail)
    go_cut [9] from 47 to 56 (fun _ w' => (∃ xs, w'.ownsRow wA.heap.size 29 3 (.slice Aa q capa) q xs) ∧ Frm (fun k => (Value.slice Aa q capa).ownBlock = some k) w4 w')
    case first =>
      go_wp2_with fail
      go_loopw [9] (fun i wr => (∃ t : Nat, t ≤ q ∧ i = .int .i64 t) ∧ (∃ xs, wr.ownsRow wA.heap.size 29 3 (.slice Aa q capa) q xs) ∧ Frm (fun k => (Value.slice Aa q capa).ownBlock = some k) w4 wr) (fun i _ => q - (intOf i).toNat)
      case atStart => exact ⟨⟨0, Nat.zero_le _, rfl⟩, ⟨_, OA.out⟩, Frm.refl _ _⟩
      case round =>
        obtain ⟨⟨t, ht, rfl⟩, ⟨xs, hx⟩, hf⟩ := hrel
        by_cases htq : t < q
        · rcases own_blk hx with ⟨_, h0, _⟩ | ⟨g, cs, rfl, hbk, hcl, hbg, hqc, hcm, _⟩
          · omega
          · have BK := Troupe.hid hbk
            have F := Troupe.hid hf
            have CL := Troupe.hid hcl
            obtain ⟨z0, hz0⟩ : ∃ z, cs[t * 3]? = some z := ⟨_, List.getElem?_eq_getElem (by omega)⟩
            obtain ⟨z1, hz1⟩ : ∃ z, cs[t * 3 + 1]? = some z := ⟨_, List.getElem?_eq_getElem (by omega)⟩
            obtain ⟨z2, hz2⟩ : ∃ z, cs[t * 3 + 2]? = some z := ⟨_, List.getElem?_eq_getElem (by omega)⟩
            have e0 := (hbk.cell _).trans hz0
            have e1 := (hbk.cell _).trans hz1
            have e2 := (hbk.cell _).trans hz2
            have fr := hbk.frozen
            clear hx hbk hf hz0 hz1 hz2 hcl
            go_wp2_with fail
            go_roundw
            case rel =>
              refine ⟨⟨t + 1, by omega, by go_num⟩, ⟨_, blk_own (((BK.out.set_ (t * 3) _).set_ (t * 3 + 1) _).set_ (t * 3 + 2) _) (by simp only [List.length_set]; exact CL.out) hbg hqc hcm⟩, ?_⟩
              exact (((F.out.and_then (Frm.one _ ⟨g, t * 3, none⟩ _)).and_then (Frm.one _ ⟨g, t * 3 + 1, none⟩ _)).and_then (Frm.one _ ⟨g, t * 3 + 2, none⟩ _)).mono (fun k _ hk => by simpa [Value.ownBlock, eq_comm] using hk)
            case measure => simp [intOf]; omega
        · go_wp2_with fail
          go_meet
          case rel => exact ⟨⟨xs, hx⟩, hf⟩
    case rest =>
      obtain ⟨w5, rfl⟩ : ∃ w5 : World, w5 = wc := ⟨_, rfl⟩
      obtain ⟨⟨xs, ho5⟩, hf5⟩ := hcut
      have O5 := Troupe.hid ho5
      have F5 := Troupe.hid hf5
      clear ho5 hf5
      go_upto_region 13 with (fail)
      go_cut [7] from 57 to 60 (fun v7 w' => (∃ A' cap', v7 = .slice A' (q + 1) cap') ∧ Frm (fun k => (Value.slice Aa q capa).ownBlock = some k) w4 w')
      case first =>
        have hz5 : wA.heap.size ≤ w5.heap.size := Nat.le_trans ZA.out.1 (Nat.le_trans ZA.out.2 F5.out.size)
        have hblk := Blk.new w5 29 [.int .u64 4, .int .i64 0, .int .i64 0]
        have hc1 : Cells (w5.alloc (.cells #[.int .u64 4, .int .i64 0, .int .i64 0] 29)) (w5.heap.size + 1) (some ⟨w5.heap.size, 0, none⟩) [.int .u64 4, .int .i64 0, .int .i64 0] := Cells.blk (n := 3) hblk (by omega)
        have C1 := Troupe.hid hc1
        clear hc1 hblk
        go_wp2_with (at_builtin; refine wpList_app rfl (.tmp 57) (.tmp 59) 22 rfl wA.heap.size 29 info29 Try.underlying22 rfl (by decide) (.slice Aa q capa) q xs rfl (O5.out.alloc _) (w5.heap.size + 1) _ 1 1 _ rfl rfl C1.out (fun h => by cases h) (by simp [Value.oneCell']) (by omega) (by unfold maxLen; omega) (by simp; omega) ?_; intro v6 w6 h6; have H6 := Troupe.hid h6; clear h6)
        go_meet
        case rel =>
          obtain ⟨A', cap', e, _⟩ := own_form H6.out.own
          exact ⟨⟨A', cap', e⟩, ((F5.out.alloc _).and_then H6.out.frm).mono (fun k _ hk => by simpa using hk)⟩
      case rest =>
        obtain ⟨w7, rfl⟩ : ∃ w7 : World, w7 = wc := ⟨_, rfl⟩
        obtain ⟨⟨A', cap', rfl⟩, hf7⟩ := hcut
        have h7 := H4.out.frm hf7 (fun h => by have := P4.out _ h; omega) (fun h => by have := P4.out _ h; omega) (fun h => by have := P4.out _ h; omega)
        have hb7 : Below w0.heap.size w4 w7 := hf7.below B4.out.size (fun k hk => (P4.out k hk).2.2.2.1)
        have ob7 := own_frm OB.out hf7 (fun g hg hS => by have := PB.out g hg; have := P4.out g hS; omega)
        have H7 := Troupe.hid h7
        have B7 := Troupe.hid (B4.out.trans hb7)
        have OB7 := Troupe.hid ob7
        have hz7 := hf7.size
        clear h7 hb7 ob7 hf7
        go_wp2_with fail
        refine (recent_holds _ H7.out).mono ?_
        rintro e w8 ⟨vc, rfl, hownc, hbc⟩
        obtain ⟨Ac, capc, rfl, _, _, hcc, _, _⟩ := own_form hownc
        have ob8 := own_frm OB7.out (Frm.of_below hbc) (fun g hg hS => by have := PB.out g hg; omega)
        obtain ⟨Ab', capb', e, _, _, hcb, _, _⟩ := own_form ob8
        cases e
        have B8 := Troupe.hid (B7.out.trans (hbc.mono B7.out.size))
        rw [← QQ.out] at *
        rw [← YS.out] at hcc
        have CC := Troupe.hid hcc
        have CB := Troupe.hid hcb
        clear hownc hbc ob8 hcc hcb
        go_wp2_with fail
        go_loopw [11] (fun i wr => ∃ t : Nat, t ≤ q ∧ i = .int .i64 t ∧ Frm (fun _ => False) w8 wr ∧ wr.heap = w8.heap) (fun i _ => q - (intOf i).toNat)
        case atStart => exact ⟨0, Nat.zero_le _, rfl, Frm.refl _ _, rfl⟩
        case round =>
          obtain ⟨t, ht, rfl, hf, hh⟩ := hrel
          by_cases hlt : t < q
          · obtain ⟨x, hx⟩ : ∃ x, ys[t]? = some x := ⟨_, List.getElem?_eq_getElem (by rw [YQ.out]; exact hlt)⟩
            obtain ⟨b, off, rfl, _, _⟩ := CB.out.at_ (flat_ne hx)
            obtain ⟨b', off', rfl, _, _⟩ := CC.out.at_ (flat_ne hx)
            go_wp2_with fail
            refine region_still (by kernel_rfl) (by kernel_rfl) ?_
            intro w9 hh9 hf9
            have K9 := hh9.trans hh
            obtain ⟨b1, off1, e1, _, h1⟩ := (CB.out.heap K9).at_ (flat_ne hx)
            obtain ⟨b2, off2, e2, _, h2⟩ := (CC.out.heap K9).at_ (flat_ne hx)
            cases e1; cases e2
            obtain ⟨c0, c1, c2⟩ := let_at h1 hx
            obtain ⟨d0, d1, d2⟩ := let_at h2 hx
            have F9 := Troupe.hid (hf.trans (S := fun _ => False) hf9 (fun _ _ h => h))
            have K9 := Troupe.hid K9
            clear h1 h2 hx hh9 hf9 hf hh
            repeat still_step
            refine wpStill_nil ?_
            go_wp2_with fail
            go_roundw
            case rel => exact ⟨t + 1, by omega, by go_num, F9.out, K9.out⟩
            case measure => simp [intOf]; omega
          · have hb9 : Below w0.heap.size w0 wr := B8.out.trans (hf.below B8.out.size (by simp))
            have B9 := Troupe.hid hb9
            clear hf hh hb9
            go_wp2_with fail
            go_ret
            exact ⟨rfl, B9.out⟩
end Go.Proofs.Ytdggmmdimebljaa
