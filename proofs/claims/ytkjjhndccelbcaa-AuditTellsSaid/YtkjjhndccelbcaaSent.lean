/- The rule of sending, by contract. -/
import Derived.Test.YtkjjhndccelbcaaEnd
import Derived.Test.YtkjjhndccelbcaaGrow
namespace Go.Proofs.Ytkjjhndccelbcaa
open Go.RowKit Go.Maps Go.Troupe
attribute [local go_sem] reads readAt readUpon Cls quietU

theorem frm_belowS {S : Nat → Prop} {w w' : World} (h : Below w.heap.size w w') : Frm S w w' := ⟨h.os, h.tape, h.output, h.size, fun k hk _ => h.block k hk⟩
theorem own_ge {w : World} {base n size : Nat} {e : TypeId} {v : Value} {xs : List Value} {b : Nat} (h : w.ownsRow base e size v n xs) (hb : v.ownBlock = some b) : base ≤ b := by
  obtain ⟨A, cap, rfl, -⟩ := own_form h
  rcases own_blk h with ⟨rfl, -⟩ | ⟨g, cs, rfl, -, -, h1, -⟩
  · simp [Value.ownBlock] at hb
  · simp [Value.ownBlock] at hb
    subst hb
    exact h1
theorem info82 : (Try.prog.info? 82).map (fun i => (i.zero, i.size, i.bytes)) = some (some (.pointer none), 1, 8) := by kernel_rfl
theorem sGone_list : sGone.toList = [103, 111, 110, 101] := by kernel_rfl
set_option maxRecDepth 100000 in
set_option maxHeartbeats 8000000 in
theorem sent_any {w : World} {base gb ca cl : Nat} {pv : Value} {Aa Al : Option Addr} {bk : Bk} {ag lg : List Nat} (h : BookAt w base gb pv Aa ca Al cl bk ag lg) (hw : base ≤ w.heap.size) (e : Ev) (hl : bk.acs.length ≤ 140737488355328) (hll : bk.lts.length ≤ 14073748835532) (hid : 0 ≤ e.id ∧ e.id < 18446744073709551616) :
    Calls Try.prog 17 #[.pointer (some ⟨gb, 0, none⟩), .agg e.cells.toArray] w (Ruled w base gb pv (sentV bk e)) := by
  have F0 : Below w.heap.size w (w.alloc (.cells #[.int .i64 e.kd, .int .i64 e.actor, .int .u64 e.id, .int .i64 e.src, .int .i64 e.dst, .string e.name, .int .i64 e.n, .int .i64 e.why, .bool e.timed] 32)) := (Below.refl _ _).alloc (Nat.le_refl _) _
  have K0 : Blk (w.alloc (.cells #[.int .i64 e.kd, .int .i64 e.actor, .int .u64 e.id, .int .i64 e.src, .int .i64 e.dst, .string e.name, .int .i64 e.n, .int .i64 e.why, .bool e.timed] 32)) w.heap.size 32 e.cells := Blk.new _ _ _
  have H0 := Troupe.hid (h.below F0)
  have HF := Troupe.hid F0
  have HK := Troupe.hid K0
  have hz := F0.size
  have e0 := K0.cell
  have AC := Troupe.hid (actor_any (h.below F0) e.src hl)
  have WK := Troupe.hid (works_any (h.below F0) e.src)
  obtain ⟨wk, hwk⟩ : ∃ b, worksV (acV bk.acs e.src) = b := ⟨_, rfl⟩
  rw [hwk] at WK
  have HWK := Troupe.hid hwk
  dsimp only [Ev.cells] at e0 ⊢
  clear h F0 K0 hwk
  go_enter Try.func17, Try.ntmps17
  go_wp2_with fail
  generalize w.alloc (.cells #[.int .i64 e.kd, .int .i64 e.actor, .int .u64 e.id, .int .i64 e.src, .int .i64 e.dst, .string e.name, .int .i64 e.n, .int .i64 e.why, .bool e.timed] 32) = w0 at *
  refine AC.out.mono ?_
  rintro en w1 ⟨rfl, rfl⟩
  clear AC
  obtain ⟨kd, actor, id', src, dst, name, n, why, timed⟩ := e
  dsimp only at *
  go_upto_region 2 with (fail)
  go_cut [6] from 14 to 21 (fun v6 w' => v6 = .bool (decide (src < 0) && !timed) ∧ w' = w0)
  case first =>
    by_cases hs : src < 0
    · cases timed with
      | true =>
        go_wp2_with fail
        go_meet
        case rel => exact ⟨by simp, rfl⟩
      | false =>
        go_wp2_with fail
        go_meet
        case rel => exact ⟨by simp [hs], rfl⟩
    · have HS := Troupe.hid hs
      go_wp2_with fail
      go_meet
      case rel => exact ⟨by have h1 : decide (src < 0) = false := decide_eq_false (by have := HS.out; omega); rw [h1]; rfl, rfl⟩
  case rest =>
  obtain ⟨rfl, hwc⟩ := hcut
  obtain ⟨w1, rfl⟩ : ∃ w1 : World, w1 = wc := ⟨_, rfl⟩
  obtain rfl := hwc.symm
  obtain ⟨hand, hhand⟩ : ∃ b, (decide (src < 0) && !timed) = b := ⟨_, rfl⟩
  rw [hhand]
  have HHAND := Troupe.hid hhand
  clear hhand
  go_step
  go_step
  go_cut [7] from 22 to 35 (fun v7 w' => v7 = .bool (wk && (!timed || dst == src)) ∧ w' = w0)
  case first =>
    go_wp2_with fail
    refine WK.out.mono ?_
    rintro en w1 ⟨rfl, rfl⟩
    cases wk with
    | false =>
      go_wp2_with fail
      go_meet
      case rel => exact ⟨by simp, rfl⟩
    | true =>
      cases timed with
      | false =>
        go_wp2_with fail
        go_meet
        case rel => exact ⟨by simp, rfl⟩
      | true =>
        go_wp2_with fail
        go_meet
        case rel => exact ⟨by simp, rfl⟩
  case rest =>
  obtain ⟨rfl, hwc⟩ := hcut
  obtain ⟨w2, rfl⟩ : ∃ w2 : World, w2 = wc := ⟨_, rfl⟩
  obtain rfl := hwc.symm
  obtain ⟨own, hown⟩ : ∃ b, (wk && (!timed || dst == src)) = b := ⟨_, rfl⟩
  rw [hown]
  have HOWN := Troupe.hid hown
  clear hown WK
  go_step
  go_step
  obtain ⟨isb, hisb⟩ : ∃ b, isV (acV bk.acs src) [5] = b := ⟨_, rfl⟩
  have HISB := Troupe.hid hisb
  clear hisb
  go_cut [8] from 36 to 53 (fun v8 w' => v8 = .bool (isb && (name.toList == sGone.toList) && (n == 0) && !timed) ∧ Below w0.heap.size w0 w')
  case first =>
    have FX : Below w0.heap.size w0 (w0.alloc (.cells #[.int .i64 5] 3)) := (Below.refl _ _).alloc (Nat.le_refl _) _
    have IS := Troupe.hid (is_any (H0.out.below FX) src (some ⟨w0.heap.size, 0, none⟩) 1 1 [5] rfl (by unfold maxLen; omega) ((Blk.new w0 3 [.int .i64 5]).blk_cells.mono (by simp)))
    rw [HISB.out] at IS
    have e1 := (HK.out.below FX HK.out.lt).cell
    dsimp only [Ev.cells] at e1
    have HFX := Troupe.hid FX
    clear FX e0
    go_wp2_with fail
    generalize w0.alloc (.cells #[.int .i64 5] 3) = wx at *
    refine IS.out.mono ?_
    rintro en w1 ⟨rfl, rfl⟩
    clear IS
    cases isb with
    | false =>
      go_wp2_with fail
      go_meet
      case rel => exact ⟨by simp, HFX.out⟩
    | true =>
      obtain ⟨b1, hb1⟩ : ∃ b, (name.toList == [103, 111, 110, 101]) = b := ⟨_, rfl⟩
      have HB1 : Hid ((name.toList == sGone.toList) = b1) := by unfold Hid; rw [sGone_list]; exact hb1
      cases b1 with
      | false =>
        go_wp2_with fail
        go_meet
        case rel => exact ⟨by rw [HB1.out]; rfl, HFX.out⟩
      | true =>
        obtain ⟨bn, hbn⟩ : ∃ b, (n == 0) = b := ⟨_, rfl⟩
        have HBN := Troupe.hid hbn
        cases bn with
        | false =>
          go_wp2_with fail
          go_meet
          case rel => exact ⟨by rw [HB1.out, HBN.out]; rfl, HFX.out⟩
        | true =>
          go_wp2_with fail
          go_meet
          case rel => exact ⟨by rw [HB1.out, HBN.out]; rfl, HFX.out⟩
  case rest =>
  obtain ⟨rfl, hwc⟩ := hcut
  obtain ⟨w3, rfl⟩ : ∃ w3 : World, w3 = wc := ⟨_, rfl⟩
  obtain ⟨notice, hno⟩ : ∃ b, (isb && (name.toList == sGone.toList) && (n == 0) && !timed) = b := ⟨_, rfl⟩
  rw [hno]
  have HNO := Troupe.hid hno
  have H3 := Troupe.hid (H0.out.below hwc)
  have K3 := Troupe.hid (HK.out.below hwc HK.out.lt)
  have B3 := Troupe.hid (HF.out.trans (hwc.mono hz))
  have hz3 : w.heap.size ≤ w3.heap.size := B3.out.size
  clear hno hwc H0 HK HF e0
  go_step
  go_step
  obtain ⟨bi, hbi⟩ : ∃ b, (id' == (lg.length : Int) + 1) = b := ⟨_, rfl⟩
  have HBI := Troupe.hid hbi
  obtain ⟨bd, hbd⟩ : ∃ b, (dst == 0 || (acV bk.acs dst).isSome) = b := ⟨_, rfl⟩
  have HBD := Troupe.hid hbd
  clear hbi hbd
  go_step
  go_cut [9] from 54 to 85 (fun v9 w' => v9 = .int .i64 (brokenV [⟨2, bi⟩, ⟨2, bd⟩, ⟨2, hand || own || notice⟩]) ∧ Below w3.heap.size w3 w')
  case first =>
    have hne := UW.inh w3
    have f2 : ∀ x : UW w3, x.w.cell? ⟨w.heap.size, 2, none⟩ = some (.int .u64 id') := fun x => (K3.out.below x.h K3.out.lt).cell 2
    have f4 : ∀ x : UW w3, x.w.cell? ⟨w.heap.size, 4, none⟩ = some (.int .i64 dst) := fun x => (K3.out.below x.h K3.out.lt).cell 4
    have fb : ∀ x : UW w3, x.w.cell? ⟨gb, 2, none⟩ = some (.slice Al lg.length cl) := fun x => (H3.out.blk.below x.h H3.out.blk.lt).cell 2
    have ACD : Hid (∀ x : UW w3, Calls Try.prog 35 #[.pointer (some ⟨gb, 0, none⟩), .int .i64 dst] x.w fun en w' => en = .returned (aptr ag (acV bk.acs dst)) ∧ Up x.w w') := fun x => (actor_any (H3.out.below x.h) dst hl).mono fun _ _ ⟨h1, h2⟩ => ⟨h1, h2 ▸ Up.refl _⟩
    have hll' : lg.length ≤ 14073748835532 := H3.out.ll ▸ hll
    have BRK : Hid (∀ (g : Nat) (wb : World) (c : Bool), Blk wb g 81 [.int .i64 2, .bool bi, .int .i64 2, .bool bd, .int .i64 2, .bool c] → Calls Try.prog 38 #[.slice (some ⟨g, 0, none⟩) 3 3] wb fun en w' => en = .returned (.int .i64 (brokenV [⟨2, bi⟩, ⟨2, bd⟩, ⟨2, c⟩])) ∧ Up wb w') := fun g wb c hb => broken_any (some ⟨g, 0, none⟩) 3 3 wb.heap.size [⟨2, bi⟩, ⟨2, bd⟩, ⟨2, c⟩] wb rfl (by unfold maxLen; omega) (hb.blk_cells.mono hb.lt) (Nat.le_refl _)
    obtain ⟨ll, hlleq⟩ : ∃ ll, lg.length = ll := ⟨_, rfl⟩
    rw [hlleq] at fb hll'
    have HBI' : Hid ((id' == (ll : Int) + 1) = bi) := by unfold Hid; rw [← hlleq]; exact HBI.out
    clear hlleq
    have hw1 : IntKind.u64.wrap (ll : Int) = ll := IntWalk.u64_in _ (by omega)
    have hw2 : IntKind.u64.wrap ((ll : Int) + 1) = (ll : Int) + 1 := IntWalk.u64_in _ (by omega)
    have hbi := HBI'.out
    obtain ⟨bz, hbz⟩ : ∃ b, (dst == 0) = b := ⟨_, rfl⟩
    cases bz with
    | true =>
      obtain rfl : true = bd := by have h1 := HBD.out; rw [hbz] at h1; exact h1
      cases hand with
      | true =>
        go_upto_region 5 with (fail)
        refine region_up (.q 0 (.q 1 (.q 2 (.q 3 (.q 4 (.q 5 (.q 6 (.q 7 (.q 8 (.q 9 (.q 10 (.q 11 (.q 12 (.q 13 (.q 14 (.q 15 (.q 16 (.q 17 (.q 18 (.q 19 (.q 20 (.q 21 (.q 22 (.q 23 (.q 24 (.q 25 (.q 26 (.q 27 (.q 28 (.q 29 (.one 30 (.one 31 (.q 32 .done))))))))))))))))))))))))))))))))) (by kernel_rfl) (by kernel_rfl) (fun _ _ d _ _ h => by cases d <;> exact h) ?_
        iterate 22 (refine wpUP_q rfl (fun K hK => ?_); go_simp; refine hK _ ?_; clear hK K)
        iterate 8 (refine wpUP_q rfl (fun K hK => ?_); go_simp; refine hK _ ?_; clear hK K)
        refine wpUP_one rfl ?_
        intro w1 hu1
        go_wp2_with fail
        refine ⟨(Below.refl _ _).alloc (Nat.le_refl _) _, ?_⟩
        have hblk := Blk.new w1 81 [.int .i64 2, .bool bi, .int .i64 2, .bool true, .int .i64 2, .bool true]
        have hu2 : Up w3 (w1.alloc (.cells #[.int .i64 2, .bool bi, .int .i64 2, .bool true, .int .i64 2, .bool true] 81)) := hu1.trans ((Below.refl _ _).alloc (Nat.le_refl _) _)
        have HBK := Troupe.hid hblk
        have HU2 := Troupe.hid hu2
        clear hblk hu2 hu1
        generalize w1.alloc (.cells #[.int .i64 2, .bool bi, .int .i64 2, .bool true, .int .i64 2, .bool true] 81) = w2 at *
        generalize w1.heap.size = gr at *
        refine wpUP_one rfl ?_
        intro w4 hu3
        have BR := Troupe.hid (BRK.out gr w4 true (HBK.out.below hu3 HBK.out.lt))
        have HU3 := Troupe.hid (HU2.out.trans hu3)
        clear hu3
        go_wp2_with fail
        refine BR.out.mono ?_
        rintro en w5 ⟨rfl, hu4⟩
        have UA4 := Troupe.hid (HU3.out.trans hu4)
        go_wp2_with fail
        refine ⟨hu4, ?_⟩
        have hne4 := UW.inh w5
        clear hu4 hne f2 f4 fb
        refine wpUP_q rfl (fun K hK => ?_); go_simp; refine hK _ ?_; clear hK K
        refine wpUP_done ?_
        intro w6 hu5
        have UA := Troupe.hid (UA4.out.trans hu5)
        clear hu5 hne4
        go_wp2_with fail
        go_meet
        case rel => exact ⟨rfl, UA.out⟩
      | false =>
        cases own with
        | true =>
          go_upto_region 5 with (fail)
          refine region_up (.q 0 (.q 1 (.q 2 (.q 3 (.q 4 (.q 5 (.q 6 (.q 7 (.q 8 (.q 9 (.q 10 (.q 11 (.q 12 (.q 13 (.q 14 (.q 15 (.q 16 (.q 17 (.q 18 (.q 19 (.q 20 (.q 21 (.q 22 (.q 23 (.q 24 (.q 25 (.q 26 (.q 27 (.q 28 (.q 29 (.one 30 (.one 31 (.q 32 .done))))))))))))))))))))))))))))))))) (by kernel_rfl) (by kernel_rfl) (fun _ _ d _ _ h => by cases d <;> exact h) ?_
          iterate 22 (refine wpUP_q rfl (fun K hK => ?_); go_simp; refine hK _ ?_; clear hK K)
          iterate 8 (refine wpUP_q rfl (fun K hK => ?_); go_simp; refine hK _ ?_; clear hK K)
          refine wpUP_one rfl ?_
          intro w1 hu1
          go_wp2_with fail
          refine ⟨(Below.refl _ _).alloc (Nat.le_refl _) _, ?_⟩
          have hblk := Blk.new w1 81 [.int .i64 2, .bool bi, .int .i64 2, .bool true, .int .i64 2, .bool true]
          have hu2 : Up w3 (w1.alloc (.cells #[.int .i64 2, .bool bi, .int .i64 2, .bool true, .int .i64 2, .bool true] 81)) := hu1.trans ((Below.refl _ _).alloc (Nat.le_refl _) _)
          have HBK := Troupe.hid hblk
          have HU2 := Troupe.hid hu2
          clear hblk hu2 hu1
          generalize w1.alloc (.cells #[.int .i64 2, .bool bi, .int .i64 2, .bool true, .int .i64 2, .bool true] 81) = w2 at *
          generalize w1.heap.size = gr at *
          refine wpUP_one rfl ?_
          intro w4 hu3
          have BR := Troupe.hid (BRK.out gr w4 true (HBK.out.below hu3 HBK.out.lt))
          have HU3 := Troupe.hid (HU2.out.trans hu3)
          clear hu3
          go_wp2_with fail
          refine BR.out.mono ?_
          rintro en w5 ⟨rfl, hu4⟩
          have UA4 := Troupe.hid (HU3.out.trans hu4)
          go_wp2_with fail
          refine ⟨hu4, ?_⟩
          have hne4 := UW.inh w5
          clear hu4 hne f2 f4 fb
          refine wpUP_q rfl (fun K hK => ?_); go_simp; refine hK _ ?_; clear hK K
          refine wpUP_done ?_
          intro w6 hu5
          have UA := Troupe.hid (UA4.out.trans hu5)
          clear hu5 hne4
          go_wp2_with fail
          go_meet
          case rel => exact ⟨rfl, UA.out⟩
        | false =>
          go_upto_region 5 with (fail)
          refine region_up (.q 0 (.q 1 (.q 2 (.q 3 (.q 4 (.q 5 (.q 6 (.q 7 (.q 8 (.q 9 (.q 10 (.q 11 (.q 12 (.q 13 (.q 14 (.q 15 (.q 16 (.q 17 (.q 18 (.q 19 (.q 20 (.q 21 (.q 22 (.q 23 (.q 24 (.q 25 (.q 26 (.q 27 (.q 28 (.q 29 (.one 30 (.one 31 (.q 32 .done))))))))))))))))))))))))))))))))) (by kernel_rfl) (by kernel_rfl) (fun _ _ d _ _ h => by cases d <;> exact h) ?_
          iterate 22 (refine wpUP_q rfl (fun K hK => ?_); go_simp; refine hK _ ?_; clear hK K)
          iterate 8 (refine wpUP_q rfl (fun K hK => ?_); go_simp; refine hK _ ?_; clear hK K)
          refine wpUP_one rfl ?_
          intro w1 hu1
          go_wp2_with fail
          refine ⟨(Below.refl _ _).alloc (Nat.le_refl _) _, ?_⟩
          have hblk := Blk.new w1 81 [.int .i64 2, .bool bi, .int .i64 2, .bool true, .int .i64 2, .bool notice]
          have hu2 : Up w3 (w1.alloc (.cells #[.int .i64 2, .bool bi, .int .i64 2, .bool true, .int .i64 2, .bool notice] 81)) := hu1.trans ((Below.refl _ _).alloc (Nat.le_refl _) _)
          have HBK := Troupe.hid hblk
          have HU2 := Troupe.hid hu2
          clear hblk hu2 hu1
          generalize w1.alloc (.cells #[.int .i64 2, .bool bi, .int .i64 2, .bool true, .int .i64 2, .bool notice] 81) = w2 at *
          generalize w1.heap.size = gr at *
          refine wpUP_one rfl ?_
          intro w4 hu3
          have BR := Troupe.hid (BRK.out gr w4 notice (HBK.out.below hu3 HBK.out.lt))
          have HU3 := Troupe.hid (HU2.out.trans hu3)
          clear hu3
          go_wp2_with fail
          refine BR.out.mono ?_
          rintro en w5 ⟨rfl, hu4⟩
          have UA4 := Troupe.hid (HU3.out.trans hu4)
          go_wp2_with fail
          refine ⟨hu4, ?_⟩
          have hne4 := UW.inh w5
          clear hu4 hne f2 f4 fb
          refine wpUP_q rfl (fun K hK => ?_); go_simp; refine hK _ ?_; clear hK K
          refine wpUP_done ?_
          intro w6 hu5
          have UA := Troupe.hid (UA4.out.trans hu5)
          clear hu5 hne4
          go_wp2_with fail
          go_meet
          case rel => exact ⟨rfl, UA.out⟩
    | false =>
      cases hv : acV bk.acs dst with
      | none =>
        obtain rfl : false = bd := by have h1 := HBD.out; rw [hbz, hv] at h1; exact h1
        rw [hv] at ACD
        unfold aptr gptr at ACD
        dsimp only [Option.map_none, Option.bind_none] at ACD
        clear hv
        cases hand with
        | true =>
          go_upto_region 5 with (fail)
          refine region_up (.q 0 (.q 1 (.q 2 (.q 3 (.q 4 (.q 5 (.q 6 (.q 7 (.q 8 (.q 9 (.q 10 (.q 11 (.q 12 (.q 13 (.q 14 (.q 15 (.q 16 (.q 17 (.q 18 (.q 19 (.q 20 (.q 21 (.q 22 (.q 23 (.q 24 (.q 25 (.q 26 (.q 27 (.q 28 (.q 29 (.one 30 (.one 31 (.q 32 .done))))))))))))))))))))))))))))))))) (by kernel_rfl) (by kernel_rfl) (fun _ _ d _ _ h => by cases d <;> exact h) ?_
          iterate 18 (refine wpUP_q rfl (fun K hK => ?_); go_simp; refine hK _ ?_; clear hK K)
          refine wpUP_q rfl (fun K hK => ?_)
          go_simp
          refine ⟨_, ACD.out, hK _ ?_⟩
          clear hK K
          iterate 3 (refine wpUP_q rfl (fun K hK => ?_); go_simp; refine hK _ ?_; clear hK K)
          iterate 8 (refine wpUP_q rfl (fun K hK => ?_); go_simp; refine hK _ ?_; clear hK K)
          refine wpUP_one rfl ?_
          intro w1 hu1
          go_wp2_with fail
          refine ⟨(Below.refl _ _).alloc (Nat.le_refl _) _, ?_⟩
          have hblk := Blk.new w1 81 [.int .i64 2, .bool bi, .int .i64 2, .bool false, .int .i64 2, .bool true]
          have hu2 : Up w3 (w1.alloc (.cells #[.int .i64 2, .bool bi, .int .i64 2, .bool false, .int .i64 2, .bool true] 81)) := hu1.trans ((Below.refl _ _).alloc (Nat.le_refl _) _)
          have HBK := Troupe.hid hblk
          have HU2 := Troupe.hid hu2
          clear hblk hu2 hu1
          generalize w1.alloc (.cells #[.int .i64 2, .bool bi, .int .i64 2, .bool false, .int .i64 2, .bool true] 81) = w2 at *
          generalize w1.heap.size = gr at *
          refine wpUP_one rfl ?_
          intro w4 hu3
          have BR := Troupe.hid (BRK.out gr w4 true (HBK.out.below hu3 HBK.out.lt))
          have HU3 := Troupe.hid (HU2.out.trans hu3)
          clear hu3
          go_wp2_with fail
          refine BR.out.mono ?_
          rintro en w5 ⟨rfl, hu4⟩
          have UA4 := Troupe.hid (HU3.out.trans hu4)
          go_wp2_with fail
          refine ⟨hu4, ?_⟩
          have hne4 := UW.inh w5
          clear hu4 hne f2 f4 fb
          refine wpUP_q rfl (fun K hK => ?_); go_simp; refine hK _ ?_; clear hK K
          refine wpUP_done ?_
          intro w6 hu5
          have UA := Troupe.hid (UA4.out.trans hu5)
          clear hu5 hne4
          go_wp2_with fail
          go_meet
          case rel => exact ⟨rfl, UA.out⟩
        | false =>
          cases own with
          | true =>
            go_upto_region 5 with (fail)
            refine region_up (.q 0 (.q 1 (.q 2 (.q 3 (.q 4 (.q 5 (.q 6 (.q 7 (.q 8 (.q 9 (.q 10 (.q 11 (.q 12 (.q 13 (.q 14 (.q 15 (.q 16 (.q 17 (.q 18 (.q 19 (.q 20 (.q 21 (.q 22 (.q 23 (.q 24 (.q 25 (.q 26 (.q 27 (.q 28 (.q 29 (.one 30 (.one 31 (.q 32 .done))))))))))))))))))))))))))))))))) (by kernel_rfl) (by kernel_rfl) (fun _ _ d _ _ h => by cases d <;> exact h) ?_
            iterate 18 (refine wpUP_q rfl (fun K hK => ?_); go_simp; refine hK _ ?_; clear hK K)
            refine wpUP_q rfl (fun K hK => ?_)
            go_simp
            refine ⟨_, ACD.out, hK _ ?_⟩
            clear hK K
            iterate 3 (refine wpUP_q rfl (fun K hK => ?_); go_simp; refine hK _ ?_; clear hK K)
            iterate 8 (refine wpUP_q rfl (fun K hK => ?_); go_simp; refine hK _ ?_; clear hK K)
            refine wpUP_one rfl ?_
            intro w1 hu1
            go_wp2_with fail
            refine ⟨(Below.refl _ _).alloc (Nat.le_refl _) _, ?_⟩
            have hblk := Blk.new w1 81 [.int .i64 2, .bool bi, .int .i64 2, .bool false, .int .i64 2, .bool true]
            have hu2 : Up w3 (w1.alloc (.cells #[.int .i64 2, .bool bi, .int .i64 2, .bool false, .int .i64 2, .bool true] 81)) := hu1.trans ((Below.refl _ _).alloc (Nat.le_refl _) _)
            have HBK := Troupe.hid hblk
            have HU2 := Troupe.hid hu2
            clear hblk hu2 hu1
            generalize w1.alloc (.cells #[.int .i64 2, .bool bi, .int .i64 2, .bool false, .int .i64 2, .bool true] 81) = w2 at *
            generalize w1.heap.size = gr at *
            refine wpUP_one rfl ?_
            intro w4 hu3
            have BR := Troupe.hid (BRK.out gr w4 true (HBK.out.below hu3 HBK.out.lt))
            have HU3 := Troupe.hid (HU2.out.trans hu3)
            clear hu3
            go_wp2_with fail
            refine BR.out.mono ?_
            rintro en w5 ⟨rfl, hu4⟩
            have UA4 := Troupe.hid (HU3.out.trans hu4)
            go_wp2_with fail
            refine ⟨hu4, ?_⟩
            have hne4 := UW.inh w5
            clear hu4 hne f2 f4 fb
            refine wpUP_q rfl (fun K hK => ?_); go_simp; refine hK _ ?_; clear hK K
            refine wpUP_done ?_
            intro w6 hu5
            have UA := Troupe.hid (UA4.out.trans hu5)
            clear hu5 hne4
            go_wp2_with fail
            go_meet
            case rel => exact ⟨rfl, UA.out⟩
          | false =>
            go_upto_region 5 with (fail)
            refine region_up (.q 0 (.q 1 (.q 2 (.q 3 (.q 4 (.q 5 (.q 6 (.q 7 (.q 8 (.q 9 (.q 10 (.q 11 (.q 12 (.q 13 (.q 14 (.q 15 (.q 16 (.q 17 (.q 18 (.q 19 (.q 20 (.q 21 (.q 22 (.q 23 (.q 24 (.q 25 (.q 26 (.q 27 (.q 28 (.q 29 (.one 30 (.one 31 (.q 32 .done))))))))))))))))))))))))))))))))) (by kernel_rfl) (by kernel_rfl) (fun _ _ d _ _ h => by cases d <;> exact h) ?_
            iterate 18 (refine wpUP_q rfl (fun K hK => ?_); go_simp; refine hK _ ?_; clear hK K)
            refine wpUP_q rfl (fun K hK => ?_)
            go_simp
            refine ⟨_, ACD.out, hK _ ?_⟩
            clear hK K
            iterate 3 (refine wpUP_q rfl (fun K hK => ?_); go_simp; refine hK _ ?_; clear hK K)
            iterate 8 (refine wpUP_q rfl (fun K hK => ?_); go_simp; refine hK _ ?_; clear hK K)
            refine wpUP_one rfl ?_
            intro w1 hu1
            go_wp2_with fail
            refine ⟨(Below.refl _ _).alloc (Nat.le_refl _) _, ?_⟩
            have hblk := Blk.new w1 81 [.int .i64 2, .bool bi, .int .i64 2, .bool false, .int .i64 2, .bool notice]
            have hu2 : Up w3 (w1.alloc (.cells #[.int .i64 2, .bool bi, .int .i64 2, .bool false, .int .i64 2, .bool notice] 81)) := hu1.trans ((Below.refl _ _).alloc (Nat.le_refl _) _)
            have HBK := Troupe.hid hblk
            have HU2 := Troupe.hid hu2
            clear hblk hu2 hu1
            generalize w1.alloc (.cells #[.int .i64 2, .bool bi, .int .i64 2, .bool false, .int .i64 2, .bool notice] 81) = w2 at *
            generalize w1.heap.size = gr at *
            refine wpUP_one rfl ?_
            intro w4 hu3
            have BR := Troupe.hid (BRK.out gr w4 notice (HBK.out.below hu3 HBK.out.lt))
            have HU3 := Troupe.hid (HU2.out.trans hu3)
            clear hu3
            go_wp2_with fail
            refine BR.out.mono ?_
            rintro en w5 ⟨rfl, hu4⟩
            have UA4 := Troupe.hid (HU3.out.trans hu4)
            go_wp2_with fail
            refine ⟨hu4, ?_⟩
            have hne4 := UW.inh w5
            clear hu4 hne f2 f4 fb
            refine wpUP_q rfl (fun K hK => ?_); go_simp; refine hK _ ?_; clear hK K
            refine wpUP_done ?_
            intro w6 hu5
            have UA := Troupe.hid (UA4.out.trans hu5)
            clear hu5 hne4
            go_wp2_with fail
            go_meet
            case rel => exact ⟨rfl, UA.out⟩
      | some p =>
        obtain ⟨i, a⟩ := p
        obtain rfl : true = bd := by have h1 := HBD.out; rw [hbz, hv] at h1; exact h1
        obtain ⟨g, -, -, hp, -⟩ := ac_found H3.out hv
        rw [hp] at ACD
        clear hv hp
        cases hand with
        | true =>
          go_upto_region 5 with (fail)
          refine region_up (.q 0 (.q 1 (.q 2 (.q 3 (.q 4 (.q 5 (.q 6 (.q 7 (.q 8 (.q 9 (.q 10 (.q 11 (.q 12 (.q 13 (.q 14 (.q 15 (.q 16 (.q 17 (.q 18 (.q 19 (.q 20 (.q 21 (.q 22 (.q 23 (.q 24 (.q 25 (.q 26 (.q 27 (.q 28 (.q 29 (.one 30 (.one 31 (.q 32 .done))))))))))))))))))))))))))))))))) (by kernel_rfl) (by kernel_rfl) (fun _ _ d _ _ h => by cases d <;> exact h) ?_
          iterate 18 (refine wpUP_q rfl (fun K hK => ?_); go_simp; refine hK _ ?_; clear hK K)
          refine wpUP_q rfl (fun K hK => ?_)
          go_simp
          refine ⟨_, ACD.out, hK _ ?_⟩
          clear hK K
          iterate 3 (refine wpUP_q rfl (fun K hK => ?_); go_simp; refine hK _ ?_; clear hK K)
          iterate 8 (refine wpUP_q rfl (fun K hK => ?_); go_simp; refine hK _ ?_; clear hK K)
          refine wpUP_one rfl ?_
          intro w1 hu1
          go_wp2_with fail
          refine ⟨(Below.refl _ _).alloc (Nat.le_refl _) _, ?_⟩
          have hblk := Blk.new w1 81 [.int .i64 2, .bool bi, .int .i64 2, .bool true, .int .i64 2, .bool true]
          have hu2 : Up w3 (w1.alloc (.cells #[.int .i64 2, .bool bi, .int .i64 2, .bool true, .int .i64 2, .bool true] 81)) := hu1.trans ((Below.refl _ _).alloc (Nat.le_refl _) _)
          have HBK := Troupe.hid hblk
          have HU2 := Troupe.hid hu2
          clear hblk hu2 hu1
          generalize w1.alloc (.cells #[.int .i64 2, .bool bi, .int .i64 2, .bool true, .int .i64 2, .bool true] 81) = w2 at *
          generalize w1.heap.size = gr at *
          refine wpUP_one rfl ?_
          intro w4 hu3
          have BR := Troupe.hid (BRK.out gr w4 true (HBK.out.below hu3 HBK.out.lt))
          have HU3 := Troupe.hid (HU2.out.trans hu3)
          clear hu3
          go_wp2_with fail
          refine BR.out.mono ?_
          rintro en w5 ⟨rfl, hu4⟩
          have UA4 := Troupe.hid (HU3.out.trans hu4)
          go_wp2_with fail
          refine ⟨hu4, ?_⟩
          have hne4 := UW.inh w5
          clear hu4 hne f2 f4 fb
          refine wpUP_q rfl (fun K hK => ?_); go_simp; refine hK _ ?_; clear hK K
          refine wpUP_done ?_
          intro w6 hu5
          have UA := Troupe.hid (UA4.out.trans hu5)
          clear hu5 hne4
          go_wp2_with fail
          go_meet
          case rel => exact ⟨rfl, UA.out⟩
        | false =>
          cases own with
          | true =>
            go_upto_region 5 with (fail)
            refine region_up (.q 0 (.q 1 (.q 2 (.q 3 (.q 4 (.q 5 (.q 6 (.q 7 (.q 8 (.q 9 (.q 10 (.q 11 (.q 12 (.q 13 (.q 14 (.q 15 (.q 16 (.q 17 (.q 18 (.q 19 (.q 20 (.q 21 (.q 22 (.q 23 (.q 24 (.q 25 (.q 26 (.q 27 (.q 28 (.q 29 (.one 30 (.one 31 (.q 32 .done))))))))))))))))))))))))))))))))) (by kernel_rfl) (by kernel_rfl) (fun _ _ d _ _ h => by cases d <;> exact h) ?_
            iterate 18 (refine wpUP_q rfl (fun K hK => ?_); go_simp; refine hK _ ?_; clear hK K)
            refine wpUP_q rfl (fun K hK => ?_)
            go_simp
            refine ⟨_, ACD.out, hK _ ?_⟩
            clear hK K
            iterate 3 (refine wpUP_q rfl (fun K hK => ?_); go_simp; refine hK _ ?_; clear hK K)
            iterate 8 (refine wpUP_q rfl (fun K hK => ?_); go_simp; refine hK _ ?_; clear hK K)
            refine wpUP_one rfl ?_
            intro w1 hu1
            go_wp2_with fail
            refine ⟨(Below.refl _ _).alloc (Nat.le_refl _) _, ?_⟩
            have hblk := Blk.new w1 81 [.int .i64 2, .bool bi, .int .i64 2, .bool true, .int .i64 2, .bool true]
            have hu2 : Up w3 (w1.alloc (.cells #[.int .i64 2, .bool bi, .int .i64 2, .bool true, .int .i64 2, .bool true] 81)) := hu1.trans ((Below.refl _ _).alloc (Nat.le_refl _) _)
            have HBK := Troupe.hid hblk
            have HU2 := Troupe.hid hu2
            clear hblk hu2 hu1
            generalize w1.alloc (.cells #[.int .i64 2, .bool bi, .int .i64 2, .bool true, .int .i64 2, .bool true] 81) = w2 at *
            generalize w1.heap.size = gr at *
            refine wpUP_one rfl ?_
            intro w4 hu3
            have BR := Troupe.hid (BRK.out gr w4 true (HBK.out.below hu3 HBK.out.lt))
            have HU3 := Troupe.hid (HU2.out.trans hu3)
            clear hu3
            go_wp2_with fail
            refine BR.out.mono ?_
            rintro en w5 ⟨rfl, hu4⟩
            have UA4 := Troupe.hid (HU3.out.trans hu4)
            go_wp2_with fail
            refine ⟨hu4, ?_⟩
            have hne4 := UW.inh w5
            clear hu4 hne f2 f4 fb
            refine wpUP_q rfl (fun K hK => ?_); go_simp; refine hK _ ?_; clear hK K
            refine wpUP_done ?_
            intro w6 hu5
            have UA := Troupe.hid (UA4.out.trans hu5)
            clear hu5 hne4
            go_wp2_with fail
            go_meet
            case rel => exact ⟨rfl, UA.out⟩
          | false =>
            go_upto_region 5 with (fail)
            refine region_up (.q 0 (.q 1 (.q 2 (.q 3 (.q 4 (.q 5 (.q 6 (.q 7 (.q 8 (.q 9 (.q 10 (.q 11 (.q 12 (.q 13 (.q 14 (.q 15 (.q 16 (.q 17 (.q 18 (.q 19 (.q 20 (.q 21 (.q 22 (.q 23 (.q 24 (.q 25 (.q 26 (.q 27 (.q 28 (.q 29 (.one 30 (.one 31 (.q 32 .done))))))))))))))))))))))))))))))))) (by kernel_rfl) (by kernel_rfl) (fun _ _ d _ _ h => by cases d <;> exact h) ?_
            iterate 18 (refine wpUP_q rfl (fun K hK => ?_); go_simp; refine hK _ ?_; clear hK K)
            refine wpUP_q rfl (fun K hK => ?_)
            go_simp
            refine ⟨_, ACD.out, hK _ ?_⟩
            clear hK K
            iterate 3 (refine wpUP_q rfl (fun K hK => ?_); go_simp; refine hK _ ?_; clear hK K)
            iterate 8 (refine wpUP_q rfl (fun K hK => ?_); go_simp; refine hK _ ?_; clear hK K)
            refine wpUP_one rfl ?_
            intro w1 hu1
            go_wp2_with fail
            refine ⟨(Below.refl _ _).alloc (Nat.le_refl _) _, ?_⟩
            have hblk := Blk.new w1 81 [.int .i64 2, .bool bi, .int .i64 2, .bool true, .int .i64 2, .bool notice]
            have hu2 : Up w3 (w1.alloc (.cells #[.int .i64 2, .bool bi, .int .i64 2, .bool true, .int .i64 2, .bool notice] 81)) := hu1.trans ((Below.refl _ _).alloc (Nat.le_refl _) _)
            have HBK := Troupe.hid hblk
            have HU2 := Troupe.hid hu2
            clear hblk hu2 hu1
            generalize w1.alloc (.cells #[.int .i64 2, .bool bi, .int .i64 2, .bool true, .int .i64 2, .bool notice] 81) = w2 at *
            generalize w1.heap.size = gr at *
            refine wpUP_one rfl ?_
            intro w4 hu3
            have BR := Troupe.hid (BRK.out gr w4 notice (HBK.out.below hu3 HBK.out.lt))
            have HU3 := Troupe.hid (HU2.out.trans hu3)
            clear hu3
            go_wp2_with fail
            refine BR.out.mono ?_
            rintro en w5 ⟨rfl, hu4⟩
            have UA4 := Troupe.hid (HU3.out.trans hu4)
            go_wp2_with fail
            refine ⟨hu4, ?_⟩
            have hne4 := UW.inh w5
            clear hu4 hne f2 f4 fb
            refine wpUP_q rfl (fun K hK => ?_); go_simp; refine hK _ ?_; clear hK K
            refine wpUP_done ?_
            intro w6 hu5
            have UA := Troupe.hid (UA4.out.trans hu5)
            clear hu5 hne4
            go_wp2_with fail
            go_meet
            case rel => exact ⟨rfl, UA.out⟩
  case rest =>
  obtain ⟨rfl, hwc⟩ := hcut
  obtain ⟨w4, rfl⟩ : ∃ w4 : World, w4 = wc := ⟨_, rfl⟩
  have H4 := Troupe.hid (H3.out.below hwc)
  have K4 := Troupe.hid (K3.out.below hwc K3.out.lt)
  have B4 := Troupe.hid (B3.out.trans (hwc.mono hz3))
  have hz4 : w.heap.size ≤ w4.heap.size := B4.out.size
  clear hwc H3 K3 B3
  obtain ⟨nb, hnb⟩ : ∃ n, brokenV [⟨2, bi⟩, ⟨2, bd⟩, ⟨2, hand || own || notice⟩] = n := ⟨_, rfl⟩
  rw [hnb]
  have SENT : Hid (sentV bk ⟨kd, actor, id', src, dst, name, n, why, timed⟩ = if nb = 0 then (0, { bk with lts := bk.lts ++ [⟨⟨kd, actor, id', src, dst, name, n, why, timed⟩, isb, false, true⟩] }) else (nb, bk)) := by
    unfold Hid sentV
    dsimp only
    rw [← H4.out.ll, HBI.out, HBD.out, HWK.out, HHAND.out, HOWN.out, HISB.out, HNO.out, hnb]
  clear hnb
  by_cases h0 : nb = 0
  · subst h0
    have FIN : Hid (sentV bk ⟨kd, actor, id', src, dst, name, n, why, timed⟩ = (0, { bk with lts := bk.lts ++ [⟨⟨kd, actor, id', src, dst, name, n, why, timed⟩, isb, false, true⟩] })) := SENT.out.trans (if_pos rfl)
    go_upto_region 8 with (fail)
    let S0 : World → Prop := fun w2 => Frm (fun k => (Value.slice Al lg.length cl).ownBlock = some k) w4 w2
    have hne : Nonempty (SW S0) := ⟨⟨w4, Frm.refl _ _⟩⟩
    have hrow : ∀ k, (Value.slice Al lg.length cl).ownBlock = some k → ∃ cs, Blk w4 k 82 cs := fun k hk => own_at H4.out.ol hk
    have HE4 : Hid (¬ (Value.slice Al lg.length cl).ownBlock = some w.heap.size) := fun e => by
      obtain ⟨cs', hb'⟩ := hrow _ e
      exact K4.out.ne hb' (by decide) rfl
    have HG4 : Hid (¬ (Value.slice Al lg.length cl).ownBlock = some gb) := fun e => by
      obtain ⟨cs', hb'⟩ := hrow _ e
      exact H4.out.blk.ne hb' (by decide) rfl
    clear hrow
    have fe : ∀ (x : SW S0) (i : Nat), x.w.cell? ⟨w.heap.size, i, none⟩ = (Ev.cells ⟨kd, actor, id', src, dst, name, n, why, timed⟩)[i]? := fun x => (K4.out.frm x.h HE4.out).cell
    have fb : ∀ x : SW S0, x.w.cell? ⟨gb, 2, none⟩ = some (.slice Al lg.length cl) := fun x => (H4.out.blk.frm x.h HG4.out).cell 2
    dsimp only [Ev.cells] at fe
    refine region_plan (S := Cls S0) (.read 0 (.read 1 (.read 2 (.read 3 (.read 4 (.read 5 (.read 6 (.one 7 (.one 8 (.read 9 (.one 10 (.one 11 (.one 12 .tail))))))))))))) 13 (by kernel_rfl) (by kernel_rfl) (fun _ _ d _ _ h => by cases d <;> exact h) ?_
    intro w5 hh o1' o2' o3'
    have F0 : Frm (fun _ => False) w4 w5 := Frm.of_heap hh o1' o2' o3'
    have F5 := Troupe.hid (F0.below (Nat.le_refl _) (fun _ h => h.elim))
    refine ⟨Cls.of (F0.mono (fun _ _ h => h.elim)), ?_⟩
    clear F0 hh o1' o2' o3'
    iterate 7 (refine wpPlan_read rfl (fun K hK => ?_); go_simp; refine hK _ ?_; clear hK K)
    refine wpPlan_one rfl ?_
    go_wp2_with fail
    have FX : Below w5.heap.size w5 (w5.alloc (.cells #[.int .i64 5] 3)) := (Below.refl _ _).alloc (Nat.le_refl _) _
    have H5 := Troupe.hid (H4.out.below (F5.out.mono (Nat.le_refl _)))
    have IS := Troupe.hid (is_any (H5.out.below FX) src (some ⟨w5.heap.size, 0, none⟩) 1 1 [5] rfl (by unfold maxLen; omega) ((Blk.new w5 3 [.int .i64 5]).blk_cells.mono (by simp)))
    rw [HISB.out] at IS
    have F6 := Troupe.hid (F5.out.trans (FX.mono F5.out.size))
    have H6 := Troupe.hid (H5.out.below FX)
    refine ⟨Cls.of (frm_belowS F6.out), ?_⟩
    clear FX H5 F5
    generalize w5.alloc (.cells #[.int .i64 5] 3) = w6 at *
    generalize w5.heap.size = g5 at *
    refine wpPlan_one rfl ?_
    go_wp2_with fail
    refine IS.out.mono ?_
    rintro en w7 ⟨rfl, rfl⟩
    go_wp2_with fail
    refine ⟨Cls.of (frm_belowS F6.out), ?_⟩
    refine wpPlan_read rfl (fun K hK => ?_); go_simp; refine hK _ ?_; clear hK K
    have HL6 := Troupe.hid (Blk.new w6 84 (Lt.cells ⟨⟨kd, actor, id', src, dst, name, n, why, timed⟩, isb, false, true⟩))
    have FY : Below w6.heap.size w6 (w6.alloc (.cells #[.int .i64 kd, .int .i64 actor, .int .u64 id', .int .i64 src, .int .i64 dst, .string name, .int .i64 n, .int .i64 why, .bool timed, .bool isb, .bool false, .bool true] 84)) := (Below.refl _ _).alloc (Nat.le_refl _) _
    have F7 := Troupe.hid (F6.out.trans (FY.mono F6.out.size))
    have H7 := Troupe.hid (H6.out.below FY)
    have hB7 : base ≤ w6.heap.size := by have h1 := F6.out.size; omega
    have hN7 : Hid (w6.heap.size ∉ lg) := fun hm => by
      obtain ⟨i, hi⟩ := List.getElem?_of_mem hm
      obtain ⟨x, hx⟩ : ∃ x, bk.lts[i]? = some x := ⟨_, List.getElem?_eq_getElem (by have h1 := (List.getElem?_eq_some_iff.1 hi).1; have h2 := H6.out.ll; omega)⟩
      have := (H6.out.lt i x _ hx hi).lt
      omega
    dsimp only [Lt.cells] at HL6
    clear FY
    refine wpPlan_one rfl ?_
    go_wp2_with fail
    refine ⟨Cls.of (frm_belowS F7.out), ?_⟩
    generalize w6.alloc (.cells #[.int .i64 kd, .int .i64 actor, .int .u64 id', .int .i64 src, .int .i64 dst, .string name, .int .i64 n, .int .i64 why, .bool timed, .bool isb, .bool false, .bool true] 84) = w7 at *
    generalize w6.heap.size = gn at *
    have FZ : Below w7.heap.size w7 (w7.alloc (.cells #[.pointer (some ⟨gn, 0, none⟩)] 82)) := (Below.refl _ _).alloc (Nat.le_refl _) _
    have F8 := Troupe.hid (F7.out.trans (FZ.mono F7.out.size))
    have H8 := Troupe.hid (H7.out.below FZ)
    have HL8 := Troupe.hid (HL6.out.below FZ HL6.out.lt)
    have HC8 := Troupe.hid (((Blk.new w7 82 [.pointer (some ⟨gn, 0, none⟩)]).blk_cells : Cells (w7.alloc (.cells #[.pointer (some ⟨gn, 0, none⟩)] 82)) (w7.heap.size + 1) (some ⟨w7.heap.size, 0, none⟩) [.pointer (some ⟨gn, 0, none⟩)]))
    clear FZ
    refine wpPlan_one rfl ?_
    go_wp2_with fail
    refine ⟨Cls.of (frm_belowS F8.out), ?_⟩
    generalize w7.alloc (.cells #[.pointer (some ⟨gn, 0, none⟩)] 82) = w8 at *
    generalize w7.heap.size = g7 at *
    have HLEN := Troupe.hid H8.out.ll
    have hb8 : base ≤ w8.heap.size := by have h1 := F8.out.size; omega
    refine wpPlan_one rfl ?_
    refine wpList_app rfl (.tmp 93) (.tmp 100) 47 rfl base 82 info82 Try.underlying47 rfl (by decide) (.slice Al lg.length cl) lg.length (flatP lg) rfl H8.out.ol (g7 + 1) (some ⟨g7, 0, none⟩) 1 1 [.pointer (some ⟨gn, 0, none⟩)] rfl rfl HC8.out (by simp) (by intro u hu; simp at hu; subst hu; rfl) (by have h1 := HLEN.out; omega) (by have h1 := HLEN.out; unfold maxLen; omega) hb8 ?_
    intro v' w9 hA
    obtain ⟨Al', cl', rfl, hADD⟩ := BookAt.addL (l := ⟨⟨kd, actor, id', src, dst, name, n, why, timed⟩, isb, false, true⟩) H8.out HL8.out hB7 hN7.out hA
    have ADD := Troupe.hid hADD
    clear hADD
    have F9 : Frm (fun k => (Value.slice Al lg.length cl).ownBlock = some k) w4 w9 := (frm_belowS (S := fun k => (Value.slice Al lg.length cl).ownBlock = some k) F8.out).trans hA.frm (fun _ _ h => h)
    have G9 := Troupe.hid (H8.out.blk.frm hA.frm HG4.out)
    have HF9 := Troupe.hid F9
    have BA : Hid (Below base w8 w9) := Frm.below hA.frm hb8 (fun k hk => own_ge H8.out.ol hk)
    have KE : Hid (K52 w w9) := (K52.of (B4.out.trans (F8.out.mono hz4))).row H8.out.ol (by decide) hA.frm
    have FE : Hid (Below base w w9) := (((B4.out.mono hw).trans (F8.out.mono (Nat.le_trans hw hz4)))).trans BA.out
    have e9 := G9.out.cell
    have z9 := G9.out.frozen
    clear hA
    refine ⟨Cls.of F9, ?_⟩
    clear F9 fe fb hne
    refine wpPlan_tail ?_
    simp only [List.drop_succ_cons, List.drop_zero]
    go_wp2_with fail
    go_ret
    exact Ruled.same' FIN.out ADD.out ⟨FE.out.setCell H8.out.hb _, KE.out.set G9.out (by decide) (Frm.one w9 ⟨gb, 2, none⟩ _)⟩
  · have FIN : Hid (sentV bk ⟨kd, actor, id', src, dst, name, n, why, timed⟩ = (nb, bk)) := SENT.out.trans (if_neg h0)
    have h0' : (nb != 0) = true := by rw [bne_iff_ne]; exact h0
    clear h0
    go_wp2_with fail
    go_ret
    exact Ruled.same FIN.out H4.out B4.out hw
end Go.Proofs.Ytkjjhndccelbcaa
