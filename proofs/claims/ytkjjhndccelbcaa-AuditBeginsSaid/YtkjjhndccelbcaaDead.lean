/- The rule of the dead, by contract. -/
import Derived.Test.YtkjjhndccelbcaaEnd
import Derived.Test.YtkjjhndccelbcaaUpG
import Derived.Test.YtkjjhndccelbcaaSetL
namespace Go.Proofs.Ytkjjhndccelbcaa
open Go.RowKit Go.Maps Go.Troupe
attribute [local go_sem] reads readAt readUpon Cls quietU pick_and' pick_or' pick_or'' pick_and2 pick_and3 pick_or2
theorem broken4 (a b c d : Bool) : brokenV [⟨6, a⟩, ⟨6, b⟩, ⟨6, c⟩, ⟨6, d⟩] = if (a && b && c && d) = true then 0 else 6 := by cases a <;> cases b <;> cases c <;> cases d <;> rfl

set_option pp.deepTerms true in
set_option pp.maxSteps 1000000 in
set_option maxRecDepth 100000 in
set_option maxHeartbeats 8000000 in
theorem dead_any {w : World} {base gb ca cl : Nat} {pv : Value} {Aa Al : Option Addr} {bk : Bk} {ag lg : List Nat} (h : BookAt w base gb pv Aa ca Al cl bk ag lg) (hw : base ≤ w.heap.size) (e : Ev) (hl : bk.acs.length ≤ 140737488355328) (hll : bk.lts.length ≤ 14073748835532) (hid : 0 ≤ e.id ∧ e.id < 18446744073709551616) :
    Calls Try.prog 20 #[.pointer (some ⟨gb, 0, none⟩), .agg e.cells.toArray] w (Ruled w base gb pv (deadV bk e)) := by
  have F0 : Below w.heap.size w (w.alloc (.cells #[.int .i64 e.kd, .int .i64 e.actor, .int .u64 e.id, .int .i64 e.src, .int .i64 e.dst, .string e.name, .int .i64 e.n, .int .i64 e.why, .bool e.timed] 32)) := (Below.refl _ _).alloc (Nat.le_refl _) _
  have K0 : Blk (w.alloc (.cells #[.int .i64 e.kd, .int .i64 e.actor, .int .u64 e.id, .int .i64 e.src, .int .i64 e.dst, .string e.name, .int .i64 e.n, .int .i64 e.why, .bool e.timed] 32)) w.heap.size 32 e.cells := Blk.new _ _ _
  have H0 := Troupe.hid (h.below F0)
  have HF := Troupe.hid F0
  have HK := Troupe.hid K0
  have hz := F0.size
  have e0 := K0.cell
  dsimp only [Ev.cells] at e0 ⊢
  clear h F0 K0
  go_enter Try.func20, Try.ntmps20
  go_upto_region 1 with (fail)
  generalize w.alloc (.cells #[.int .i64 e.kd, .int .i64 e.actor, .int .u64 e.id, .int .i64 e.src, .int .i64 e.dst, .string e.name, .int .i64 e.n, .int .i64 e.why, .bool e.timed] 32) = w0 at *
  clear e0
  have LT : Hid (∀ x : UW w0, Calls Try.prog 39 #[.pointer (some ⟨gb, 0, none⟩), .int .u64 e.id] x.w fun en w' => en = .returned (lptr lg (ltV bk.lts e.id)) ∧ Up x.w w') := fun x => (letter_any (H0.out.below x.h) e.id hid (by omega)).mono fun _ _ ⟨h1, h2⟩ => ⟨h1, h2 ▸ Up.refl _⟩
  have AC : Hid (∀ x : UW w0, Calls Try.prog 35 #[.pointer (some ⟨gb, 0, none⟩), .int .i64 e.dst] x.w fun en w' => en = .returned (aptr ag (acV bk.acs e.dst)) ∧ Up x.w w') := fun x => (actor_any (H0.out.below x.h) e.dst hl).mono fun _ _ ⟨h1, h2⟩ => ⟨h1, h2 ▸ Up.refl _⟩
  obtain ⟨kd, actor, id', src, dst, name, n, why, timed⟩ := e
  dsimp only at *
  go_cut [5, 6] from 5 to 15 (fun v5 v6 w' => v5 = lptr lg (ltV bk.lts id') ∧ v6 = aptr ag (acV bk.acs dst) ∧ Up w0 w')
  case first =>
    have hne := UW.inh w0
    have fe : ∀ (x : UW w0) (i : Nat), x.w.cell? ⟨w.heap.size, i, none⟩ = (Ev.cells ⟨kd, actor, id', src, dst, name, n, why, timed⟩)[i]? := fun x => (HK.out.below x.h HK.out.lt).cell
    dsimp only [Ev.cells] at fe
    refine region_up (.q 0 (.q 1 (.q 2 (.q 3 (.q 4 (.q 5 (.q 6 (.q 7 (.q 8 (.q 9 .done)))))))))) (by kernel_rfl) (by kernel_rfl) (fun _ _ d _ _ h => by cases d <;> exact h) ?_
    iterate 3 (refine wpUP_q rfl (fun K hK => ?_); go_simp; refine hK _ ?_; clear hK K)
    refine wpUP_q rfl (fun K hK => ?_)
    go_simp
    refine ⟨_, LT.out, hK _ ?_⟩
    clear hK K
    iterate 3 (refine wpUP_q rfl (fun K hK => ?_); go_simp; refine hK _ ?_; clear hK K)
    refine wpUP_q rfl (fun K hK => ?_)
    go_simp
    refine ⟨_, AC.out, hK _ ?_⟩
    clear hK K
    iterate 2 (refine wpUP_q rfl (fun K hK => ?_); go_simp; refine hK _ ?_; clear hK K)
    refine wpUP_done ?_
    intro w6 hu5
    have UA := Troupe.hid hu5
    clear hu5
    go_wp2_with fail
    go_meet
    case rel => exact ⟨rfl, rfl, UA.out⟩
  case rest =>
  obtain ⟨rfl, rfl, hwc⟩ := hcut
  obtain ⟨w1, rfl⟩ : ∃ w1 : World, w1 = wc := ⟨_, rfl⟩
  have H1 := Troupe.hid (H0.out.below hwc)
  have K1 := Troupe.hid (HK.out.below hwc HK.out.lt)
  have B1 := Troupe.hid (HF.out.trans (hwc.mono hz))
  have hz1 : w.heap.size ≤ w1.heap.size := B1.out.size
  clear hwc H0 HK HF LT AC
  go_step
  go_step
  have BRK : Hid (∀ (g : Nat) (wb : World) (c1 c2 c3 c4 : Bool), Blk wb g 81 [.int .i64 6, .bool c1, .int .i64 6, .bool c2, .int .i64 6, .bool c3, .int .i64 6, .bool c4] → Calls Try.prog 38 #[.slice (some ⟨g, 0, none⟩) 4 4] wb fun en w' => en = .returned (.int .i64 (brokenV [⟨6, c1⟩, ⟨6, c2⟩, ⟨6, c3⟩, ⟨6, c4⟩])) ∧ Up wb w') := fun g wb c1 c2 c3 c4 hb => broken_any (some ⟨g, 0, none⟩) 4 4 wb.heap.size [⟨6, c1⟩, ⟨6, c2⟩, ⟨6, c3⟩, ⟨6, c4⟩] wb rfl (by unfold maxLen; omega) (hb.blk_cells.mono hb.lt) (Nat.le_refl _)
  have hne := UW.inh w1
  have fe : ∀ (x : UW w1) (i : Nat), x.w.cell? ⟨w.heap.size, i, none⟩ = (Ev.cells ⟨kd, actor, id', src, dst, name, n, why, timed⟩)[i]? := fun x => (K1.out.below x.h K1.out.lt).cell
  dsimp only [Ev.cells] at fe
  cases hv : ltV bk.lts id' with
  | none =>
    have FIN : Hid (deadV bk ⟨kd, actor, id', src, dst, name, n, why, timed⟩ = (6, bk)) := by unfold Hid deadV; dsimp only; rw [hv]
    unfold lptr gptr
    dsimp only [Option.map_none, Option.bind_none]
    clear hv
    obtain ⟨x1, hx1⟩ : ∃ b, decide (1 ≤ why) = b := ⟨_, rfl⟩
    obtain ⟨x2, hx2⟩ : ∃ b, decide (why ≤ 5) = b := ⟨_, rfl⟩
    obtain ⟨x3, hx3⟩ : ∃ b, (why == 3) = b := ⟨_, rfl⟩
    obtain ⟨x4, hx4⟩ : ∃ b, (dst == 0) = b := ⟨_, rfl⟩
    cases hw2 : (why != 2) with
    | false =>
      obtain ⟨c3, hc3⟩ : ∃ c3, isV (acV bk.acs dst) [4, 5] = c3 := ⟨_, rfl⟩
      have HC3 := Troupe.hid hc3
      clear hc3
      refine region_up (.q 0 (.q 1 (.q 2 (.q 3 (.q 4 (.q 5 (.q 6 (.q 7 (.q 8 (.q 9 (.q 10 (.q 11 (.q 12 (.q 13 (.q 14 (.q 15 (.q 16 (.q 17 (.q 18 (.q 19 (.q 20 (.q 21 (.q 22 (.q 23 (.q 24 (.q 25 (.q 26 (.q 27 (.q 28 (.q 29 (.q 30 (.q 31 (.q 32 (.q 33 (.q 34 (.q 35 (.q 36 (.q 37 (.q 38 (.q 39 (.q 40 (.q 41 (.q 46 (.q 47 (.one 42 (.q 43 (.q 44 (.q 45 (.q 48 (.q 49 (.q 50 (.q 51 (.q 52 (.q 53 (.q 54 (.q 55 (.q 56 (.q 57 (.q 58 (.q 59 (.q 60 (.q 61 (.q 62 (.q 63 (.q 64 (.q 65 (.q 66 (.q 67 (.q 68 (.q 69 (.q 70 (.q 71 (.one 72 (.one 73 (.q 74 .done))))))))))))))))))))))))))))))))))))))))))))))))))))))))))))))))))))))))))) (by kernel_rfl) (by kernel_rfl) (fun _ _ d _ _ h => by cases d <;> exact h) ?_
      iterate 23 (refine wpUP_q rfl (fun K hK => ?_); go_simp; refine hK _ ?_; clear hK K)
      apply wpUP_g2 rfl
      case hb => intro F hF; go_simp; exact hF
      case h1 => intro hb K hK; go_simp; exact hK
      apply wpUP_g2 rfl
      case hb => intro F hF; go_simp; exact hF
      case h1 => intro hb K hK; go_simp; exact hK
      apply wpUP_g2 rfl
      case hb => intro F hF; go_simp; exact hF
      case h1 => intro hb K hK; go_simp; exact hK
      iterate 2 (refine wpUP_q rfl (fun K hK => ?_); go_simp; refine hK _ ?_; clear hK K)
      apply wpUP_g2 rfl
      case hb => intro F hF; go_simp; exact hF
      case h1 => intro hb K hK; go_simp; exact hK
      apply wpUP_g2 rfl
      case hb => intro F hF; go_simp; exact hF
      case h1 => intro hb K hK; go_simp; exact hK
      apply wpUP_g2 rfl
      case hb => intro F hF; go_simp; exact hF
      case h1 => intro hb K hK; go_simp; exact hK
      apply wpUP_g2 rfl
      case hb => intro F hF; go_simp; exact hF
      case h1 => intro hb K hK; go_simp; exact hK
      apply wpUP_g2 rfl
      case hb => intro F hF; go_simp; exact hF
      case h1 => intro hb K hK; go_simp; exact hK
      apply wpUP_g2 rfl
      case hb => intro F hF; go_simp; exact hF
      case h1 => intro hb K hK; go_simp; exact hK
      apply wpUP_g2 rfl
      case hb => intro F hF; go_simp; exact hF
      case h1 => intro hb K hK; go_simp; exact hK
      iterate 9 (refine wpUP_q rfl (fun K hK => ?_); go_simp; refine hK _ ?_; clear hK K)
      refine wpUP_one rfl ?_
      intro wx hux
      go_wp2_with fail
      refine ⟨(Below.refl _ _).alloc (Nat.le_refl _) _, ?_⟩
      have hblk := Blk.new wx 3 [.int .i64 4, .int .i64 5]
      have HUY := Troupe.hid (Up.trans hux ((Below.refl _ _).alloc (Nat.le_refl _) _ : Up wx (wx.alloc (.cells #[.int .i64 4, .int .i64 5] 3))))
      have HB3 := Troupe.hid hblk
      clear hblk hux
      generalize wx.alloc (.cells #[.int .i64 4, .int .i64 5] 3) = wy at *
      generalize wx.heap.size = gm at *
      have hney := UW.inh wy
      clear fe hne
      have fe : ∀ (x : UW wy) (i : Nat), x.w.cell? ⟨w.heap.size, i, none⟩ = (Ev.cells ⟨kd, actor, id', src, dst, name, n, why, timed⟩)[i]? := fun x => (K1.out.below (HUY.out.trans x.h) K1.out.lt).cell
      dsimp only [Ev.cells] at fe
      have IS : Hid (∀ x : UW wy, Calls Try.prog 37 #[aptr ag (acV bk.acs dst), .slice (some ⟨gm, 0, none⟩) 2 2] x.w fun en w' => en = .returned (.bool c3) ∧ Up x.w w') := fun x => (is_any (H1.out.below (HUY.out.trans x.h)) dst (some ⟨gm, 0, none⟩) 2 2 [4, 5] rfl (by unfold maxLen; omega) ((HB3.out.below x.h HB3.out.lt).blk_cells.mono (by have := (HB3.out.below x.h HB3.out.lt).lt; omega))).mono fun _ _ ⟨h1, h2⟩ => ⟨by rw [h1, HC3.out], h2 ▸ Up.refl _⟩
      refine wpUP_q rfl (fun K hK => ?_)
      go_simp
      refine ⟨_, IS.out, hK _ ?_⟩
      clear hK K
      iterate 26 (refine wpUP_q rfl (fun K hK => ?_); go_simp; refine hK _ ?_; clear hK K)
      clear hx1 hx2 hx3 hx4 hw2 fe hney
      refine wpUP_one rfl ?_
      intro wa hua
      go_wp2_with fail
      refine ⟨(Below.refl _ _).alloc (Nat.le_refl _) _, ?_⟩
      have hblk := Blk.new wa 81 [.int .i64 6, .bool false, .int .i64 6, .bool (x1 && x2 && x3 == x4), .int .i64 6, .bool c3, .int .i64 6, .bool true]
      have hub : Up w1 (wa.alloc (.cells #[.int .i64 6, .bool false, .int .i64 6, .bool (x1 && x2 && x3 == x4), .int .i64 6, .bool c3, .int .i64 6, .bool true] 81)) := Up.trans (HUY.out.trans hua) ((Below.refl _ _).alloc (Nat.le_refl _) _)
      have HBK := Troupe.hid hblk
      have HU2 := Troupe.hid hub
      clear hblk hub hua
      generalize wa.alloc (.cells #[.int .i64 6, .bool false, .int .i64 6, .bool (x1 && x2 && x3 == x4), .int .i64 6, .bool c3, .int .i64 6, .bool true] 81) = wb at *
      generalize wa.heap.size = gr at *
      refine wpUP_one rfl ?_
      intro wd hud
      have BR := Troupe.hid (BRK.out gr wd _ _ _ _ (HBK.out.below hud HBK.out.lt))
      have HU3 := Troupe.hid (HU2.out.trans hud)
      clear hud
      go_wp2_with fail
      refine BR.out.mono ?_
      rintro en we ⟨rfl, hue⟩
      have UA4 := Troupe.hid (HU3.out.trans hue)
      go_wp2_with fail
      refine ⟨hue, ?_⟩
      have hne4 := UW.inh we
      clear hue
      refine wpUP_q rfl (fun K hK => ?_); go_simp; refine hK _ ?_; clear hK K
      refine wpUP_done ?_
      intro w6 huf
      have UA := Troupe.hid (UA4.out.trans huf)
      have H6 := Troupe.hid (H1.out.below UA.out)
      have B6 := Troupe.hid (B1.out.trans (UA.out.mono hz1))
      clear huf hne4
      have hn6 : brokenV [⟨6, false⟩, ⟨6, x1 && x2 && x3 == x4⟩, ⟨6, c3⟩, ⟨6, true⟩] = 6 := rfl
      go_wp2_with fail
      go_ret
      exact Ruled.same FIN.out H6.out B6.out hw

    | true =>
      refine region_up (.q 0 (.q 1 (.q 2 (.q 3 (.q 4 (.q 5 (.q 6 (.q 7 (.q 8 (.q 9 (.q 10 (.q 11 (.q 12 (.q 13 (.q 14 (.q 15 (.q 16 (.q 17 (.q 18 (.q 19 (.q 20 (.q 21 (.q 22 (.q 23 (.q 24 (.q 25 (.q 26 (.q 27 (.q 28 (.q 29 (.q 30 (.q 31 (.q 32 (.q 33 (.q 34 (.q 35 (.q 36 (.q 37 (.q 38 (.q 39 (.q 40 (.q 41 (.q 42 (.q 43 (.q 44 (.q 45 (.q 46 (.q 47 (.q 48 (.q 49 (.q 50 (.q 51 (.q 52 (.q 53 (.q 54 (.q 55 (.q 56 (.q 57 (.q 58 (.q 59 (.q 60 (.q 61 (.q 62 (.q 63 (.q 64 (.q 65 (.q 66 (.q 67 (.q 68 (.q 69 (.q 70 (.q 71 (.one 72 (.one 73 (.q 74 .done))))))))))))))))))))))))))))))))))))))))))))))))))))))))))))))))))))))))))) (by kernel_rfl) (by kernel_rfl) (fun _ _ d _ _ h => by cases d <;> exact h) ?_
      iterate 23 (refine wpUP_q rfl (fun K hK => ?_); go_simp; refine hK _ ?_; clear hK K)
      apply wpUP_g2 rfl
      case hb => intro F hF; go_simp; exact hF
      case h1 => intro hb K hK; go_simp; exact hK
      apply wpUP_g2 rfl
      case hb => intro F hF; go_simp; exact hF
      case h1 => intro hb K hK; go_simp; exact hK
      apply wpUP_g2 rfl
      case hb => intro F hF; go_simp; exact hF
      case h1 => intro hb K hK; go_simp; exact hK
      iterate 2 (refine wpUP_q rfl (fun K hK => ?_); go_simp; refine hK _ ?_; clear hK K)
      apply wpUP_g2 rfl
      case hb => intro F hF; go_simp; exact hF
      case h1 => intro hb K hK; go_simp; exact hK
      apply wpUP_g2 rfl
      case hb => intro F hF; go_simp; exact hF
      case h1 => intro hb K hK; go_simp; exact hK
      apply wpUP_g2 rfl
      case hb => intro F hF; go_simp; exact hF
      case h1 => intro hb K hK; go_simp; exact hK
      apply wpUP_g2 rfl
      case hb => intro F hF; go_simp; exact hF
      case h1 => intro hb K hK; go_simp; exact hK
      apply wpUP_g2 rfl
      case hb => intro F hF; go_simp; exact hF
      case h1 => intro hb K hK; go_simp; exact hK
      apply wpUP_g2 rfl
      case hb => intro F hF; go_simp; exact hF
      case h1 => intro hb K hK; go_simp; exact hK
      apply wpUP_g2 rfl
      case hb => intro F hF; go_simp; exact hF
      case h1 => intro hb K hK; go_simp; exact hK
      iterate 37 (refine wpUP_q rfl (fun K hK => ?_); go_simp; refine hK _ ?_; clear hK K)
      clear hx1 hx2 hx3 hx4 hw2
      clear fe hne
      refine wpUP_one rfl ?_
      intro wa hua
      go_wp2_with fail
      refine ⟨(Below.refl _ _).alloc (Nat.le_refl _) _, ?_⟩
      have hblk := Blk.new wa 81 [.int .i64 6, .bool false, .int .i64 6, .bool (x1 && x2 && x3 == x4), .int .i64 6, .bool true, .int .i64 6, .bool true]
      have hub : Up w1 (wa.alloc (.cells #[.int .i64 6, .bool false, .int .i64 6, .bool (x1 && x2 && x3 == x4), .int .i64 6, .bool true, .int .i64 6, .bool true] 81)) := Up.trans hua ((Below.refl _ _).alloc (Nat.le_refl _) _)
      have HBK := Troupe.hid hblk
      have HU2 := Troupe.hid hub
      clear hblk hub hua
      generalize wa.alloc (.cells #[.int .i64 6, .bool false, .int .i64 6, .bool (x1 && x2 && x3 == x4), .int .i64 6, .bool true, .int .i64 6, .bool true] 81) = wb at *
      generalize wa.heap.size = gr at *
      refine wpUP_one rfl ?_
      intro wd hud
      have BR := Troupe.hid (BRK.out gr wd _ _ _ _ (HBK.out.below hud HBK.out.lt))
      have HU3 := Troupe.hid (HU2.out.trans hud)
      clear hud
      go_wp2_with fail
      refine BR.out.mono ?_
      rintro en we ⟨rfl, hue⟩
      have UA4 := Troupe.hid (HU3.out.trans hue)
      go_wp2_with fail
      refine ⟨hue, ?_⟩
      have hne4 := UW.inh we
      clear hue
      refine wpUP_q rfl (fun K hK => ?_); go_simp; refine hK _ ?_; clear hK K
      refine wpUP_done ?_
      intro w6 huf
      have UA := Troupe.hid (UA4.out.trans huf)
      have H6 := Troupe.hid (H1.out.below UA.out)
      have B6 := Troupe.hid (B1.out.trans (UA.out.mono hz1))
      clear huf hne4
      have hn6 : brokenV [⟨6, false⟩, ⟨6, x1 && x2 && x3 == x4⟩, ⟨6, true⟩, ⟨6, true⟩] = 6 := rfl
      go_wp2_with fail
      go_ret
      exact Ruled.same FIN.out H6.out B6.out hw

  | some p =>
    obtain ⟨j, l⟩ := p
    obtain ⟨g, hg, hx, hp, hlb⟩ := lt_found H1.out hv
    rw [← hv, hp]
    have fl : ∀ (x : UW w1) (i : Nat), x.w.cell? ⟨g, i, none⟩ = l.cells[i]? := fun x => (hlb.below x.h hlb.lt).cell
    dsimp only [Lt.cells] at fl
    have HV := Troupe.hid hv
    have HG := Troupe.hid hg
    have HX := Troupe.hid hx
    have HLB := Troupe.hid hlb
    clear hv hg hx hp hlb
    obtain ⟨x1, hx1⟩ : ∃ b, decide (1 ≤ why) = b := ⟨_, rfl⟩
    obtain ⟨x2, hx2⟩ : ∃ b, decide (why ≤ 5) = b := ⟨_, rfl⟩
    obtain ⟨x3, hx3⟩ : ∃ b, (why == 3) = b := ⟨_, rfl⟩
    obtain ⟨x4, hx4⟩ : ∃ b, (dst == 0) = b := ⟨_, rfl⟩
    obtain ⟨x5, hx5⟩ : ∃ b, (why != 4) = b := ⟨_, rfl⟩
    obtain ⟨x6, hx6⟩ : ∃ b, (why != 5) = b := ⟨_, rfl⟩
    obtain ⟨y1, hy1⟩ : ∃ b, (l.ev.dst == dst) = b := ⟨_, rfl⟩
    have HX1 := Troupe.hid hx1
    have HX2 := Troupe.hid hx2
    have HX3 := Troupe.hid hx3
    have HX4 := Troupe.hid hx4
    have HX5 := Troupe.hid hx5
    have HX6 := Troupe.hid hx6
    have HY1 := Troupe.hid hy1
    cases hw2 : (why != 2) with
    | false =>
      obtain ⟨c3, hc3⟩ : ∃ c3, isV (acV bk.acs dst) [4, 5] = c3 := ⟨_, rfl⟩
      have HC3 := Troupe.hid hc3
      have HW2 := Troupe.hid hw2
      clear hc3
      refine region_up (.q 0 (.q 1 (.q 2 (.q 3 (.q 4 (.q 5 (.q 6 (.q 7 (.q 8 (.q 9 (.q 10 (.q 11 (.q 12 (.q 13 (.q 14 (.q 15 (.q 16 (.q 17 (.q 18 (.q 19 (.q 20 (.q 21 (.q 22 (.q 23 (.q 24 (.q 25 (.q 26 (.q 27 (.q 28 (.q 29 (.q 30 (.q 31 (.q 32 (.q 33 (.q 34 (.q 35 (.q 36 (.q 37 (.q 38 (.q 39 (.q 40 (.q 41 (.q 46 (.q 47 (.one 42 (.q 43 (.q 44 (.q 45 (.q 48 (.q 49 (.q 50 (.q 51 (.q 52 (.q 53 (.q 54 (.q 55 (.q 56 (.q 57 (.q 58 (.q 59 (.q 60 (.q 61 (.q 62 (.q 63 (.q 64 (.q 65 (.q 66 (.q 67 (.q 68 (.q 69 (.q 70 (.q 71 (.one 72 (.one 73 (.q 74 .done))))))))))))))))))))))))))))))))))))))))))))))))))))))))))))))))))))))))))) (by kernel_rfl) (by kernel_rfl) (fun _ _ d _ _ h => by cases d <;> exact h) ?_
      iterate 9 (refine wpUP_q rfl (fun K hK => ?_); go_simp; refine hK _ ?_; clear hK K)
      apply wpUP_g2 rfl
      case hb => intro F hF; go_simp; exact hF
      case h1 => intro hb K hK; go_simp; exact hK
      apply wpUP_g2 rfl
      case hb => intro F hF; go_simp; exact hF
      case h1 => intro hb K hK; go_simp; exact hK
      apply wpUP_g2 rfl
      case hb => intro F hF; go_simp; exact hF
      case h1 => intro hb K hK; go_simp; exact hK
      apply wpUP_g2 rfl
      case hb => intro F hF; go_simp; exact hF
      case h1 => intro hb K hK; go_simp; exact hK
      apply wpUP_g2 rfl
      case hb => intro F hF; go_simp; exact hF
      case h1 => intro hb K hK; go_simp; exact hK
      apply wpUP_g2 rfl
      case hb => intro F hF; go_simp; exact hF
      case h1 => intro hb K hK; go_simp; exact hK
      apply wpUP_g2 rfl
      case hb => intro F hF; go_simp; exact hF
      case h1 => intro hb K hK; go_simp; exact hK
      apply wpUP_g2 rfl
      case hb => intro F hF; go_simp; exact hF
      case h1 => intro hb K hK; go_simp; exact hK
      iterate 6 (refine wpUP_q rfl (fun K hK => ?_); go_simp; refine hK _ ?_; clear hK K)
      apply wpUP_g2 rfl
      case hb => intro F hF; go_simp; exact hF
      case h1 => intro hb K hK; go_simp; exact hK
      apply wpUP_g2 rfl
      case hb => intro F hF; go_simp; exact hF
      case h1 => intro hb K hK; go_simp; exact hK
      apply wpUP_g2 rfl
      case hb => intro F hF; go_simp; exact hF
      case h1 => intro hb K hK; go_simp; exact hK
      iterate 2 (refine wpUP_q rfl (fun K hK => ?_); go_simp; refine hK _ ?_; clear hK K)
      apply wpUP_g2 rfl
      case hb => intro F hF; go_simp; exact hF
      case h1 => intro hb K hK; go_simp; exact hK
      apply wpUP_g2 rfl
      case hb => intro F hF; go_simp; exact hF
      case h1 => intro hb K hK; go_simp; exact hK
      apply wpUP_g2 rfl
      case hb => intro F hF; go_simp; exact hF
      case h1 => intro hb K hK; go_simp; exact hK
      apply wpUP_g2 rfl
      case hb => intro F hF; go_simp; exact hF
      case h1 => intro hb K hK; go_simp; exact hK
      apply wpUP_g2 rfl
      case hb => intro F hF; go_simp; exact hF
      case h1 => intro hb K hK; go_simp; exact hK
      apply wpUP_g2 rfl
      case hb => intro F hF; go_simp; exact hF
      case h1 => intro hb K hK; go_simp; exact hK
      apply wpUP_g2 rfl
      case hb => intro F hF; go_simp; exact hF
      case h1 => intro hb K hK; go_simp; exact hK
      iterate 9 (refine wpUP_q rfl (fun K hK => ?_); go_simp; refine hK _ ?_; clear hK K)
      refine wpUP_one rfl ?_
      intro wx hux
      go_wp2_with fail
      refine ⟨(Below.refl _ _).alloc (Nat.le_refl _) _, ?_⟩
      have hblk := Blk.new wx 3 [.int .i64 4, .int .i64 5]
      have HUY := Troupe.hid (Up.trans hux ((Below.refl _ _).alloc (Nat.le_refl _) _ : Up wx (wx.alloc (.cells #[.int .i64 4, .int .i64 5] 3))))
      have HB3 := Troupe.hid hblk
      clear hblk hux
      generalize wx.alloc (.cells #[.int .i64 4, .int .i64 5] 3) = wy at *
      generalize wx.heap.size = gm at *
      have hney := UW.inh wy
      clear fe hne
      have fe : ∀ (x : UW wy) (i : Nat), x.w.cell? ⟨w.heap.size, i, none⟩ = (Ev.cells ⟨kd, actor, id', src, dst, name, n, why, timed⟩)[i]? := fun x => (K1.out.below (HUY.out.trans x.h) K1.out.lt).cell
      dsimp only [Ev.cells] at fe
      clear fl
      have fl : ∀ (x : UW wy) (i : Nat), x.w.cell? ⟨g, i, none⟩ = l.cells[i]? := fun x => (HLB.out.below (HUY.out.trans x.h) HLB.out.lt).cell
      dsimp only [Lt.cells] at fl
      have IS : Hid (∀ x : UW wy, Calls Try.prog 37 #[aptr ag (acV bk.acs dst), .slice (some ⟨gm, 0, none⟩) 2 2] x.w fun en w' => en = .returned (.bool c3) ∧ Up x.w w') := fun x => (is_any (H1.out.below (HUY.out.trans x.h)) dst (some ⟨gm, 0, none⟩) 2 2 [4, 5] rfl (by unfold maxLen; omega) ((HB3.out.below x.h HB3.out.lt).blk_cells.mono (by have := (HB3.out.below x.h HB3.out.lt).lt; omega))).mono fun _ _ ⟨h1, h2⟩ => ⟨by rw [h1, HC3.out], h2 ▸ Up.refl _⟩
      refine wpUP_q rfl (fun K hK => ?_)
      go_simp
      refine ⟨_, IS.out, hK _ ?_⟩
      clear hK K
      iterate 7 (refine wpUP_q rfl (fun K hK => ?_); go_simp; refine hK _ ?_; clear hK K)
      apply wpUP_g2 rfl
      case hb => intro F hF; go_simp; exact hF
      case h1 => intro hb K hK; go_simp; exact hK
      apply wpUP_g2 rfl
      case hb => intro F hF; go_simp; exact hF
      case h1 => intro hb K hK; go_simp; exact hK
      apply wpUP_g2 rfl
      case hb => intro F hF; go_simp; exact hF
      case h1 => intro hb K hK; go_simp; exact hK
      apply wpUP_g2 rfl
      case hb => intro F hF; go_simp; exact hF
      case h1 => intro hb K hK; go_simp; exact hK
      apply wpUP_g2 rfl
      case hb => intro F hF; go_simp; exact hF
      case h1 => intro hb K hK; go_simp; exact hK
      iterate 2 (refine wpUP_q rfl (fun K hK => ?_); go_simp; refine hK _ ?_; clear hK K)
      obtain ⟨q, hq⟩ : ∃ q, (x5 || l.ev.timed) = q := ⟨_, rfl⟩
      simp only [hq]
      have HQ := Troupe.hid hq
      clear hq
      cases q with
      | false =>
        iterate 12 (refine wpUP_q rfl (fun K hK => ?_); go_simp; refine hK _ ?_; clear hK K)
        clear fe fl hney hx1 hx2 hx3 hx4 hx5 hx6 hy1 hw2
        refine wpUP_one rfl ?_
        intro wa hua
        go_wp2_with fail
        refine ⟨(Below.refl _ _).alloc (Nat.le_refl _) _, ?_⟩
        have hblk := Blk.new wa 81 [.int .i64 6, .bool (l.held && y1), .int .i64 6, .bool (x1 && x2 && x3 == x4), .int .i64 6, .bool c3, .int .i64 6, .bool false]
        have hub : Up w1 (wa.alloc (.cells #[.int .i64 6, .bool (l.held && y1), .int .i64 6, .bool (x1 && x2 && x3 == x4), .int .i64 6, .bool c3, .int .i64 6, .bool false] 81)) := Up.trans (HUY.out.trans hua) ((Below.refl _ _).alloc (Nat.le_refl _) _)
        have HBK := Troupe.hid hblk
        have HU2 := Troupe.hid hub
        clear hblk hub hua
        generalize wa.alloc (.cells #[.int .i64 6, .bool (l.held && y1), .int .i64 6, .bool (x1 && x2 && x3 == x4), .int .i64 6, .bool c3, .int .i64 6, .bool false] 81) = wb at *
        generalize wa.heap.size = gr at *
        refine wpUP_one rfl ?_
        intro wd hud
        have BR := Troupe.hid (BRK.out gr wd _ _ _ _ (HBK.out.below hud HBK.out.lt))
        have HU3 := Troupe.hid (HU2.out.trans hud)
        clear hud
        go_wp2_with fail
        refine BR.out.mono ?_
        rintro en we ⟨rfl, hue⟩
        have UA4 := Troupe.hid (HU3.out.trans hue)
        go_wp2_with fail
        refine ⟨hue, ?_⟩
        have hne4 := UW.inh we
        clear hue
        refine wpUP_q rfl (fun K hK => ?_); go_simp; refine hK _ ?_; clear hK K
        refine wpUP_done ?_
        intro w6 huf
        have UA := Troupe.hid (UA4.out.trans huf)
        have H6 := Troupe.hid (H1.out.below UA.out)
        have B6 := Troupe.hid (B1.out.trans (UA.out.mono hz1))
        clear huf hne4
        obtain ⟨cc, hcc⟩ : ∃ cc, ((l.held && y1) && (x1 && x2 && x3 == x4) && c3 && false) = cc := ⟨_, rfl⟩
        have hnb : brokenV [⟨6, (l.held && y1)⟩, ⟨6, (x1 && x2 && x3 == x4)⟩, ⟨6, c3⟩, ⟨6, false⟩] = if cc = true then 0 else 6 := by rw [← hcc]; exact broken4 _ _ _ _
        rw [hnb]
        have DV : Hid (deadV bk ⟨kd, actor, id', src, dst, name, n, why, timed⟩ = if cc = true then (0, bk.setL j { l with held := false }) else (6, bk)) := by
          unfold Hid deadV
          dsimp only
          rw [HV.out]
          dsimp only
          rw [HX1.out, HX2.out, HX3.out, HX4.out, HX5.out, HX6.out, HY1.out, HW2.out, HQ.out, HC3.out, ← hcc]
          simp only [Bool.false_or, Bool.and_assoc, Bool.and_false, Bool.false_and]
        clear hnb hcc
        cases cc with
        | false =>
          have FIN : Hid (deadV bk ⟨kd, actor, id', src, dst, name, n, why, timed⟩ = (6, bk)) := DV.out
          go_wp2_with fail
          go_ret
          exact Ruled.same FIN.out H6.out B6.out hw
        | true =>
          have FIN : Hid (deadV bk ⟨kd, actor, id', src, dst, name, n, why, timed⟩ = (0, bk.setL j { l with held := false })) := DV.out
          have L6 := Troupe.hid (HLB.out.below UA.out HLB.out.lt)
          have e6 := L6.out.cell
          have z6 := L6.out.frozen
          dsimp only [Lt.cells] at e6
          go_wp2_with fail
          go_ret
          exact Ruled.same' FIN.out (BookAt.setL H6.out HX.out HG.out (Frm.one w6 ⟨g, 11, none⟩ (.bool false)) (L6.out.set_ 11 (.bool false))) ⟨(B6.out.mono hw).setCell (H6.out.gl g (List.mem_of_getElem? HG.out)) _, (K52.of B6.out).set L6.out (by decide) (Frm.one w6 ⟨g, 11, none⟩ (.bool false))⟩

      | true =>
        iterate 4 (refine wpUP_q rfl (fun K hK => ?_); go_simp; refine hK _ ?_; clear hK K)
        apply wpUP_g2 rfl
        case hb => intro F hF; go_simp; exact hF
        case h1 => intro hb K hK; go_simp; exact hK
        apply wpUP_g2 rfl
        case hb => intro F hF; go_simp; exact hF
        case h1 => intro hb K hK; go_simp; exact hK
        apply wpUP_g2 rfl
        case hb => intro F hF; go_simp; exact hF
        case h1 => intro hb K hK; go_simp; exact hK
        apply wpUP_g2 rfl
        case hb => intro F hF; go_simp; exact hF
        case h1 => intro hb K hK; go_simp; exact hK
        iterate 4 (refine wpUP_q rfl (fun K hK => ?_); go_simp; refine hK _ ?_; clear hK K)
        clear fe fl hney hx1 hx2 hx3 hx4 hx5 hx6 hy1 hw2
        refine wpUP_one rfl ?_
        intro wa hua
        go_wp2_with fail
        refine ⟨(Below.refl _ _).alloc (Nat.le_refl _) _, ?_⟩
        have hblk := Blk.new wa 81 [.int .i64 6, .bool (l.held && y1), .int .i64 6, .bool (x1 && x2 && x3 == x4), .int .i64 6, .bool c3, .int .i64 6, .bool (x6 || l.notice)]
        have hub : Up w1 (wa.alloc (.cells #[.int .i64 6, .bool (l.held && y1), .int .i64 6, .bool (x1 && x2 && x3 == x4), .int .i64 6, .bool c3, .int .i64 6, .bool (x6 || l.notice)] 81)) := Up.trans (HUY.out.trans hua) ((Below.refl _ _).alloc (Nat.le_refl _) _)
        have HBK := Troupe.hid hblk
        have HU2 := Troupe.hid hub
        clear hblk hub hua
        generalize wa.alloc (.cells #[.int .i64 6, .bool (l.held && y1), .int .i64 6, .bool (x1 && x2 && x3 == x4), .int .i64 6, .bool c3, .int .i64 6, .bool (x6 || l.notice)] 81) = wb at *
        generalize wa.heap.size = gr at *
        refine wpUP_one rfl ?_
        intro wd hud
        have BR := Troupe.hid (BRK.out gr wd _ _ _ _ (HBK.out.below hud HBK.out.lt))
        have HU3 := Troupe.hid (HU2.out.trans hud)
        clear hud
        go_wp2_with fail
        refine BR.out.mono ?_
        rintro en we ⟨rfl, hue⟩
        have UA4 := Troupe.hid (HU3.out.trans hue)
        go_wp2_with fail
        refine ⟨hue, ?_⟩
        have hne4 := UW.inh we
        clear hue
        refine wpUP_q rfl (fun K hK => ?_); go_simp; refine hK _ ?_; clear hK K
        refine wpUP_done ?_
        intro w6 huf
        have UA := Troupe.hid (UA4.out.trans huf)
        have H6 := Troupe.hid (H1.out.below UA.out)
        have B6 := Troupe.hid (B1.out.trans (UA.out.mono hz1))
        clear huf hne4
        obtain ⟨cc, hcc⟩ : ∃ cc, ((l.held && y1) && (x1 && x2 && x3 == x4) && c3 && (x6 || l.notice)) = cc := ⟨_, rfl⟩
        have hnb : brokenV [⟨6, (l.held && y1)⟩, ⟨6, (x1 && x2 && x3 == x4)⟩, ⟨6, c3⟩, ⟨6, (x6 || l.notice)⟩] = if cc = true then 0 else 6 := by rw [← hcc]; exact broken4 _ _ _ _
        rw [hnb]
        have DV : Hid (deadV bk ⟨kd, actor, id', src, dst, name, n, why, timed⟩ = if cc = true then (0, bk.setL j { l with held := false }) else (6, bk)) := by
          unfold Hid deadV
          dsimp only
          rw [HV.out]
          dsimp only
          rw [HX1.out, HX2.out, HX3.out, HX4.out, HX5.out, HX6.out, HY1.out, HW2.out, HQ.out, HC3.out, ← hcc]
          simp only [Bool.false_or, Bool.and_assoc, Bool.true_and]
        clear hnb hcc
        cases cc with
        | false =>
          have FIN : Hid (deadV bk ⟨kd, actor, id', src, dst, name, n, why, timed⟩ = (6, bk)) := DV.out
          go_wp2_with fail
          go_ret
          exact Ruled.same FIN.out H6.out B6.out hw
        | true =>
          have FIN : Hid (deadV bk ⟨kd, actor, id', src, dst, name, n, why, timed⟩ = (0, bk.setL j { l with held := false })) := DV.out
          have L6 := Troupe.hid (HLB.out.below UA.out HLB.out.lt)
          have e6 := L6.out.cell
          have z6 := L6.out.frozen
          dsimp only [Lt.cells] at e6
          go_wp2_with fail
          go_ret
          exact Ruled.same' FIN.out (BookAt.setL H6.out HX.out HG.out (Frm.one w6 ⟨g, 11, none⟩ (.bool false)) (L6.out.set_ 11 (.bool false))) ⟨(B6.out.mono hw).setCell (H6.out.gl g (List.mem_of_getElem? HG.out)) _, (K52.of B6.out).set L6.out (by decide) (Frm.one w6 ⟨g, 11, none⟩ (.bool false))⟩

    | true =>
      have HW2 := Troupe.hid hw2
      refine region_up (.q 0 (.q 1 (.q 2 (.q 3 (.q 4 (.q 5 (.q 6 (.q 7 (.q 8 (.q 9 (.q 10 (.q 11 (.q 12 (.q 13 (.q 14 (.q 15 (.q 16 (.q 17 (.q 18 (.q 19 (.q 20 (.q 21 (.q 22 (.q 23 (.q 24 (.q 25 (.q 26 (.q 27 (.q 28 (.q 29 (.q 30 (.q 31 (.q 32 (.q 33 (.q 34 (.q 35 (.q 36 (.q 37 (.q 38 (.q 39 (.q 40 (.q 41 (.q 42 (.q 43 (.q 44 (.q 45 (.q 46 (.q 47 (.q 48 (.q 49 (.q 50 (.q 51 (.q 52 (.q 53 (.q 54 (.q 55 (.q 56 (.q 57 (.q 58 (.q 59 (.q 60 (.q 61 (.q 62 (.q 63 (.q 64 (.q 65 (.q 66 (.q 67 (.q 68 (.q 69 (.q 70 (.q 71 (.one 72 (.one 73 (.q 74 .done))))))))))))))))))))))))))))))))))))))))))))))))))))))))))))))))))))))))))) (by kernel_rfl) (by kernel_rfl) (fun _ _ d _ _ h => by cases d <;> exact h) ?_
      iterate 9 (refine wpUP_q rfl (fun K hK => ?_); go_simp; refine hK _ ?_; clear hK K)
      apply wpUP_g2 rfl
      case hb => intro F hF; go_simp; exact hF
      case h1 => intro hb K hK; go_simp; exact hK
      apply wpUP_g2 rfl
      case hb => intro F hF; go_simp; exact hF
      case h1 => intro hb K hK; go_simp; exact hK
      apply wpUP_g2 rfl
      case hb => intro F hF; go_simp; exact hF
      case h1 => intro hb K hK; go_simp; exact hK
      apply wpUP_g2 rfl
      case hb => intro F hF; go_simp; exact hF
      case h1 => intro hb K hK; go_simp; exact hK
      apply wpUP_g2 rfl
      case hb => intro F hF; go_simp; exact hF
      case h1 => intro hb K hK; go_simp; exact hK
      apply wpUP_g2 rfl
      case hb => intro F hF; go_simp; exact hF
      case h1 => intro hb K hK; go_simp; exact hK
      apply wpUP_g2 rfl
      case hb => intro F hF; go_simp; exact hF
      case h1 => intro hb K hK; go_simp; exact hK
      apply wpUP_g2 rfl
      case hb => intro F hF; go_simp; exact hF
      case h1 => intro hb K hK; go_simp; exact hK
      iterate 6 (refine wpUP_q rfl (fun K hK => ?_); go_simp; refine hK _ ?_; clear hK K)
      apply wpUP_g2 rfl
      case hb => intro F hF; go_simp; exact hF
      case h1 => intro hb K hK; go_simp; exact hK
      apply wpUP_g2 rfl
      case hb => intro F hF; go_simp; exact hF
      case h1 => intro hb K hK; go_simp; exact hK
      apply wpUP_g2 rfl
      case hb => intro F hF; go_simp; exact hF
      case h1 => intro hb K hK; go_simp; exact hK
      iterate 2 (refine wpUP_q rfl (fun K hK => ?_); go_simp; refine hK _ ?_; clear hK K)
      apply wpUP_g2 rfl
      case hb => intro F hF; go_simp; exact hF
      case h1 => intro hb K hK; go_simp; exact hK
      apply wpUP_g2 rfl
      case hb => intro F hF; go_simp; exact hF
      case h1 => intro hb K hK; go_simp; exact hK
      apply wpUP_g2 rfl
      case hb => intro F hF; go_simp; exact hF
      case h1 => intro hb K hK; go_simp; exact hK
      apply wpUP_g2 rfl
      case hb => intro F hF; go_simp; exact hF
      case h1 => intro hb K hK; go_simp; exact hK
      apply wpUP_g2 rfl
      case hb => intro F hF; go_simp; exact hF
      case h1 => intro hb K hK; go_simp; exact hK
      apply wpUP_g2 rfl
      case hb => intro F hF; go_simp; exact hF
      case h1 => intro hb K hK; go_simp; exact hK
      apply wpUP_g2 rfl
      case hb => intro F hF; go_simp; exact hF
      case h1 => intro hb K hK; go_simp; exact hK
      iterate 18 (refine wpUP_q rfl (fun K hK => ?_); go_simp; refine hK _ ?_; clear hK K)
      apply wpUP_g2 rfl
      case hb => intro F hF; go_simp; exact hF
      case h1 => intro hb K hK; go_simp; exact hK
      apply wpUP_g2 rfl
      case hb => intro F hF; go_simp; exact hF
      case h1 => intro hb K hK; go_simp; exact hK
      apply wpUP_g2 rfl
      case hb => intro F hF; go_simp; exact hF
      case h1 => intro hb K hK; go_simp; exact hK
      apply wpUP_g2 rfl
      case hb => intro F hF; go_simp; exact hF
      case h1 => intro hb K hK; go_simp; exact hK
      apply wpUP_g2 rfl
      case hb => intro F hF; go_simp; exact hF
      case h1 => intro hb K hK; go_simp; exact hK
      iterate 2 (refine wpUP_q rfl (fun K hK => ?_); go_simp; refine hK _ ?_; clear hK K)
      obtain ⟨q, hq⟩ : ∃ q, (x5 || l.ev.timed) = q := ⟨_, rfl⟩
      simp only [hq]
      have HQ := Troupe.hid hq
      clear hq
      cases q with
      | false =>
        iterate 12 (refine wpUP_q rfl (fun K hK => ?_); go_simp; refine hK _ ?_; clear hK K)
        clear fe fl hne hx1 hx2 hx3 hx4 hx5 hx6 hy1 hw2
        refine wpUP_one rfl ?_
        intro wa hua
        go_wp2_with fail
        refine ⟨(Below.refl _ _).alloc (Nat.le_refl _) _, ?_⟩
        have hblk := Blk.new wa 81 [.int .i64 6, .bool (l.held && y1), .int .i64 6, .bool (x1 && x2 && x3 == x4), .int .i64 6, .bool true, .int .i64 6, .bool false]
        have hub : Up w1 (wa.alloc (.cells #[.int .i64 6, .bool (l.held && y1), .int .i64 6, .bool (x1 && x2 && x3 == x4), .int .i64 6, .bool true, .int .i64 6, .bool false] 81)) := Up.trans hua ((Below.refl _ _).alloc (Nat.le_refl _) _)
        have HBK := Troupe.hid hblk
        have HU2 := Troupe.hid hub
        clear hblk hub hua
        generalize wa.alloc (.cells #[.int .i64 6, .bool (l.held && y1), .int .i64 6, .bool (x1 && x2 && x3 == x4), .int .i64 6, .bool true, .int .i64 6, .bool false] 81) = wb at *
        generalize wa.heap.size = gr at *
        refine wpUP_one rfl ?_
        intro wd hud
        have BR := Troupe.hid (BRK.out gr wd _ _ _ _ (HBK.out.below hud HBK.out.lt))
        have HU3 := Troupe.hid (HU2.out.trans hud)
        clear hud
        go_wp2_with fail
        refine BR.out.mono ?_
        rintro en we ⟨rfl, hue⟩
        have UA4 := Troupe.hid (HU3.out.trans hue)
        go_wp2_with fail
        refine ⟨hue, ?_⟩
        have hne4 := UW.inh we
        clear hue
        refine wpUP_q rfl (fun K hK => ?_); go_simp; refine hK _ ?_; clear hK K
        refine wpUP_done ?_
        intro w6 huf
        have UA := Troupe.hid (UA4.out.trans huf)
        have H6 := Troupe.hid (H1.out.below UA.out)
        have B6 := Troupe.hid (B1.out.trans (UA.out.mono hz1))
        clear huf hne4
        obtain ⟨cc, hcc⟩ : ∃ cc, ((l.held && y1) && (x1 && x2 && x3 == x4) && true && false) = cc := ⟨_, rfl⟩
        have hnb : brokenV [⟨6, (l.held && y1)⟩, ⟨6, (x1 && x2 && x3 == x4)⟩, ⟨6, true⟩, ⟨6, false⟩] = if cc = true then 0 else 6 := by rw [← hcc]; exact broken4 _ _ _ _
        rw [hnb]
        have DV : Hid (deadV bk ⟨kd, actor, id', src, dst, name, n, why, timed⟩ = if cc = true then (0, bk.setL j { l with held := false }) else (6, bk)) := by
          unfold Hid deadV
          dsimp only
          rw [HV.out]
          dsimp only
          rw [HX1.out, HX2.out, HX3.out, HX4.out, HX5.out, HX6.out, HY1.out, HW2.out, HQ.out, ← hcc]
          simp only [Bool.true_or, Bool.and_assoc, Bool.and_true, Bool.and_false, Bool.false_and]
        clear hnb hcc
        cases cc with
        | false =>
          have FIN : Hid (deadV bk ⟨kd, actor, id', src, dst, name, n, why, timed⟩ = (6, bk)) := DV.out
          go_wp2_with fail
          go_ret
          exact Ruled.same FIN.out H6.out B6.out hw
        | true =>
          have FIN : Hid (deadV bk ⟨kd, actor, id', src, dst, name, n, why, timed⟩ = (0, bk.setL j { l with held := false })) := DV.out
          have L6 := Troupe.hid (HLB.out.below UA.out HLB.out.lt)
          have e6 := L6.out.cell
          have z6 := L6.out.frozen
          dsimp only [Lt.cells] at e6
          go_wp2_with fail
          go_ret
          exact Ruled.same' FIN.out (BookAt.setL H6.out HX.out HG.out (Frm.one w6 ⟨g, 11, none⟩ (.bool false)) (L6.out.set_ 11 (.bool false))) ⟨(B6.out.mono hw).setCell (H6.out.gl g (List.mem_of_getElem? HG.out)) _, (K52.of B6.out).set L6.out (by decide) (Frm.one w6 ⟨g, 11, none⟩ (.bool false))⟩

      | true =>
        iterate 4 (refine wpUP_q rfl (fun K hK => ?_); go_simp; refine hK _ ?_; clear hK K)
        apply wpUP_g2 rfl
        case hb => intro F hF; go_simp; exact hF
        case h1 => intro hb K hK; go_simp; exact hK
        apply wpUP_g2 rfl
        case hb => intro F hF; go_simp; exact hF
        case h1 => intro hb K hK; go_simp; exact hK
        apply wpUP_g2 rfl
        case hb => intro F hF; go_simp; exact hF
        case h1 => intro hb K hK; go_simp; exact hK
        apply wpUP_g2 rfl
        case hb => intro F hF; go_simp; exact hF
        case h1 => intro hb K hK; go_simp; exact hK
        iterate 4 (refine wpUP_q rfl (fun K hK => ?_); go_simp; refine hK _ ?_; clear hK K)
        clear fe fl hne hx1 hx2 hx3 hx4 hx5 hx6 hy1 hw2
        refine wpUP_one rfl ?_
        intro wa hua
        go_wp2_with fail
        refine ⟨(Below.refl _ _).alloc (Nat.le_refl _) _, ?_⟩
        have hblk := Blk.new wa 81 [.int .i64 6, .bool (l.held && y1), .int .i64 6, .bool (x1 && x2 && x3 == x4), .int .i64 6, .bool true, .int .i64 6, .bool (x6 || l.notice)]
        have hub : Up w1 (wa.alloc (.cells #[.int .i64 6, .bool (l.held && y1), .int .i64 6, .bool (x1 && x2 && x3 == x4), .int .i64 6, .bool true, .int .i64 6, .bool (x6 || l.notice)] 81)) := Up.trans hua ((Below.refl _ _).alloc (Nat.le_refl _) _)
        have HBK := Troupe.hid hblk
        have HU2 := Troupe.hid hub
        clear hblk hub hua
        generalize wa.alloc (.cells #[.int .i64 6, .bool (l.held && y1), .int .i64 6, .bool (x1 && x2 && x3 == x4), .int .i64 6, .bool true, .int .i64 6, .bool (x6 || l.notice)] 81) = wb at *
        generalize wa.heap.size = gr at *
        refine wpUP_one rfl ?_
        intro wd hud
        have BR := Troupe.hid (BRK.out gr wd _ _ _ _ (HBK.out.below hud HBK.out.lt))
        have HU3 := Troupe.hid (HU2.out.trans hud)
        clear hud
        go_wp2_with fail
        refine BR.out.mono ?_
        rintro en we ⟨rfl, hue⟩
        have UA4 := Troupe.hid (HU3.out.trans hue)
        go_wp2_with fail
        refine ⟨hue, ?_⟩
        have hne4 := UW.inh we
        clear hue
        refine wpUP_q rfl (fun K hK => ?_); go_simp; refine hK _ ?_; clear hK K
        refine wpUP_done ?_
        intro w6 huf
        have UA := Troupe.hid (UA4.out.trans huf)
        have H6 := Troupe.hid (H1.out.below UA.out)
        have B6 := Troupe.hid (B1.out.trans (UA.out.mono hz1))
        clear huf hne4
        obtain ⟨cc, hcc⟩ : ∃ cc, ((l.held && y1) && (x1 && x2 && x3 == x4) && true && (x6 || l.notice)) = cc := ⟨_, rfl⟩
        have hnb : brokenV [⟨6, (l.held && y1)⟩, ⟨6, (x1 && x2 && x3 == x4)⟩, ⟨6, true⟩, ⟨6, (x6 || l.notice)⟩] = if cc = true then 0 else 6 := by rw [← hcc]; exact broken4 _ _ _ _
        rw [hnb]
        have DV : Hid (deadV bk ⟨kd, actor, id', src, dst, name, n, why, timed⟩ = if cc = true then (0, bk.setL j { l with held := false }) else (6, bk)) := by
          unfold Hid deadV
          dsimp only
          rw [HV.out]
          dsimp only
          rw [HX1.out, HX2.out, HX3.out, HX4.out, HX5.out, HX6.out, HY1.out, HW2.out, HQ.out, ← hcc]
          simp only [Bool.true_or, Bool.and_assoc, Bool.true_and, Bool.and_true]
        clear hnb hcc
        cases cc with
        | false =>
          have FIN : Hid (deadV bk ⟨kd, actor, id', src, dst, name, n, why, timed⟩ = (6, bk)) := DV.out
          go_wp2_with fail
          go_ret
          exact Ruled.same FIN.out H6.out B6.out hw
        | true =>
          have FIN : Hid (deadV bk ⟨kd, actor, id', src, dst, name, n, why, timed⟩ = (0, bk.setL j { l with held := false })) := DV.out
          have L6 := Troupe.hid (HLB.out.below UA.out HLB.out.lt)
          have e6 := L6.out.cell
          have z6 := L6.out.frozen
          dsimp only [Lt.cells] at e6
          go_wp2_with fail
          go_ret
          exact Ruled.same' FIN.out (BookAt.setL H6.out HX.out HG.out (Frm.one w6 ⟨g, 11, none⟩ (.bool false)) (L6.out.set_ 11 (.bool false))) ⟨(B6.out.mono hw).setCell (H6.out.gl g (List.mem_of_getElem? HG.out)) _, (K52.of B6.out).set L6.out (by decide) (Frm.one w6 ⟨g, 11, none⟩ (.bool false))⟩

end Go.Proofs.Ytkjjhndccelbcaa
