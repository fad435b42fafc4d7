/- The rule of starting, by contract. -/
import Derived.Test.YtkjjhndccelbcaaEnd
import Derived.Test.YtkjjhndccelbcaaUpG
import Derived.Test.YtkjjhndccelbcaaStartLaws
import Derived.Test.YtkjjhndccelbcaaPlan
namespace Go.Proofs.Ytkjjhndccelbcaa
open Go.RowKit Go.Maps Go.Troupe
attribute [local go_sem] reads readAt readUpon Cls quietU pick_and' pick_or' pick_or'' pick_and2 pick_and3 pick_and4 pick_and4' pick_or2

theorem broken2 (n : Int) (a b : Bool) : brokenV [⟨n, a⟩, ⟨n, b⟩] = if (a && b) = true then 0 else n := by cases a <;> cases b <;> rfl
set_option pp.deepTerms true in
set_option pp.maxSteps 1000000 in
set_option maxRecDepth 100000 in
set_option maxHeartbeats 8000000 in
theorem start_any {w : World} {base gb ca cl : Nat} {pv : Value} {Aa Al : Option Addr} {bk : Bk} {ag lg : List Nat} (h : BookAt w base gb pv Aa ca Al cl bk ag lg) (hw : base ≤ w.heap.size) (e : Ev) (hl : bk.acs.length ≤ 140737488355328) (hll : bk.lts.length ≤ 14073748835532) (hid : 0 ≤ e.id ∧ e.id < 18446744073709551616) (hns : ∀ l ∈ bk.lts, -9223372036854775808 ≤ l.ev.n ∧ l.ev.n ≤ 9223372036854775807) :
    Calls Try.prog 18 #[.pointer (some ⟨gb, 0, none⟩), .agg e.cells.toArray] w (Ruled w base gb pv (startV bk e)) := by
  have F0 : Below w.heap.size w (w.alloc (.cells #[.int .i64 e.kd, .int .i64 e.actor, .int .u64 e.id, .int .i64 e.src, .int .i64 e.dst, .string e.name, .int .i64 e.n, .int .i64 e.why, .bool e.timed] 32)) := (Below.refl _ _).alloc (Nat.le_refl _) _
  have K0 : Blk (w.alloc (.cells #[.int .i64 e.kd, .int .i64 e.actor, .int .u64 e.id, .int .i64 e.src, .int .i64 e.dst, .string e.name, .int .i64 e.n, .int .i64 e.why, .bool e.timed] 32)) w.heap.size 32 e.cells := Blk.new _ _ _
  have H0 := Troupe.hid (h.below F0)
  have HF := Troupe.hid F0
  have HK := Troupe.hid K0
  have HNS := Troupe.hid hns
  have hz := F0.size
  have e0 := K0.cell
  dsimp only [Ev.cells] at e0 ⊢
  clear h F0 K0 hns
  go_enter Try.func18, Try.ntmps18
  go_upto_region 1 with (fail)
  generalize w.alloc (.cells #[.int .i64 e.kd, .int .i64 e.actor, .int .u64 e.id, .int .i64 e.src, .int .i64 e.dst, .string e.name, .int .i64 e.n, .int .i64 e.why, .bool e.timed] 32) = w0 at *
  clear e0
  have LT : Hid (∀ x : UW w0, Calls Try.prog 39 #[.pointer (some ⟨gb, 0, none⟩), .int .u64 e.id] x.w fun en w' => en = .returned (lptr lg (ltV bk.lts e.id)) ∧ Up x.w w') := fun x => (letter_any (H0.out.below x.h) e.id hid (by omega)).mono fun _ _ ⟨h1, h2⟩ => ⟨h1, h2 ▸ Up.refl _⟩
  have AC : Hid (∀ x : UW w0, Calls Try.prog 35 #[.pointer (some ⟨gb, 0, none⟩), .int .i64 e.actor] x.w fun en w' => en = .returned (aptr ag (acV bk.acs e.actor)) ∧ Up x.w w') := fun x => (actor_any (H0.out.below x.h) e.actor hl).mono fun _ _ ⟨h1, h2⟩ => ⟨h1, h2 ▸ Up.refl _⟩
  obtain ⟨kd, actor, id', src, dst, name, n, why, timed⟩ := e
  dsimp only at *
  go_cut [5, 6] from 5 to 18 (fun v5 v6 w' => v5 = aptr ag (acV bk.acs actor) ∧ v6 = lptr lg (ltV bk.lts id') ∧ Up w0 w')
  case first =>
    have hne := UW.inh w0
    have fe : ∀ (x : UW w0) (i : Nat), x.w.cell? ⟨w.heap.size, i, none⟩ = (Ev.cells ⟨kd, actor, id', src, dst, name, n, why, timed⟩)[i]? := fun x => (HK.out.below x.h HK.out.lt).cell
    dsimp only [Ev.cells] at fe
    refine region_up (.q 0 (.q 1 (.q 2 (.q 3 (.q 4 (.q 5 (.q 6 (.q 7 (.q 8 (.q 9 .done)))))))))) (by kernel_rfl) (by kernel_rfl) (fun _ _ d _ _ h => by cases d <;> exact h) ?_
    iterate 3 (refine wpUP_q rfl (fun K hK => ?_); go_simp; refine hK _ ?_; clear hK K)
    refine wpUP_q rfl (fun K hK => ?_)
    go_simp
    refine ⟨_, AC.out, hK _ ?_⟩
    clear hK K
    iterate 3 (refine wpUP_q rfl (fun K hK => ?_); go_simp; refine hK _ ?_; clear hK K)
    refine wpUP_q rfl (fun K hK => ?_)
    go_simp
    refine ⟨_, LT.out, hK _ ?_⟩
    clear hK K
    iterate 2 (refine wpUP_q rfl (fun K hK => ?_); go_simp; refine hK _ ?_; clear hK K)
    refine wpUP_done ?_
    intro w6 hu5
    have UA := Troupe.hid hu5
    clear hu5
    go_wp2_with fail
    go_meet
    case rel => exact ⟨rfl, rfl, UA.out⟩
  case rest =>
  obtain ⟨rfl, rfl, hwc⟩ := hcut
  obtain ⟨w1, rfl⟩ : ∃ w1 : World, w1 = wc := ⟨_, rfl⟩
  have H1 := Troupe.hid (H0.out.below hwc)
  have K1 := Troupe.hid (HK.out.below hwc HK.out.lt)
  have B1 := Troupe.hid (HF.out.trans (hwc.mono hz))
  have hz1 : w.heap.size ≤ w1.heap.size := B1.out.size
  clear hwc H0 HK HF LT AC
  go_step
  go_step
  obtain ⟨isb, his⟩ : ∃ b, isV (acV bk.acs actor) [1] = b := ⟨_, rfl⟩
  have HIS := Troupe.hid his
  obtain ⟨wk, hwk⟩ : ∃ b, worksV (acV bk.acs actor) = b := ⟨_, rfl⟩
  have HWK := Troupe.hid hwk
  obtain ⟨mb, hmb⟩ : ∃ b, (match ltV bk.lts id' with | some (_, l) => l.held && (l.ev.dst == actor) | none => false) = b := ⟨_, rfl⟩
  have HMB := Troupe.hid hmb
  obtain ⟨m6, hm6⟩ : ∃ m6, lptr lg (ltV bk.lts id') = m6 := ⟨_, rfl⟩
  rw [hm6]
  have HM6 := Troupe.hid hm6
  clear his hwk hmb hm6
  go_step
  go_cut [7] from 7 to 48 (fun v7 w' => v7 = .int .i64 (brokenV [⟨3, isb && !wk⟩, ⟨3, mb⟩]) ∧ Up w1 w')
  case first =>
    have BRK : Hid (∀ (g : Nat) (wb : World) (c1 c2 : Bool), Blk wb g 81 [.int .i64 3, .bool c1, .int .i64 3, .bool c2] → Calls Try.prog 38 #[.slice (some ⟨g, 0, none⟩) 2 2] wb fun en w' => en = .returned (.int .i64 (brokenV [⟨3, c1⟩, ⟨3, c2⟩])) ∧ Up wb w') := fun g wb c1 c2 hb => broken_any (some ⟨g, 0, none⟩) 2 2 wb.heap.size [⟨3, c1⟩, ⟨3, c2⟩] wb rfl (by unfold maxLen; omega) (hb.blk_cells.mono hb.lt) (Nat.le_refl _)
    have hne := UW.inh w1
    have fe : ∀ (x : UW w1) (i : Nat), x.w.cell? ⟨w.heap.size, i, none⟩ = (Ev.cells ⟨kd, actor, id', src, dst, name, n, why, timed⟩)[i]? := fun x => (K1.out.below x.h K1.out.lt).cell
    dsimp only [Ev.cells] at fe
    cases hv : ltV bk.lts id' with
    | none =>
      rw [hv] at HMB
      obtain rfl : false = mb := HMB.out
      obtain rfl : .pointer none = m6 := by rw [← HM6.out, hv]; rfl
      clear hv HM6
      refine region_up (.q 0 (.q 9 (.q 10 (.one 1 (.q 2 (.q 3 (.q 4 (.q 5 (.q 6 (.q 7 (.q 8 (.q 11 (.q 12 (.q 13 (.q 14 (.q 15 (.q 16 (.q 17 (.q 18 (.q 19 (.q 20 (.q 21 (.q 22 (.q 23 (.q 24 (.q 25 (.q 26 (.q 27 (.one 28 (.one 29 (.q 30 .done))))))))))))))))))))))))))))))) (by kernel_rfl) (by kernel_rfl) (fun _ _ d _ _ h => by cases d <;> exact h) ?_
      iterate 3 (refine wpUP_q rfl (fun K hK => ?_); go_simp; refine hK _ ?_; clear hK K)
      refine wpUP_one rfl ?_
      intro wx hux
      go_wp2_with fail
      refine ⟨(Below.refl _ _).alloc (Nat.le_refl _) _, ?_⟩
      have hblk := Blk.new wx 3 [.int .i64 1]
      have HUY := Troupe.hid (Up.trans hux ((Below.refl _ _).alloc (Nat.le_refl _) _ : Up wx (wx.alloc (.cells #[.int .i64 1] 3))))
      have HB3 := Troupe.hid hblk
      clear hblk hux hne fe 
      generalize wx.alloc (.cells #[.int .i64 1] 3) = wy at *
      generalize wx.heap.size = gm at *
      have hney := UW.inh wy
      have fe : ∀ (x : UW wy) (i : Nat), x.w.cell? ⟨w.heap.size, i, none⟩ = (Ev.cells ⟨kd, actor, id', src, dst, name, n, why, timed⟩)[i]? := fun x => (K1.out.below (HUY.out.trans x.h) K1.out.lt).cell
      dsimp only [Ev.cells] at fe
      have IS : Hid (∀ x : UW wy, Calls Try.prog 37 #[aptr ag (acV bk.acs actor), .slice (some ⟨gm, 0, none⟩) 1 1] x.w fun en w' => en = .returned (.bool isb) ∧ Up x.w w') := fun x => (is_any (H1.out.below (HUY.out.trans x.h)) actor (some ⟨gm, 0, none⟩) 1 1 [1] rfl (by unfold maxLen; omega) ((HB3.out.below x.h HB3.out.lt).blk_cells.mono (by have := (HB3.out.below x.h HB3.out.lt).lt; omega))).mono fun _ _ ⟨h1, h2⟩ => ⟨by rw [h1, HIS.out], h2 ▸ Up.refl _⟩
      have WK : Hid (∀ x : UW wy, Calls Try.prog 36 #[aptr ag (acV bk.acs actor)] x.w fun en w' => en = .returned (.bool wk) ∧ Up x.w w') := fun x => (works_any (H1.out.below (HUY.out.trans x.h)) actor).mono fun _ _ ⟨h1, h2⟩ => ⟨by rw [h1, HWK.out], h2 ▸ Up.refl _⟩
      refine wpUP_q rfl (fun K hK => ?_)
      go_simp
      refine ⟨_, IS.out, hK _ ?_⟩
      clear hK K
      (refine wpUP_q rfl (fun K hK => ?_); go_simp; refine hK _ ?_; clear hK K)
      apply wpUP_g2 rfl
      case hb => intro F hF; go_simp; exact hF
      case h1 => intro hb K hK; go_simp; exact hK
      apply wpUP_g2 rfl
      case hb => intro F hF; go_simp; exact hF
      case h1 => intro hb K hK; go_simp; exact ⟨_, WK.out, hK⟩
      apply wpUP_g2 rfl
      case hb => intro F hF; go_simp; exact hF
      case h1 => intro hb K hK; go_simp; exact hK
      iterate 19 (refine wpUP_q rfl (fun K hK => ?_); go_simp; refine hK _ ?_; clear hK K)
      clear fe hney
      refine wpUP_one rfl ?_
      intro wa hua
      go_wp2_with fail
      refine ⟨(Below.refl _ _).alloc (Nat.le_refl _) _, ?_⟩
      have hblk := Blk.new wa 81 [.int .i64 3, .bool (isb && !wk), .int .i64 3, .bool false]
      have hub : Up w1 (wa.alloc (.cells #[.int .i64 3, .bool (isb && !wk), .int .i64 3, .bool false] 81)) := Up.trans (HUY.out.trans hua) ((Below.refl _ _).alloc (Nat.le_refl _) _)
      have HBK := Troupe.hid hblk
      have HU2 := Troupe.hid hub
      clear hblk hub hua
      generalize wa.alloc (.cells #[.int .i64 3, .bool (isb && !wk), .int .i64 3, .bool false] 81) = wb at *
      generalize wa.heap.size = gr at *
      refine wpUP_one rfl ?_
      intro wd hud
      have BR := Troupe.hid (BRK.out gr wd _ _ (HBK.out.below hud HBK.out.lt))
      have HU3 := Troupe.hid (HU2.out.trans hud)
      clear hud
      go_wp2_with fail
      refine BR.out.mono ?_
      rintro en we ⟨rfl, hue⟩
      have UA4 := Troupe.hid (HU3.out.trans hue)
      go_wp2_with fail
      refine ⟨hue, ?_⟩
      have hne4 := UW.inh we
      clear hue
      refine wpUP_q rfl (fun K hK => ?_); go_simp; refine hK _ ?_; clear hK K
      refine wpUP_done ?_
      intro w6 huf
      have UA := Troupe.hid (UA4.out.trans huf)
      clear huf hne4
      go_wp2_with fail
      go_meet
      case rel => exact ⟨rfl, UA.out⟩
    | some p =>
      obtain ⟨j, l⟩ := p
      obtain ⟨g, hg, hx, hp, hlb⟩ := lt_found H1.out hv
      rw [hv] at HMB
      obtain rfl : (l.held && (l.ev.dst == actor)) = mb := HMB.out
      obtain rfl : .pointer (some ⟨g, 0, none⟩) = m6 := by rw [← HM6.out, hp]
      have fl : ∀ (x : UW w1) (i : Nat), x.w.cell? ⟨g, i, none⟩ = l.cells[i]? := fun x => (hlb.below x.h hlb.lt).cell
      dsimp only [Lt.cells] at fl
      have HLB := Troupe.hid hlb
      obtain ⟨y1, hy1⟩ : ∃ b, (l.ev.dst == actor) = b := ⟨_, rfl⟩
      have HY1 := Troupe.hid hy1
      clear hv hg hx hp hlb HMB HM6
      refine region_up (.q 0 (.q 9 (.q 10 (.one 1 (.q 2 (.q 3 (.q 4 (.q 5 (.q 6 (.q 7 (.q 8 (.q 11 (.q 12 (.q 13 (.q 14 (.q 15 (.q 16 (.q 17 (.q 18 (.q 19 (.q 20 (.q 21 (.q 22 (.q 23 (.q 24 (.q 25 (.q 26 (.q 27 (.one 28 (.one 29 (.q 30 .done))))))))))))))))))))))))))))))) (by kernel_rfl) (by kernel_rfl) (fun _ _ d _ _ h => by cases d <;> exact h) ?_
      iterate 3 (refine wpUP_q rfl (fun K hK => ?_); go_simp; refine hK _ ?_; clear hK K)
      refine wpUP_one rfl ?_
      intro wx hux
      go_wp2_with fail
      refine ⟨(Below.refl _ _).alloc (Nat.le_refl _) _, ?_⟩
      have hblk := Blk.new wx 3 [.int .i64 1]
      have HUY := Troupe.hid (Up.trans hux ((Below.refl _ _).alloc (Nat.le_refl _) _ : Up wx (wx.alloc (.cells #[.int .i64 1] 3))))
      have HB3 := Troupe.hid hblk
      clear hblk hux hne fe 
      generalize wx.alloc (.cells #[.int .i64 1] 3) = wy at *
      generalize wx.heap.size = gm at *
      have hney := UW.inh wy
      have fe : ∀ (x : UW wy) (i : Nat), x.w.cell? ⟨w.heap.size, i, none⟩ = (Ev.cells ⟨kd, actor, id', src, dst, name, n, why, timed⟩)[i]? := fun x => (K1.out.below (HUY.out.trans x.h) K1.out.lt).cell
      dsimp only [Ev.cells] at fe
      clear fl
      have fl : ∀ (x : UW wy) (i : Nat), x.w.cell? ⟨g, i, none⟩ = l.cells[i]? := fun x => (HLB.out.below (HUY.out.trans x.h) HLB.out.lt).cell
      dsimp only [Lt.cells] at fl
      have IS : Hid (∀ x : UW wy, Calls Try.prog 37 #[aptr ag (acV bk.acs actor), .slice (some ⟨gm, 0, none⟩) 1 1] x.w fun en w' => en = .returned (.bool isb) ∧ Up x.w w') := fun x => (is_any (H1.out.below (HUY.out.trans x.h)) actor (some ⟨gm, 0, none⟩) 1 1 [1] rfl (by unfold maxLen; omega) ((HB3.out.below x.h HB3.out.lt).blk_cells.mono (by have := (HB3.out.below x.h HB3.out.lt).lt; omega))).mono fun _ _ ⟨h1, h2⟩ => ⟨by rw [h1, HIS.out], h2 ▸ Up.refl _⟩
      have WK : Hid (∀ x : UW wy, Calls Try.prog 36 #[aptr ag (acV bk.acs actor)] x.w fun en w' => en = .returned (.bool wk) ∧ Up x.w w') := fun x => (works_any (H1.out.below (HUY.out.trans x.h)) actor).mono fun _ _ ⟨h1, h2⟩ => ⟨by rw [h1, HWK.out], h2 ▸ Up.refl _⟩
      refine wpUP_q rfl (fun K hK => ?_)
      go_simp
      refine ⟨_, IS.out, hK _ ?_⟩
      clear hK K
      (refine wpUP_q rfl (fun K hK => ?_); go_simp; refine hK _ ?_; clear hK K)
      apply wpUP_g2 rfl
      case hb => intro F hF; go_simp; exact hF
      case h1 => intro hb K hK; go_simp; exact hK
      apply wpUP_g2 rfl
      case hb => intro F hF; go_simp; exact hF
      case h1 => intro hb K hK; go_simp; exact ⟨_, WK.out, hK⟩
      apply wpUP_g2 rfl
      case hb => intro F hF; go_simp; exact hF
      case h1 => intro hb K hK; go_simp; exact hK
      iterate 9 (refine wpUP_q rfl (fun K hK => ?_); go_simp; refine hK _ ?_; clear hK K)
      apply wpUP_g2 rfl
      case hb => intro F hF; go_simp; exact hF
      case h1 => intro hb K hK; go_simp; exact hK
      apply wpUP_g2 rfl
      case hb => intro F hF; go_simp; exact hF
      case h1 => intro hb K hK; go_simp; exact hK
      apply wpUP_g2 rfl
      case hb => intro F hF; go_simp; exact hF
      case h1 => intro hb K hK; go_simp; exact hK
      apply wpUP_g2 rfl
      case hb => intro F hF; go_simp; exact hF
      case h1 => intro hb K hK; go_simp; exact hK
      apply wpUP_g2 rfl
      case hb => intro F hF; go_simp; exact hF
      case h1 => intro hb K hK; go_simp; exact hK
      apply wpUP_g2 rfl
      case hb => intro F hF; go_simp; exact hF
      case h1 => intro hb K hK; go_simp; exact hK
      apply wpUP_g2 rfl
      case hb => intro F hF; go_simp; exact hF
      case h1 => intro hb K hK; go_simp; exact hK
      apply wpUP_g2 rfl
      case hb => intro F hF; go_simp; exact hF
      case h1 => intro hb K hK; go_simp; exact hK
      iterate 2 (refine wpUP_q rfl (fun K hK => ?_); go_simp; refine hK _ ?_; clear hK K)
      clear fe hney fl hy1
      refine wpUP_one rfl ?_
      intro wa hua
      go_wp2_with fail
      refine ⟨(Below.refl _ _).alloc (Nat.le_refl _) _, ?_⟩
      have hblk := Blk.new wa 81 [.int .i64 3, .bool (isb && !wk), .int .i64 3, .bool (l.held && y1)]
      have hub : Up w1 (wa.alloc (.cells #[.int .i64 3, .bool (isb && !wk), .int .i64 3, .bool (l.held && y1)] 81)) := Up.trans (HUY.out.trans hua) ((Below.refl _ _).alloc (Nat.le_refl _) _)
      have HBK := Troupe.hid hblk
      have HU2 := Troupe.hid hub
      clear hblk hub hua
      generalize wa.alloc (.cells #[.int .i64 3, .bool (isb && !wk), .int .i64 3, .bool (l.held && y1)] 81) = wb at *
      generalize wa.heap.size = gr at *
      refine wpUP_one rfl ?_
      intro wd hud
      have BR := Troupe.hid (BRK.out gr wd _ _ (HBK.out.below hud HBK.out.lt))
      have HU3 := Troupe.hid (HU2.out.trans hud)
      clear hud
      go_wp2_with fail
      refine BR.out.mono ?_
      rintro en we ⟨rfl, hue⟩
      have UA4 := Troupe.hid (HU3.out.trans hue)
      go_wp2_with fail
      refine ⟨hue, ?_⟩
      have hne4 := UW.inh we
      clear hue
      refine wpUP_q rfl (fun K hK => ?_); go_simp; refine hK _ ?_; clear hK K
      refine wpUP_done ?_
      intro w6 huf
      have UA := Troupe.hid (UA4.out.trans huf)
      clear huf hne4
      go_wp2_with fail
      go_meet
      case rel => exact ⟨by rw [HY1.out], UA.out⟩
  case rest =>
  obtain ⟨rfl, hwc⟩ := hcut
  obtain ⟨w2, rfl⟩ : ∃ w2 : World, w2 = wc := ⟨_, rfl⟩
  have H2 := Troupe.hid (H1.out.below hwc)
  have K2 := Troupe.hid (K1.out.below hwc K1.out.lt)
  have B2 := Troupe.hid (B1.out.trans (hwc.mono hz1))
  have hz2 : w.heap.size ≤ w2.heap.size := B2.out.size
  clear hwc H1 K1 B1
  rw [broken2]
  obtain ⟨cc, hcc⟩ : ∃ cc, ((isb && !wk) && mb) = cc := ⟨_, rfl⟩
  rw [hcc]
  have HCC := Troupe.hid hcc
  clear hcc
  cases cc with
  | false =>
    have FIN : Hid (startV bk ⟨kd, actor, id', src, dst, name, n, why, timed⟩ = (3, bk)) := by
      unfold Hid startV
      dsimp only
      cases ha : acV bk.acs actor with
      | none => rfl
      | some p =>
        cases hlt : ltV bk.lts id' with
        | none => rfl
        | some q =>
          obtain ⟨i, a⟩ := p
          obtain ⟨j, l⟩ := q
          dsimp only
          have h1 := HCC.out
          rw [← HMB.out, hlt, ← HIS.out, ← HWK.out, ha, ← Bool.and_assoc] at h1
          rw [if_neg (by rw [h1]; decide)]
    go_wp2_with fail
    go_ret
    exact Ruled.same FIN.out H2.out B2.out hw
  | true =>
    have hb3 : isb = true ∧ wk = false ∧ mb = true := by
      have h1 := HCC.out
      revert h1
      cases isb <;> cases wk <;> cases mb <;> simp
    obtain ⟨rfl, rfl, rfl⟩ := hb3
    clear HCC
    cases ha : acV bk.acs actor with
    | none => exact absurd HIS.out (by rw [ha]; decide)
    | some p =>
    obtain ⟨i, a⟩ := p
    cases hlt : ltV bk.lts id' with
    | none => exact absurd HMB.out (by rw [hlt]; simp)
    | some q =>
    obtain ⟨j, l⟩ := q
    obtain ⟨g, hg, hx, hp, k', A0, n0, c0, hb, hs, ho⟩ := ac_found H2.out ha
    obtain ⟨gl, hgl, hxl, hpl, hbl⟩ := lt_found H2.out hlt
    obtain ⟨pl, hpln⟩ : ∃ pl, planV a.k.sts a.state l.ev.name l.ev.n = pl := ⟨_, rfl⟩
    have START : Hid (startV bk ⟨kd, actor, id', src, dst, name, n, why, timed⟩ = if (pl.stash != (kd == 5)) = true then (3, bk) else if ((!l.ev.timed && !l.arrived) && (bk.lts.take j).any (earlierV l)) = true then (4, bk) else if kd = 3 then (0, (bk.setL j { l with arrived := true, held := false }).setA i { a with work := some j, plan := pl }) else (0, bk.setL j { l with arrived := true })) := by
      unfold Hid startV
      dsimp only
      rw [ha, hlt]
      dsimp only
      have h1 := HMB.out
      rw [hlt] at h1
      have h2 := HIS.out
      rw [ha] at h2
      have h3 := HWK.out
      rw [ha] at h3
      dsimp only at h1
      rw [h2, h3, Bool.and_assoc, h1, hpln]
      rfl
    have HIDJ : Hid (id' = (j : Int) + 1 ∧ j < bk.lts.length) := by
      rcases ltV_cases bk.lts id' with ⟨h1, -⟩ | ⟨j', l', h1, h2, -, h3⟩
      · rw [h1] at hlt; cases hlt
      · rw [h1] at hlt; cases hlt; exact ⟨h2, h3⟩
    have HXG := Troupe.hid (And.intro hx hg)
    have HXL := Troupe.hid (And.intro hxl hgl)
    have HKF := Troupe.hid (H2.out.kf a (List.mem_of_getElem? hx))
    have HNL := Troupe.hid (HNS.out l (List.mem_of_getElem? hxl))
    have HS := Troupe.hid hs
    have HO := Troupe.hid ho
    have HA := Troupe.hid hb
    have HL := Troupe.hid hbl
    have HPL := Troupe.hid hpln
    obtain rfl : .pointer (some ⟨gl, 0, none⟩) = m6 := by rw [← HM6.out, hpl]
    rw [ha] at hp
    rw [hp]
    have HP := Troupe.hid hp
    clear ha hlt hg hx hp hb hs ho hgl hxl hpl hbl hpln HNS HIS HWK HMB HM6
    go_upto_region 5 with (fail)
    go_cut [8] from 8 to 70 (fun v8 w' => PlanMade pl w2 v8 w')
    case first =>
      let S0 : World → Prop := fun w' => Below w2.heap.size w2 w'
      have hne : Nonempty (SW S0) := ⟨⟨w2, Below.refl _ _⟩⟩
      have fa : ∀ (x : SW S0) (q : Nat), x.w.cell? ⟨g, q, none⟩ = (Ac.cells a i k' (gptr lg a.work) (.slice A0 n0 c0))[q]? := fun x => (HA.out.below x.h HA.out.lt).cell
      have fl : ∀ (x : SW S0) (q : Nat), x.w.cell? ⟨gl, q, none⟩ = (Lt.cells l)[q]? := fun x => (HL.out.below x.h HL.out.lt).cell
      dsimp only [Ac.cells] at fa
      dsimp only [Lt.cells] at fl
      refine region_plan (S := Cls S0) (.read 0 (.read 1 (.read 2 (.read 3 (.read 4 (.read 5 (.read 6 (.read 7 (.read 8 (.read 9 (.read 10 (.read 11 (.read 12 (.read 13 (.read 14 (.read 15 (.read 16 (.read 17 (.two 18 (.one 19 .tail) 19 (.one 18 .tail)))))))))))))))))))) 20 (by kernel_rfl) (by kernel_rfl) (fun _ _ d _ _ h => by cases d <;> exact h) ?_
      intro w3 hh o1' o2' o3'
      have F3 := Troupe.hid ((Frm.of_heap (S := fun _ => False) hh o1' o2' o3').below (Nat.le_refl w2.heap.size) (fun _ h => h.elim))
      refine ⟨Cls.of F3.out, ?_⟩
      clear hh o1' o2' o3'
      iterate 18 (refine wpPlan_read rfl (fun K hK => ?_); go_simp; refine hK _ ?_; clear hK K)
      refine wpPlan_two rfl rfl ?_ ?_
      · have DO : Hid (Calls Try.prog 40 #[.agg #[.string k'.name, .int .i64 k'.limit, .int .i64 k'.within, .slice k'.Ac k'.cases.length k'.cc, .slice k'.A k'.sts.length k'.cap], .string a.state, .string l.ev.name, .int .i64 l.ev.n] w3 (Done pl w3)) := by
          rw [← HPL.out, ← plan_same HS.out]
          obtain ⟨-, w0', B', hin⟩ := HKF.out
          exact do_any k'.kd a.state l.ev.name l.ev.n HNL.out w3 ((HO.out.below F3.out).in_ HS.out hin).kd
        clear fa fl
        go_wp2_with fail
        refine DO.out.mono ?_
        rintro en w4 ⟨v, rfl, hov, hb4⟩
        obtain ⟨Ap, cp, rfl, -⟩ := own_form hov
        have F4 := Troupe.hid (F3.out.trans (hb4.mono F3.out.size))
        clear hov hb4 DO
        dsimp only [Pl.val]
        go_wp2_with fail
        refine ⟨Cls.of F4.out, ?_⟩
        have FZ : Below w4.heap.size w4 (w4.alloc (.cells #[.bool false, .slice none 0 0, .string ⟨#[]⟩, .bool false, .string ⟨#[]⟩] 87)) := (Below.refl _ _).alloc (Nat.le_refl _) _
        have F5 := Troupe.hid (F4.out.trans (FZ.mono F4.out.size))
        have HBZ := Troupe.hid (Blk.new w4 87 [.bool false, .slice none 0 0, .string ⟨#[]⟩, .bool false, .string ⟨#[]⟩])
        have hg4 := F4.out.size
        clear FZ
        refine wpPlan_one rfl ?_
        go_wp2_with fail
        refine ⟨Cls.of F5.out, ?_⟩
        generalize w4.alloc (.cells #[.bool false, .slice none 0 0, .string ⟨#[]⟩, .bool false, .string ⟨#[]⟩] 87) = w5 at *
        generalize w4.heap.size = gp at *
        have cz := HBZ.out.cell
        have fz := HBZ.out.frozen
        obtain ⟨s1, s2⟩ := set5 (a := .bool false) (b := .slice none 0 0) (c := .string ⟨#[]⟩) (d := .bool false) (e := .string ⟨#[]⟩) HBZ.out (.bool pl.stash) (.slice Ap pl.effs.length cp) (.string pl.state) (.bool pl.stop) (.string pl.fail)
        have F6 := Troupe.hid (F5.out.trans (s2.below F5.out.size (fun x hx => by omega)))
        have HBK := Troupe.hid s1
        clear s1 s2
        refine wpPlan_tail ?_
        simp only [List.drop_succ_cons, List.drop_zero]
        clear hne
        go_wp2_with fail
        go_meet
        case rel => exact ⟨gp, Ap, cp, rfl, HBK.out, F6.out⟩
      · have FZ : Below w3.heap.size w3 (w3.alloc (.cells #[.bool false, .slice none 0 0, .string ⟨#[]⟩, .bool false, .string ⟨#[]⟩] 87)) := (Below.refl _ _).alloc (Nat.le_refl _) _
        have F4 := Troupe.hid (F3.out.trans (FZ.mono F3.out.size))
        have HBZ0 := Troupe.hid (Blk.new w3 87 [.bool false, .slice none 0 0, .string ⟨#[]⟩, .bool false, .string ⟨#[]⟩])
        have hg4 := F3.out.size
        clear FZ fa fl
        go_wp2_with fail
        refine ⟨Cls.of F4.out, ?_⟩
        generalize w3.alloc (.cells #[.bool false, .slice none 0 0, .string ⟨#[]⟩, .bool false, .string ⟨#[]⟩] 87) = w4 at *
        generalize w3.heap.size = gp at *
        have DO : Hid (Calls Try.prog 40 #[.agg #[.string k'.name, .int .i64 k'.limit, .int .i64 k'.within, .slice k'.Ac k'.cases.length k'.cc, .slice k'.A k'.sts.length k'.cap], .string a.state, .string l.ev.name, .int .i64 l.ev.n] w4 (Done pl w4)) := by
          rw [← HPL.out, ← plan_same HS.out]
          obtain ⟨-, w0', B', hin⟩ := HKF.out
          exact do_any k'.kd a.state l.ev.name l.ev.n HNL.out w4 ((HO.out.below F4.out).in_ HS.out hin).kd
        refine wpPlan_one rfl ?_
        go_wp2_with fail
        refine DO.out.mono ?_
        rintro en w5 ⟨v, rfl, hov, hb4⟩
        obtain ⟨Ap, cp, rfl, -⟩ := own_form hov
        have F5 := Troupe.hid (F4.out.trans (hb4.mono F4.out.size))
        have HBZ := Troupe.hid (HBZ0.out.below hb4 HBZ0.out.lt)
        clear hov hb4 DO
        dsimp only [Pl.val]
        go_wp2_with fail
        refine ⟨Cls.of F5.out, ?_⟩
        have cz := HBZ.out.cell
        have fz := HBZ.out.frozen
        obtain ⟨s1, s2⟩ := set5 (a := .bool false) (b := .slice none 0 0) (c := .string ⟨#[]⟩) (d := .bool false) (e := .string ⟨#[]⟩) HBZ.out (.bool pl.stash) (.slice Ap pl.effs.length cp) (.string pl.state) (.bool pl.stop) (.string pl.fail)
        have F6 := Troupe.hid (F5.out.trans (s2.below F5.out.size (fun x hx => by omega)))
        have HBK := Troupe.hid s1
        clear s1 s2
        refine wpPlan_tail ?_
        simp only [List.drop_succ_cons, List.drop_zero]
        clear hne
        go_wp2_with fail
        go_meet
        case rel => exact ⟨gp, Ap, cp, rfl, HBK.out, F6.out⟩
    case rest =>
    obtain ⟨gp, Ap, cp, rfl, hbp, hwc⟩ := hcut
    obtain ⟨w3, rfl⟩ : ∃ w3 : World, w3 = wc := ⟨_, rfl⟩
    have H3 := Troupe.hid (H2.out.below hwc)
    have K3 := Troupe.hid (K2.out.below hwc K2.out.lt)
    have B3 := Troupe.hid (B2.out.trans (hwc.mono hz2))
    have HA3 := Troupe.hid (HA.out.below hwc HA.out.lt)
    have HL3 := Troupe.hid (HL.out.below hwc HL.out.lt)
    have HO3 := Troupe.hid (HO.out.below hwc)
    have HBP := Troupe.hid hbp
    have hz3 : w.heap.size ≤ w3.heap.size := B3.out.size
    clear hwc hbp H2 K2 B2 HA HL HO
    have k3 := K3.out.cell
    have p3 := HBP.out.cell
    have l3 := HL3.out.cell
    dsimp only [Ev.cells] at k3
    dsimp only [Pl.cells] at p3
    dsimp only [Lt.cells] at l3
    obtain ⟨x5, hx5⟩ : ∃ b, (kd == 5) = b := ⟨_, rfl⟩
    have HX5 := Troupe.hid hx5
    by_cases hps : pl.stash = x5
    rotate_left
    · have hps : pl.stash = !x5 := by revert hps; cases pl.stash <;> cases x5 <;> simp
      have FIN : Hid (startV bk ⟨kd, actor, id', src, dst, name, n, why, timed⟩ = (3, bk)) := by unfold Hid; rw [START.out, HX5.out, hps]; cases x5 <;> rfl
      go_wp2_with fail
      go_ret
      exact Ruled.same FIN.out H3.out B3.out hw
    have HPS := Troupe.hid hps
    have START2 : Hid (startV bk ⟨kd, actor, id', src, dst, name, n, why, timed⟩ = if ((!l.ev.timed && !l.arrived) && (bk.lts.take j).any (earlierV l)) = true then (4, bk) else if kd = 3 then (0, (bk.setL j { l with arrived := true, held := false }).setA i { a with work := some j, plan := pl }) else (0, bk.setL j { l with arrived := true })) := by
      unfold Hid; rw [START.out, HX5.out, hps]; cases x5 <;> rfl
    clear START
    go_upto_if 76 with (fail)
    go_step
    go_step
    go_step
    go_step
    go_step
    go_cut [8] from 8 to 148 (fun v8 w' => v8 = .pointer (some ⟨gp, 0, none⟩) ∧ ((!l.ev.timed && !l.arrived) && (bk.lts.take j).any (earlierV l)) = false ∧ Up w3 w')
    case first =>
      cases htm : l.ev.timed with
      | true =>
        have HTM := Troupe.hid htm
        go_wp2_with fail
        go_meet
        case rel => exact ⟨rfl, by rw [HTM.out]; rfl, Up.refl _⟩
      | false =>
        have HTM := Troupe.hid htm
        cases har : l.arrived with
        | true =>
          have HAR := Troupe.hid har
          go_wp2_with fail
          go_meet
          case rel => exact ⟨rfl, by rw [HTM.out, HAR.out]; rfl, Up.refl _⟩
        | false =>
          have HAR := Troupe.hid har
          obtain ⟨rfl, hjl⟩ := HIDJ.out
          obtain ⟨ll, hlle⟩ : ∃ ll, lg.length = ll := ⟨_, rfl⟩
          have hjll : j < ll := by have h1 := H3.out.ll; omega
          have hll2 : ll ≤ 14073748835532 := by have h1 := H3.out.ll; omega
          have hjb : (j : Int) < 18446744073709551616 := by omega
          have HLL := Troupe.hid hlle
          have HJL := Troupe.hid hjl
          have hcl : ll ≤ cl := by
            obtain ⟨_, _, h1, h2, -⟩ := own_form H3.out.ol
            simp only [Value.slice.injEq, true_and] at h1
            obtain ⟨-, rfl⟩ := h1
            have h3 := HLL.out
            omega
          have hw1 : IntKind.u64.wrap ((j : Int) + 1 - 1) = j := by
            have h5 := IntWalk.u64_in ((j : Int) + 1 - 1) (by omega)
            rw [h5]; omega
          have hw2 : IntKind.u64.wrap (j : Int) = j := IntWalk.u64_in _ (by omega)
          have hjc : j ≤ cl := by omega
          clear hlle hjl
          go_upto_region 9 with (fail)
          have hne := UW.inh w3
          have fg2 : ∀ x : UW w3, x.w.cell? ⟨gb, 2, none⟩ = some (.slice Al ll cl) := fun x => by rw [← HLL.out]; exact (H3.out.blk.below x.h H3.out.blk.lt).cell 2
          have fe2 : ∀ x : UW w3, x.w.cell? ⟨w.heap.size, 2, none⟩ = some (.int .u64 ((j : Int) + 1)) := fun x => (K3.out.below x.h K3.out.lt).cell 2
          refine region_up (.q 0 (.q 1 (.q 2 (.q 3 (.q 4 (.q 5 (.q 6 (.q 7 (.q 8 (.q 9 .done)))))))))) (by kernel_rfl) (by kernel_rfl) (fun _ _ d _ _ h => by cases d <;> exact h) ?_
          iterate 10 (refine wpUP_q rfl (fun K hK => ?_); go_simp; refine hK _ ?_; clear hK K)
          refine wpUP_done ?_
          intro w4 hu4
          have U4 := Troupe.hid hu4
          clear hu4 fg2 fe2 hne hw1 hw2 k3 p3 l3
          go_wp2_with fail
          go_loopw [99] (fun v99 wr => ∃ k : Nat, k ≤ j ∧ v99 = .int .i64 k ∧ (∀ x ∈ bk.lts.take k, earlierV l x = false) ∧ Up w3 wr) (fun v99 _ => j - (intOf v99).toNat)
          case atStart => exact ⟨0, Nat.zero_le _, rfl, by simp, U4.out⟩
          case round =>
            obtain ⟨k, hk, rfl, hno, hur⟩ := hrel
            obtain ⟨wa, rfl⟩ : ∃ wa : World, wa = wr := ⟨_, rfl⟩
            have NO := Troupe.hid hno
            have UR := Troupe.hid hur
            clear hno hur
            by_cases hlt : k < j
            · obtain ⟨o, ho⟩ : ∃ o, bk.lts[k]? = some o := ⟨_, List.getElem?_eq_getElem (by have := HJL.out; omega)⟩
              have hkl : k < lg.length := by
                have h5 := HLL.out
                omega
              obtain ⟨go, hgo⟩ : ∃ go, lg[k]? = some go := ⟨_, List.getElem?_eq_getElem hkl⟩
              have HWA := Troupe.hid (H3.out.below UR.out)
              have HBO := Troupe.hid (HWA.out.lt k o go ho hgo)
              obtain ⟨bb, off, rfl, -, h1⟩ := cells_at (sz := 1) (fun _ => rfl) (by decide) (own_cells HWA.out.ol) hgo
              have d0 : wa.cell? ⟨bb, off + k, none⟩ = some (.pointer (some ⟨go, 0, none⟩)) := by have := h1 0 (by decide) _ rfl; rwa [Nat.mul_one, Nat.add_zero] at this
              have HO1 := Troupe.hid ho
              clear h1 ho hgo
              go_upto_region 12 with (fail)
              have hne := UW.inh wa
              have HLA := Troupe.hid (HL3.out.below UR.out HL3.out.lt)
              obtain ⟨osrc, hosrc⟩ : ∃ x, o.ev.src = x := ⟨_, rfl⟩
              obtain ⟨odst, hodst⟩ : ∃ x, o.ev.dst = x := ⟨_, rfl⟩
              obtain ⟨oh, hoh⟩ : ∃ x, o.held = x := ⟨_, rfl⟩
              obtain ⟨ot, hot⟩ : ∃ x, o.ev.timed = x := ⟨_, rfl⟩
              obtain ⟨oa, hoa⟩ : ∃ x, o.arrived = x := ⟨_, rfl⟩
              obtain ⟨lsrc, hlsrc⟩ : ∃ x, l.ev.src = x := ⟨_, rfl⟩
              obtain ⟨ldst, hldst⟩ : ∃ x, l.ev.dst = x := ⟨_, rfl⟩
              obtain ⟨b1, hb1⟩ : ∃ x, (osrc == lsrc) = x := ⟨_, rfl⟩
              obtain ⟨b2, hb2⟩ : ∃ x, (odst == ldst) = x := ⟨_, rfl⟩
              have EAR : Hid (earlierV l o = (b1 && b2 && oh && !ot && !oa)) := by unfold Hid earlierV; rw [hosrc, hodst, hoh, hot, hoa, hlsrc, hldst, hb1, hb2]
              have o3 : ∀ x : UW wa, x.w.cell? ⟨go, 3, none⟩ = some (.int .i64 osrc) := fun x => by rw [← hosrc]; exact (HBO.out.below x.h HBO.out.lt).cell 3
              have o4 : ∀ x : UW wa, x.w.cell? ⟨go, 4, none⟩ = some (.int .i64 odst) := fun x => by rw [← hodst]; exact (HBO.out.below x.h HBO.out.lt).cell 4
              have o8 : ∀ x : UW wa, x.w.cell? ⟨go, 8, none⟩ = some (.bool ot) := fun x => by rw [← hot]; exact (HBO.out.below x.h HBO.out.lt).cell 8
              have o10 : ∀ x : UW wa, x.w.cell? ⟨go, 10, none⟩ = some (.bool oa) := fun x => by rw [← hoa]; exact (HBO.out.below x.h HBO.out.lt).cell 10
              have o11 : ∀ x : UW wa, x.w.cell? ⟨go, 11, none⟩ = some (.bool oh) := fun x => by rw [← hoh]; exact (HBO.out.below x.h HBO.out.lt).cell 11
              have l3' : ∀ x : UW wa, x.w.cell? ⟨gl, 3, none⟩ = some (.int .i64 lsrc) := fun x => by rw [← hlsrc]; exact (HLA.out.below x.h HLA.out.lt).cell 3
              have l4' : ∀ x : UW wa, x.w.cell? ⟨gl, 4, none⟩ = some (.int .i64 ldst) := fun x => by rw [← hldst]; exact (HLA.out.below x.h HLA.out.lt).cell 4
              clear hosrc hodst hoh hot hoa hlsrc hldst
              refine region_up (.q 0 (.q 1 (.q 2 (.q 3 (.q 4 (.q 5 (.q 6 (.q 7 (.q 8 (.q 9 (.q 10 (.q 11 (.q 12 (.q 13 (.q 14 (.q 15 (.q 16 (.q 17 (.q 18 (.q 19 (.q 20 (.q 21 (.q 22 (.q 23 (.q 24 (.q 25 (.q 26 (.q 27 (.q 28 (.q 29 (.q 30 (.q 31 (.q 32 (.q 33 (.q 34 (.q 35 (.q 36 (.q 37 (.q 38 (.q 39 (.q 40 (.q 41 (.q 42 (.q 43 (.q 44 .done))))))))))))))))))))))))))))))))))))))))))))) (by kernel_rfl) (by kernel_rfl) (fun _ _ d _ _ h => by cases d <;> exact h) ?_
              iterate 12 (refine wpUP_q rfl (fun K hK => ?_); go_simp; refine hK _ ?_; clear hK K)
              apply wpUP_g2 rfl
              case hb => intro F hF; go_simp; exact hF
              case h1 => intro hb K hK; go_simp; exact hK
              apply wpUP_g2 rfl
              case hb => intro F hF; go_simp; exact hF
              case h1 => intro hb K hK; go_simp; exact hK
              apply wpUP_g2 rfl
              case hb => intro F hF; go_simp; exact hF
              case h1 => intro hb K hK; go_simp; exact hK
              apply wpUP_g2 rfl
              case hb => intro F hF; go_simp; exact hF
              case h1 => intro hb K hK; go_simp; exact hK
              apply wpUP_g2 rfl
              case hb => intro F hF; go_simp; exact hF
              case h1 => intro hb K hK; go_simp; exact hK
              apply wpUP_g2 rfl
              case hb => intro F hF; go_simp; exact hF
              case h1 => intro hb K hK; go_simp; exact hK
              apply wpUP_g2 rfl
              case hb => intro F hF; go_simp; exact hF
              case h1 => intro hb K hK; go_simp; exact hK
              apply wpUP_g2 rfl
              case hb => intro F hF; go_simp; exact hF
              case h1 => intro hb K hK; go_simp; exact hK
              apply wpUP_g2 rfl
              case hb => intro F hF; go_simp; exact hF
              case h1 => intro hb K hK; go_simp; exact hK
              apply wpUP_g2 rfl
              case hb => intro F hF; go_simp; exact hF
              case h1 => intro hb K hK; go_simp; exact hK
              apply wpUP_g2 rfl
              case hb => intro F hF; go_simp; exact hF
              case h1 => intro hb K hK; go_simp; exact hK
              iterate 2 (refine wpUP_q rfl (fun K hK => ?_); go_simp; refine hK _ ?_; clear hK K)
              apply wpUP_g2 rfl
              case hb => intro F hF; go_simp; exact hF
              case h1 => intro hb K hK; go_simp; exact hK
              apply wpUP_g2 rfl
              case hb => intro F hF; go_simp; exact hF
              case h1 => intro hb K hK; go_simp; exact hK
              apply wpUP_g2 rfl
              case hb => intro F hF; go_simp; exact hF
              case h1 => intro hb K hK; go_simp; exact hK
              apply wpUP_g2 rfl
              case hb => intro F hF; go_simp; exact hF
              case h1 => intro hb K hK; go_simp; exact hK
              iterate 2 (refine wpUP_q rfl (fun K hK => ?_); go_simp; refine hK _ ?_; clear hK K)
              apply wpUP_g2 rfl
              case hb => intro F hF; go_simp; exact hF
              case h1 => intro hb K hK; go_simp; exact hK
              apply wpUP_g2 rfl
              case hb => intro F hF; go_simp; exact hF
              case h1 => intro hb K hK; go_simp; exact hK
              apply wpUP_g2 rfl
              case hb => intro F hF; go_simp; exact hF
              case h1 => intro hb K hK; go_simp; exact hK
              apply wpUP_g2 rfl
              case hb => intro F hF; go_simp; exact hF
              case h1 => intro hb K hK; go_simp; exact hK
              apply wpUP_g2 rfl
              case hb => intro F hF; go_simp; exact hF
              case h1 => intro hb K hK; go_simp; exact hK
              apply wpUP_g2 rfl
              case hb => intro F hF; go_simp; exact hF
              case h1 => intro hb K hK; go_simp; exact hK
              iterate 2 (refine wpUP_q rfl (fun K hK => ?_); go_simp; refine hK _ ?_; clear hK K)
              apply wpUP_g2 rfl
              case hb => intro F hF; go_simp; exact hF
              case h1 => intro hb K hK; go_simp; exact hK
              apply wpUP_g2 rfl
              case hb => intro F hF; go_simp; exact hF
              case h1 => intro hb K hK; go_simp; exact hK
              apply wpUP_g2 rfl
              case hb => intro F hF; go_simp; exact hF
              case h1 => intro hb K hK; go_simp; exact hK
              apply wpUP_g2 rfl
              case hb => intro F hF; go_simp; exact hF
              case h1 => intro hb K hK; go_simp; exact hK
              apply wpUP_g2 rfl
              case hb => intro F hF; go_simp; exact hF
              case h1 => intro hb K hK; go_simp; exact hK
              (refine wpUP_q rfl (fun K hK => ?_); go_simp; refine hK _ ?_; clear hK K)
              refine wpUP_done ?_
              intro w5 hu5
              have U5 := Troupe.hid (UR.out.trans hu5)
              clear hu5 o3 o4 o8 o10 o11 l3' l4' hne hb1 hb2
              obtain ⟨eb, heb⟩ : ∃ eb, (b1 && b2 && oh && !ot && !oa) = eb := ⟨_, rfl⟩
              rw [heb] at EAR ⊢
              clear heb
              cases eb with
              | true =>
                have FIN : Hid (startV bk ⟨kd, actor, (j : Int) + 1, src, dst, name, n, why, timed⟩ = (4, bk)) := by
                  unfold Hid
                  rw [START2.out, HTM.out, HAR.out]
                  have h1 : (bk.lts.take j).any (earlierV l) = true := List.any_eq_true.2 ⟨o, List.mem_of_getElem? (i := k) (by rw [List.getElem?_take, if_pos hlt]; exact HO1.out), EAR.out⟩
                  rw [h1]
                  rfl
                go_wp2_with fail
                go_ret
                exact Ruled.same FIN.out (H3.out.below U5.out) (B3.out.trans (U5.out.mono hz3)) hw
              | false =>
                have NO2 : Hid (∀ x ∈ bk.lts.take (k + 1), earlierV l x = false) := by
                  intro y hy
                  rw [List.take_add_one, HO1.out] at hy
                  rcases List.mem_append.1 hy with h | h
                  · exact NO.out y h
                  · simp at h; subst h; exact EAR.out
                go_wp2_with fail
                go_roundw
                case rel => exact ⟨k + 1, by omega, by go_num, NO2.out, U5.out⟩
                case measure => simp [intOf]; omega
            · have NO2 : Hid ((bk.lts.take j).any (earlierV l) = false) := by
                obtain rfl : k = j := by omega
                exact List.any_eq_false.2 (fun x hx => by rw [NO.out x hx]; decide)
              go_wp2_with fail
              go_meet
              case rel => exact ⟨rfl, by rw [NO2.out, Bool.and_false], UR.out⟩
    case rest =>
    obtain ⟨rfl, hear, hwc⟩ := hcut
    obtain ⟨w4, rfl⟩ : ∃ w4 : World, w4 = wc := ⟨_, rfl⟩
    have START3 : Hid (startV bk ⟨kd, actor, id', src, dst, name, n, why, timed⟩ = if kd = 3 then (0, (bk.setL j { l with arrived := true, held := false }).setA i { a with work := some j, plan := pl }) else (0, bk.setL j { l with arrived := true })) := by
      unfold Hid; rw [START2.out, hear]; rfl
    have H4 := Troupe.hid (H3.out.below hwc)
    have K4 := Troupe.hid (K3.out.below hwc K3.out.lt)
    have B4 := Troupe.hid (B3.out.trans (hwc.mono hz3))
    have HA4 := Troupe.hid (HA3.out.below hwc HA3.out.lt)
    have HL4 := Troupe.hid (HL3.out.below hwc HL3.out.lt)
    have HO4 := Troupe.hid (HO3.out.below hwc)
    have HBP4 := Troupe.hid (HBP.out.below hwc HBP.out.lt)
    have hz4 : w.heap.size ≤ w4.heap.size := B4.out.size
    have hgl0 := H4.out.gl gl (List.mem_of_getElem? HXL.out.2)
    have hgg0 := H4.out.ga g (List.mem_of_getElem? HXG.out.2)
    clear hwc H3 K3 B3 HA3 HL3 HO3 HBP START2 hear k3 p3 l3
    have l4 := HL4.out.cell
    have z4 := HL4.out.frozen
    dsimp only [Lt.cells] at l4
    go_upto_region 16 with (fail)
    have FS := Frm.one w4 ⟨gl, 10, none⟩ (.bool true)
    have HFS := Troupe.hid FS
    have HL5 : Hid (Blk (w4.setCell ⟨gl, 10, none⟩ (.bool true)) gl 84 (Lt.cells { l with arrived := true })) := HL4.out.set_ 10 _
    have K5 := Troupe.hid (K4.out.frm FS (K4.out.ne HL4.out (by decide)))
    have HA5 := Troupe.hid (HA4.out.frm FS (HA4.out.ne HL4.out (by decide)))
    have HO5 := Troupe.hid (HO4.out.frmS FS (fun b t cs ht hb e => hb.ne HL4.out (by rcases ht with rfl | rfl | rfl | rfl <;> decide) e))
    have HBP5 := Troupe.hid (HBP4.out.frm FS (HBP4.out.ne HL4.out (by decide)))
    have H5 := Troupe.hid (H4.out.setL HXL.out.1 HXL.out.2 FS HL5.out)
    have B5 := Troupe.hid ((B4.out.mono hw).setCell hgl0 (u := .bool true) (p := ⟨gl, 10, none⟩))
    have KB5 := Troupe.hid ((K52.of B4.out).set HL4.out (by decide) FS)
    clear l4 z4 FS
    generalize w4.setCell ⟨gl, 10, none⟩ (.bool true) = w5 at *
    have e5 := K5.out.cell
    dsimp only [Ev.cells] at e5
    cases hkd : (kd == 3) with
    | false =>
      have hk3 : ¬ kd = 3 := by simpa using hkd
      have FIN : Hid (startV bk ⟨kd, actor, id', src, dst, name, n, why, timed⟩ = (0, bk.setL j { l with arrived := true })) := by unfold Hid; rw [START3.out, if_neg hk3]
      clear hk3
      go_wp2_with fail
      go_ret
      exact Ruled.same' FIN.out H5.out ⟨B5.out, KB5.out⟩
    | true =>
      have hk3 : kd = 3 := by simpa using hkd
      have FIN : Hid (startV bk ⟨kd, actor, id', src, dst, name, n, why, timed⟩ = (0, (bk.setL j { l with arrived := true, held := false }).setA i { a with work := some j, plan := pl })) := by unfold Hid; rw [START3.out, if_pos hk3]
      clear hk3
      have l5 := HL5.out.cell
      have z5 := HL5.out.frozen
      dsimp only [Lt.cells] at l5
      go_upto_region 18 with (fail)
      have FS := Frm.one w5 ⟨gl, 11, none⟩ (.bool false)
      have HL6 : Hid (Blk (w5.setCell ⟨gl, 11, none⟩ (.bool false)) gl 84 (Lt.cells { l with arrived := true, held := false })) := HL5.out.set_ 11 _
      have HA6 := Troupe.hid (HA5.out.frm FS (HA5.out.ne HL5.out (by decide)))
      have HO6 := Troupe.hid (HO5.out.frmS FS (fun b t cs ht hb e => hb.ne HL5.out (by rcases ht with rfl | rfl | rfl | rfl <;> decide) e))
      have HBP6 := Troupe.hid (HBP5.out.frm FS (HBP5.out.ne HL5.out (by decide)))
      have H6 : Hid (BookAt (w5.setCell ⟨gl, 11, none⟩ (.bool false)) base gb pv Aa ca Al cl (bk.setL j { l with arrived := true, held := false }) ag lg) := H4.out.setL HXL.out.1 HXL.out.2 (HFS.out.trans FS (fun _ _ h => h)) HL6.out
      have B6 := Troupe.hid (B5.out.setCell hgl0 (u := .bool false) (p := ⟨gl, 11, none⟩))
      have KB6 := Troupe.hid (KB5.out.set HL5.out (by decide) FS)
      clear l5 z5 FS e5 hkd
      generalize w5.setCell ⟨gl, 11, none⟩ (.bool false) = w6 at *
      let S0 : World → Prop := fun w' => Frm (fun k => k = g) w6 w'
      have hne : Nonempty (SW S0) := ⟨⟨w6, Frm.refl _ _⟩⟩
      have fp : ∀ (x : SW S0) (q : Nat), x.w.cell? ⟨gp, q, none⟩ = (pl.cells Ap cp)[q]? := fun x => (HBP6.out.frm x.h (HBP6.out.ne HA6.out (by decide))).cell
      dsimp only [Pl.cells] at fp
      refine region_plan (S := Cls S0) (.read 0 (.read 1 (.read 2 (.read 3 (.read 4 (.read 5 (.one 6 (.read 7 (.read 8 .tail))))))))) 9 (by kernel_rfl) (by kernel_rfl) (fun _ _ d _ _ h => by cases d <;> exact h) ?_
      intro w7 hh o1' o2' o3'
      have F7 := Troupe.hid (Frm.of_heap (S := fun k => k = g) hh o1' o2' o3')
      have HA7 := Troupe.hid (HA6.out.heap hh)
      refine ⟨Cls.of F7.out, ?_⟩
      clear hh o1' o2' o3'
      iterate 6 (refine wpPlan_read rfl (fun K hK => ?_); go_simp; refine hK _ ?_; clear hK K)
      have a7 := HA7.out.cell
      have z7 := HA7.out.frozen
      dsimp only [Ac.cells] at a7
      refine wpPlan_one rfl ?_
      go_wp2_with fail
      have FS := Frm.one w7 ⟨g, 9, none⟩ (.pointer (some ⟨gl, 0, none⟩))
      have HA8 : Hid (Blk (w7.setCell ⟨g, 9, none⟩ (.pointer (some ⟨gl, 0, none⟩))) g 90 (Ac.cells { a with work := some j } i k' (.pointer (some ⟨gl, 0, none⟩)) (.slice A0 n0 c0))) := HA7.out.set_ 9 _
      have F8 := Troupe.hid (F7.out.trans FS (fun _ _ h => h))
      refine ⟨Cls.of F8.out, ?_⟩
      clear a7 z7 FS
      generalize w7.setCell ⟨g, 9, none⟩ (.pointer (some ⟨gl, 0, none⟩)) = w8 at *
      iterate 2 (refine wpPlan_read rfl (fun K hK => ?_); go_simp; refine hK _ ?_; clear hK K)
      clear fp hne
      have a8 := HA8.out.cell
      have z8 := HA8.out.frozen
      dsimp only [Ac.cells] at a8
      refine wpPlan_tail ?_
      simp only [List.drop_succ_cons, List.drop_zero]
      go_wp2_with fail
      go_ret
      clear a8 z8
      have HXX := HXG.out
      obtain rfl := HPS.out
      have hgp : gptr lg (some j) = .pointer (some ⟨gl, 0, none⟩) := by unfold gptr; simp [HXL.out.2]
      have F9 := ((((Frm.one w8 ⟨g, 10, none⟩ (.bool pl.stash)).trans (Frm.one _ ⟨g, 11, none⟩ (.slice Ap pl.effs.length cp)) (fun _ _ h => h)).trans (Frm.one _ ⟨g, 12, none⟩ (.string pl.state)) (fun _ _ h => h)).trans (Frm.one _ ⟨g, 13, none⟩ (.bool pl.stop)) (fun _ _ h => h)).trans (Frm.one _ ⟨g, 14, none⟩ (.string pl.fail)) (fun _ _ h => h)
      have HA9 := ((((HA8.out.set_ 10 (.bool pl.stash)).set_ 11 (.slice Ap pl.effs.length cp)).set_ 12 (.string pl.state)).set_ 13 (.bool pl.stop)).set_ 14 (.string pl.fail)
      have FF := F8.out.trans F9 (fun _ _ h => h)
      refine Ruled.same' FIN.out (BookAt.setA H6.out (a := a) HXX.1 HXX.2 FF ⟨k', Ap, pl.effs.length, cp, ?_, HS.out, ?_⟩ (fun j' hj' => ?_) rfl) ⟨B6.out.trans (FF.below (by have h1 := B6.out.size; omega) (fun x hx => by subst hx; exact hgg0)), KB6.out.set HA6.out (by decide) FF⟩
      · rw [hgp]
        exact HA9
      · exact (HO6.out).frm90 HA6.out FF
      · cases hj'
        have h1 := HIDJ.out.2
        simpa [Bk.setL] using h1

end Go.Proofs.Ytkjjhndccelbcaa
