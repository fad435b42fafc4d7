/- The rule of a message's end, by contract. -/
import Derived.Test.YtkjjhndccelbcaaLife2
namespace Go.Proofs.Ytkjjhndccelbcaa
open Go.RowKit Go.Maps Go.Troupe
attribute [local go_sem] reads readAt readUpon Cls quietU

set_option maxRecDepth 100000 in
set_option maxHeartbeats 4000000 in
theorem end_any {w : World} {base gb ca cl : Nat} {pv : Value} {Aa Al : Option Addr} {bk : Bk} {ag lg : List Nat} (h : BookAt w base gb pv Aa ca Al cl bk ag lg) (hw : base ≤ w.heap.size) (e : Ev) (hl : bk.acs.length ≤ 140737488355328) :
    Calls Try.prog 19 #[.pointer (some ⟨gb, 0, none⟩), .agg e.cells.toArray] w (Ruled w base gb pv (endV bk e)) := by
  have F0 : Below w.heap.size w (w.alloc (.cells #[.int .i64 e.kd, .int .i64 e.actor, .int .u64 e.id, .int .i64 e.src, .int .i64 e.dst, .string e.name, .int .i64 e.n, .int .i64 e.why, .bool e.timed] 32)) := (Below.refl _ _).alloc (Nat.le_refl _) _
  have K0 : Blk (w.alloc (.cells #[.int .i64 e.kd, .int .i64 e.actor, .int .u64 e.id, .int .i64 e.src, .int .i64 e.dst, .string e.name, .int .i64 e.n, .int .i64 e.why, .bool e.timed] 32)) w.heap.size 32 e.cells := Blk.new _ _ _
  have H0 := Troupe.hid (h.below F0)
  have AC := Troupe.hid (actor_any (h.below F0) e.actor hl)
  have HF := Troupe.hid F0
  have HK := Troupe.hid K0
  have hz := F0.size
  have e0 := K0.cell
  dsimp only [Ev.cells] at e0 ⊢
  clear h F0 K0
  go_enter Try.func19, Try.ntmps19
  go_wp2_with fail
  generalize w.alloc (.cells #[.int .i64 e.kd, .int .i64 e.actor, .int .u64 e.id, .int .i64 e.src, .int .i64 e.dst, .string e.name, .int .i64 e.n, .int .i64 e.why, .bool e.timed] 32) = w0 at *
  refine AC.out.mono ?_
  rintro en w1 ⟨rfl, rfl⟩
  clear e0 AC
  have hne := UW.inh w0
  have WKS : Hid (∀ x : UW w0, Calls Try.prog 36 #[aptr ag (acV bk.acs e.actor)] x.w fun en w' => en = .returned (.bool (worksV (acV bk.acs e.actor))) ∧ Up x.w w') := fun x => (works_any (H0.out.below x.h) e.actor).mono fun _ _ ⟨h1, h2⟩ => ⟨h1, h2 ▸ Up.refl _⟩
  have f2 : ∀ x : UW w0, x.w.cell? ⟨w.heap.size, 2, none⟩ = some (.int .u64 e.id) := fun x => (HK.out.below x.h HK.out.lt).cell 2
  have f5 : ∀ x : UW w0, x.w.cell? ⟨w.heap.size, 5, none⟩ = some (.string e.name) := fun x => (HK.out.below x.h HK.out.lt).cell 5
  have BRK : Hid (∀ (b : Bool) (g : Nat) (w2 : World), Blk w2 g 81 [.int .i64 5, .bool b] → Calls Try.prog 38 #[.slice (some ⟨g, 0, none⟩) 1 1] w2 fun en w' => en = .returned (.int .i64 (if b then 0 else 5)) ∧ Up w2 w') := fun b g w2 hb2 => by
    have hb := (broken_any (some ⟨g, 0, none⟩) 1 1 w2.heap.size [⟨5, b⟩] w2 rfl (by unfold maxLen; omega) (hb2.blk_cells.mono hb2.lt) (Nat.le_refl _))
    exact hb.mono fun _ _ ⟨h1, h2⟩ => ⟨by rw [h1]; cases b <;> rfl, h2⟩
  cases hv : acV bk.acs e.actor with
  | none =>
    have FIN : Hid (endV bk e = (5, bk)) := by unfold Hid endV; rw [hv]
    have hwk : worksV (acV bk.acs e.actor) = false := by rw [hv]; rfl
    rw [hwk] at WKS
    rw [← hv]
    clear hv hwk
    go_upto_region 2 with (fail)
    refine region_up (.q 0 (.q 1 (.q 2 (.q 3 (.q 4 (.q 5 (.q 6 (.q 7 (.q 8 (.q 9 (.q 10 (.q 11 (.q 12 (.q 13 (.q 14 (.q 15 (.q 16 (.q 17 (.q 18 (.q 19 (.q 20 (.q 21 (.q 22 (.q 23 (.q 24 (.q 25 (.one 26 (.one 27 (.q 28 .done))))))))))))))))))))))))))))) (by kernel_rfl) (by kernel_rfl) (fun _ _ d _ _ h => by cases d <;> exact h) ?_
    (refine wpUP_q rfl (fun K hK => ?_); go_simp; refine hK _ ?_; clear hK K)
    refine wpUP_q rfl (fun K hK => ?_)
    go_simp
    refine ⟨_, WKS.out, hK _ ?_⟩
    clear hK K
    iterate 24 (refine wpUP_q rfl (fun K hK => ?_); go_simp; refine hK _ ?_; clear hK K)
    refine wpUP_one rfl ?_
    intro w1 hu1
    go_wp2_with fail
    refine ⟨(Below.refl _ _).alloc (Nat.le_refl _) _, ?_⟩
    have hblk := Blk.new w1 81 [.int .i64 5, .bool false]
    have hu2 : Up w0 (w1.alloc (.cells #[.int .i64 5, .bool false] 81)) := hu1.trans ((Below.refl _ _).alloc (Nat.le_refl _) _)
    have HBK := Troupe.hid hblk
    have HU2 := Troupe.hid hu2
    clear hblk hu2 hu1
    generalize w1.alloc (.cells #[.int .i64 5, .bool false] 81) = w2 at *
    generalize w1.heap.size = gr at *
    refine wpUP_one rfl ?_
    intro w3 hu3
    have BR := Troupe.hid (BRK.out false gr w3 (HBK.out.below hu3 HBK.out.lt))
    have HU3 := Troupe.hid (HU2.out.trans hu3)
    clear hu3
    go_wp2_with fail
    refine BR.out.mono ?_
    rintro en w4 ⟨rfl, hu4⟩
    have UA4 := Troupe.hid (HU3.out.trans hu4)
    go_wp2_with fail
    refine ⟨hu4, ?_⟩
    have hne4 := UW.inh w4
    clear hu4 hne f2 f5
    refine wpUP_q rfl (fun K hK => ?_); go_simp; refine hK _ ?_; clear hK K
    refine wpUP_done ?_
    intro w5 hu5
    have UA := Troupe.hid (UA4.out.trans hu5)
    clear hu5 hne4
    go_wp2_with fail
    go_ret
    exact Ruled.same FIN.out (H0.out.below UA.out) (HF.out.trans (UA.out.mono hz)) hw
  | some p =>
    obtain ⟨i, a⟩ := p
    obtain ⟨g, hg, hx, hp, k', A, n, c, hb, hs, ho⟩ := ac_found H0.out hv
    have hgg := H0.out.ga g (List.mem_of_getElem? hg)
    cases hwk : a.work with
    | none =>
      have FIN : Hid (endV bk e = (5, bk)) := by unfold Hid endV; rw [hv]; dsimp only; rw [hwk]; rfl
      have hwv : worksV (acV bk.acs e.actor) = false := by rw [hv]; unfold worksV; dsimp only; rw [hwk]; rfl
      rw [hwv] at WKS
      rw [← hv]
      clear hv hwk hwv hg hx hp hb hs ho
      go_upto_region 2 with (fail)
      refine region_up (.q 0 (.q 1 (.q 2 (.q 3 (.q 4 (.q 5 (.q 6 (.q 7 (.q 8 (.q 9 (.q 10 (.q 11 (.q 12 (.q 13 (.q 14 (.q 15 (.q 16 (.q 17 (.q 18 (.q 19 (.q 20 (.q 21 (.q 22 (.q 23 (.q 24 (.q 25 (.one 26 (.one 27 (.q 28 .done))))))))))))))))))))))))))))) (by kernel_rfl) (by kernel_rfl) (fun _ _ d _ _ h => by cases d <;> exact h) ?_
      (refine wpUP_q rfl (fun K hK => ?_); go_simp; refine hK _ ?_; clear hK K)
      refine wpUP_q rfl (fun K hK => ?_)
      go_simp
      refine ⟨_, WKS.out, hK _ ?_⟩
      clear hK K
      iterate 24 (refine wpUP_q rfl (fun K hK => ?_); go_simp; refine hK _ ?_; clear hK K)
      refine wpUP_one rfl ?_
      intro w1 hu1
      go_wp2_with fail
      refine ⟨(Below.refl _ _).alloc (Nat.le_refl _) _, ?_⟩
      have hblk := Blk.new w1 81 [.int .i64 5, .bool false]
      have hu2 : Up w0 (w1.alloc (.cells #[.int .i64 5, .bool false] 81)) := hu1.trans ((Below.refl _ _).alloc (Nat.le_refl _) _)
      have HBK := Troupe.hid hblk
      have HU2 := Troupe.hid hu2
      clear hblk hu2 hu1
      generalize w1.alloc (.cells #[.int .i64 5, .bool false] 81) = w2 at *
      generalize w1.heap.size = gr at *
      refine wpUP_one rfl ?_
      intro w3 hu3
      have BR := Troupe.hid (BRK.out false gr w3 (HBK.out.below hu3 HBK.out.lt))
      have HU3 := Troupe.hid (HU2.out.trans hu3)
      clear hu3
      go_wp2_with fail
      refine BR.out.mono ?_
      rintro en w4 ⟨rfl, hu4⟩
      have UA4 := Troupe.hid (HU3.out.trans hu4)
      go_wp2_with fail
      refine ⟨hu4, ?_⟩
      have hne4 := UW.inh w4
      clear hu4 hne f2 f5
      refine wpUP_q rfl (fun K hK => ?_); go_simp; refine hK _ ?_; clear hK K
      refine wpUP_done ?_
      intro w5 hu5
      have UA := Troupe.hid (UA4.out.trans hu5)
      clear hu5 hne4
      go_wp2_with fail
      go_ret
      exact Ruled.same FIN.out (H0.out.below UA.out) (HF.out.trans (UA.out.mono hz)) hw
    | some j =>
      have hjl := H0.out.wk a (List.mem_of_getElem? hx) j hwk
      obtain ⟨l, hlj⟩ : ∃ l, bk.lts[j]? = some l := ⟨_, List.getElem?_eq_getElem hjl⟩
      obtain ⟨gl, hgl⟩ : ∃ gl, lg[j]? = some gl := ⟨_, List.getElem?_eq_getElem (by rw [H0.out.ll]; exact hjl)⟩
      have hbl := H0.out.lt j l gl hlj hgl
      have hwv : worksV (acV bk.acs e.actor) = true := by rw [hv]; unfold worksV; dsimp only; rw [hwk]; rfl
      have hgp : gptr lg a.work = .pointer (some ⟨gl, 0, none⟩) := by rw [hwk]; unfold gptr; simp [hgl]
      rw [hwv, hp] at WKS
      obtain ⟨lid, hlid⟩ : ∃ x, l.ev.id = x := ⟨_, rfl⟩
      obtain ⟨ast, hast⟩ : ∃ x, a.plan.state = x := ⟨_, rfl⟩
      have f9 : ∀ x : UW w0, x.w.cell? ⟨g, 9, none⟩ = some (.pointer (some ⟨gl, 0, none⟩)) := fun x => by rw [← hgp]; exact (hb.below x.h hb.lt).cell 9
      have f12 : ∀ x : UW w0, x.w.cell? ⟨g, 12, none⟩ = some (.string ast) := fun x => by rw [← hast]; exact (hb.below x.h hb.lt).cell 12
      have fl2 : ∀ x : UW w0, x.w.cell? ⟨gl, 2, none⟩ = some (.int .u64 lid) := fun x => by rw [← hlid]; exact (hbl.below x.h hbl.lt).cell 2
      have FINV : Hid (endV bk e = if lid == e.id && ast.toList == e.name.toList then (0, bk.setA i { a with work := none, state := e.name }) else (5, bk)) := by
        unfold Hid endV; rw [hv]; dsimp only; rw [hwk]; dsimp only [Option.bind_some]; rw [hlj]; dsimp only; rw [hlid, hast]
      have HV := Troupe.hid hv
      rw [← hv, hp]
      have HP := Troupe.hid hp
      have HN : Hid (∀ w2, Up w0 w2 → BookAt ((w2.setCell ⟨g, 9, none⟩ (.pointer none)).setCell ⟨g, 7, none⟩ (.string e.name)) base gb pv Aa ca Al cl (bk.setA i { a with work := none, state := e.name }) ag lg ∧ Blo base w ((w2.setCell ⟨g, 9, none⟩ (.pointer none)).setCell ⟨g, 7, none⟩ (.string e.name))) := by
        intro w2 hu
        have b2 := hb.below hu hb.lt
        have FS : Frm (fun x => x = g) w2 ((w2.setCell ⟨g, 9, none⟩ (.pointer none)).setCell ⟨g, 7, none⟩ (.string e.name)) := (Frm.one w2 ⟨g, 9, none⟩ _).trans (Frm.one _ ⟨g, 7, none⟩ _) (fun _ _ h => h)
        have H2 := H0.out.below hu
        have hz2 := hu.size
        exact ⟨H2.setA (a' := { a with work := none, state := e.name }) hx hg FS ⟨k', A, n, c, ((b2.set_ 9 _).set_ 7 _), hs, (ho.below hu).frm90 b2 FS⟩ (fun j hj => by cases hj) rfl, (Blo.fs (HF.out.trans (hu.mono hz)) hw b2 (by decide) FS (by omega) (fun x hx => by omega))⟩
      have HBC := Troupe.hid hb
      clear hv hwk hwv hg hx hp hb hs ho hjl hlj hgl hbl hgp hlid hast
      cases b1 : (lid == e.id) with
      | false =>
        rw [b1, Bool.false_and] at FINV
        have FIN : Hid (endV bk e = (5, bk)) := FINV.out
        go_upto_region 2 with (fail)
        refine region_up (.q 0 (.q 1 (.q 2 (.q 3 (.q 4 (.q 5 (.q 6 (.q 7 (.q 8 (.q 9 (.q 10 (.q 11 (.q 12 (.q 13 (.q 14 (.q 15 (.q 16 (.q 17 (.q 18 (.q 19 (.q 20 (.q 21 (.q 22 (.q 23 (.q 24 (.q 25 (.one 26 (.one 27 (.q 28 .done))))))))))))))))))))))))))))) (by kernel_rfl) (by kernel_rfl) (fun _ _ d _ _ h => by cases d <;> exact h) ?_
        (refine wpUP_q rfl (fun K hK => ?_); go_simp; refine hK _ ?_; clear hK K)
        refine wpUP_q rfl (fun K hK => ?_)
        go_simp
        refine ⟨_, WKS.out, hK _ ?_⟩
        clear hK K
        iterate 24 (refine wpUP_q rfl (fun K hK => ?_); go_simp; refine hK _ ?_; clear hK K)
        refine wpUP_one rfl ?_
        intro w1 hu1
        go_wp2_with fail
        refine ⟨(Below.refl _ _).alloc (Nat.le_refl _) _, ?_⟩
        have hblk := Blk.new w1 81 [.int .i64 5, .bool false]
        have hu2 : Up w0 (w1.alloc (.cells #[.int .i64 5, .bool false] 81)) := hu1.trans ((Below.refl _ _).alloc (Nat.le_refl _) _)
        have HBK := Troupe.hid hblk
        have HU2 := Troupe.hid hu2
        clear hblk hu2 hu1
        generalize w1.alloc (.cells #[.int .i64 5, .bool false] 81) = w2 at *
        generalize w1.heap.size = gr at *
        refine wpUP_one rfl ?_
        intro w3 hu3
        have BR := Troupe.hid (BRK.out false gr w3 (HBK.out.below hu3 HBK.out.lt))
        have HU3 := Troupe.hid (HU2.out.trans hu3)
        clear hu3
        go_wp2_with fail
        refine BR.out.mono ?_
        rintro en w4 ⟨rfl, hu4⟩
        have UA4 := Troupe.hid (HU3.out.trans hu4)
        go_wp2_with fail
        refine ⟨hu4, ?_⟩
        have hne4 := UW.inh w4
        clear hu4 hne f2 f5
        refine wpUP_q rfl (fun K hK => ?_); go_simp; refine hK _ ?_; clear hK K
        refine wpUP_done ?_
        intro w5 hu5
        have UA := Troupe.hid (UA4.out.trans hu5)
        clear hu5 hne4
        go_wp2_with fail
        go_ret
        exact Ruled.same FIN.out (H0.out.below UA.out) (HF.out.trans (UA.out.mono hz)) hw
      | true =>
        rw [b1, Bool.true_and] at FINV
        obtain rfl : lid = e.id := eq_of_beq b1
        clear b1
        cases b2 : (ast.toList == e.name.toList) with
        | false =>
          rw [b2] at FINV
          have FIN : Hid (endV bk e = (5, bk)) := FINV.out
          go_upto_region 2 with (fail)
          refine region_up (.q 0 (.q 1 (.q 2 (.q 3 (.q 4 (.q 5 (.q 6 (.q 7 (.q 8 (.q 9 (.q 10 (.q 11 (.q 12 (.q 13 (.q 14 (.q 15 (.q 16 (.q 17 (.q 18 (.q 19 (.q 20 (.q 21 (.q 22 (.q 23 (.q 24 (.q 25 (.one 26 (.one 27 (.q 28 .done))))))))))))))))))))))))))))) (by kernel_rfl) (by kernel_rfl) (fun _ _ d _ _ h => by cases d <;> exact h) ?_
          (refine wpUP_q rfl (fun K hK => ?_); go_simp; refine hK _ ?_; clear hK K)
          refine wpUP_q rfl (fun K hK => ?_)
          go_simp
          refine ⟨_, WKS.out, hK _ ?_⟩
          clear hK K
          iterate 24 (refine wpUP_q rfl (fun K hK => ?_); go_simp; refine hK _ ?_; clear hK K)
          refine wpUP_one rfl ?_
          intro w1 hu1
          go_wp2_with fail
          refine ⟨(Below.refl _ _).alloc (Nat.le_refl _) _, ?_⟩
          have hblk := Blk.new w1 81 [.int .i64 5, .bool false]
          have hu2 : Up w0 (w1.alloc (.cells #[.int .i64 5, .bool false] 81)) := hu1.trans ((Below.refl _ _).alloc (Nat.le_refl _) _)
          have HBK := Troupe.hid hblk
          have HU2 := Troupe.hid hu2
          clear hblk hu2 hu1
          generalize w1.alloc (.cells #[.int .i64 5, .bool false] 81) = w2 at *
          generalize w1.heap.size = gr at *
          refine wpUP_one rfl ?_
          intro w3 hu3
          have BR := Troupe.hid (BRK.out false gr w3 (HBK.out.below hu3 HBK.out.lt))
          have HU3 := Troupe.hid (HU2.out.trans hu3)
          clear hu3
          go_wp2_with fail
          refine BR.out.mono ?_
          rintro en w4 ⟨rfl, hu4⟩
          have UA4 := Troupe.hid (HU3.out.trans hu4)
          go_wp2_with fail
          refine ⟨hu4, ?_⟩
          have hne4 := UW.inh w4
          clear hu4 hne f2 f5
          refine wpUP_q rfl (fun K hK => ?_); go_simp; refine hK _ ?_; clear hK K
          refine wpUP_done ?_
          intro w5 hu5
          have UA := Troupe.hid (UA4.out.trans hu5)
          clear hu5 hne4
          go_wp2_with fail
          go_ret
          exact Ruled.same FIN.out (H0.out.below UA.out) (HF.out.trans (UA.out.mono hz)) hw
        | true =>
          rw [b2] at FINV
          have FIN : Hid (endV bk e = (0, bk.setA i { a with work := none, state := e.name })) := FINV.out
          go_upto_region 2 with (fail)
          refine region_up (.q 0 (.q 1 (.q 2 (.q 3 (.q 4 (.q 5 (.q 6 (.q 7 (.q 8 (.q 9 (.q 10 (.q 11 (.q 12 (.q 13 (.q 14 (.q 15 (.q 16 (.q 17 (.q 18 (.q 19 (.q 20 (.q 21 (.q 22 (.q 23 (.q 24 (.q 25 (.one 26 (.one 27 (.q 28 .done))))))))))))))))))))))))))))) (by kernel_rfl) (by kernel_rfl) (fun _ _ d _ _ h => by cases d <;> exact h) ?_
          (refine wpUP_q rfl (fun K hK => ?_); go_simp; refine hK _ ?_; clear hK K)
          refine wpUP_q rfl (fun K hK => ?_)
          go_simp
          refine ⟨_, WKS.out, hK _ ?_⟩
          clear hK K
          iterate 24 (refine wpUP_q rfl (fun K hK => ?_); go_simp; refine hK _ ?_; clear hK K)
          refine wpUP_one rfl ?_
          intro w1 hu1
          go_wp2_with fail
          refine ⟨(Below.refl _ _).alloc (Nat.le_refl _) _, ?_⟩
          have hblk := Blk.new w1 81 [.int .i64 5, .bool true]
          have hu2 : Up w0 (w1.alloc (.cells #[.int .i64 5, .bool true] 81)) := hu1.trans ((Below.refl _ _).alloc (Nat.le_refl _) _)
          have HBK := Troupe.hid hblk
          have HU2 := Troupe.hid hu2
          clear hblk hu2 hu1
          generalize w1.alloc (.cells #[.int .i64 5, .bool true] 81) = w2 at *
          generalize w1.heap.size = gr at *
          refine wpUP_one rfl ?_
          intro w3 hu3
          have BR := Troupe.hid (BRK.out true gr w3 (HBK.out.below hu3 HBK.out.lt))
          have HU3 := Troupe.hid (HU2.out.trans hu3)
          clear hu3
          go_wp2_with fail
          refine BR.out.mono ?_
          rintro en w4 ⟨rfl, hu4⟩
          have UA4 := Troupe.hid (HU3.out.trans hu4)
          go_wp2_with fail
          refine ⟨hu4, ?_⟩
          have hne4 := UW.inh w4
          clear hu4 hne f2 f5
          refine wpUP_q rfl (fun K hK => ?_); go_simp; refine hK _ ?_; clear hK K
          refine wpUP_done ?_
          intro w5 hu5
          have UA := Troupe.hid (UA4.out.trans hu5)
          clear hu5 hne4
          go_wp2_with fail
          let S0 : World → Prop := fun w2 => Frm (fun x => x = g) w5 w2
          have hne : Nonempty (SW S0) := ⟨⟨w5, Frm.refl _ _⟩⟩
          have bl5 := HBC.out.below UA.out HBC.out.lt
          have k5 := HK.out.below UA.out HK.out.lt
          have hgne : w.heap.size ≠ g := (bl5.ne k5 (by decide)).symm
          have fe : ∀ x : SW S0, x.w.cell? ⟨w.heap.size, 5, none⟩ = some (.string e.name) := fun x => (World.cell?_of_block (x.h.block w.heap.size k5.lt hgne)).trans (k5.cell 5)
          have k9 : w5.cell? ⟨g, 9, none⟩ = some (gptr lg a.work) := bl5.cell 9
          have k7 : w5.cell? ⟨g, 7, none⟩ = some (.string a.state) := bl5.cell 7
          have ff := bl5.frozen
          have K9 := Troupe.hid k9
          have K7 := Troupe.hid k7
          have FF := Troupe.hid ff
          clear bl5 k5 hgne k9 k7 ff
          refine region_plan (S := Cls S0) (.read 0 (.read 1 (.read 2 (.read 3 (.read 4 (.read 5 (.one 6 .tail))))))) 7 (by kernel_rfl) (by kernel_rfl) (fun _ _ d _ _ h => by cases d <;> exact h) ?_
          intro w6 hh o1' o2' o3'
          have hf : Frm (fun _ => False) w5 w6 := Frm.of_heap hh o1' o2' o3'
          have HN6 := Troupe.hid (HN.out w6 (UA.out.trans (hf.below (Nat.le_refl _) (fun _ h => h.elim))))
          have S1 := Troupe.hid ((hf.mono (S' := fun x => x = g) (fun _ _ h => h.elim)).trans (Frm.one w6 ⟨g, 9, none⟩ (.pointer none)) (fun _ _ h => h))
          have k9 : w6.cell? ⟨g, 9, none⟩ = some (gptr lg a.work) := (World.cell?_of_block (by rw [hh])).trans K9.out
          have k7 : w6.cell? ⟨g, 7, none⟩ = some (.string a.state) := (World.cell?_of_block (by rw [hh])).trans K7.out
          have f7 : ∀ i, w6.frozen? ⟨g, i, none⟩ = false := fun i => (World.frozen?_of_block (by rw [hh])).trans (FF.out i)
          refine ⟨Cls.of (hf.mono (fun _ _ h => h.elim)), ?_⟩
          clear hh hf o1' o2' o3'
          iterate 6 (refine wpPlan_read rfl (fun K hK => ?_); go_simp; refine hK _ ?_; clear hK K)
          refine wpPlan_one rfl ?_
          go_wp2_with fail
          refine ⟨Cls.of S1.out, ?_⟩
          refine wpPlan_tail ?_
          simp only [List.drop_succ_cons, List.drop_zero]
          clear fe hne
          go_wp2_with fail
          go_ret
          exact Ruled.same' FIN.out HN6.out.1 HN6.out.2
end Go.Proofs.Ytkjjhndccelbcaa
