/- What a child is told, by contract. -/
import Derived.Test.YtkjjhndccelbcaaEnd
namespace Go.Proofs.Ytkjjhndccelbcaa
open Go.RowKit Go.Maps Go.Troupe
attribute [local go_sem] reads readAt readUpon Cls quietU

set_option maxRecDepth 100000 in
set_option maxHeartbeats 8000000 in
theorem told_any {w : World} {base gb ca cl : Nat} {pv : Value} {Aa Al : Option Addr} {bk : Bk} {ag lg : List Nat} (h : BookAt w base gb pv Aa ca Al cl bk ag lg) (hw : base ≤ w.heap.size) (e : Ev) (hl : bk.acs.length ≤ 140737488355328) :
    Calls Try.prog 24 #[.pointer (some ⟨gb, 0, none⟩), .agg e.cells.toArray] w (Ruled w base gb pv (toldV bk e)) := by
  have F0 : Below w.heap.size w (w.alloc (.cells #[.int .i64 e.kd, .int .i64 e.actor, .int .u64 e.id, .int .i64 e.src, .int .i64 e.dst, .string e.name, .int .i64 e.n, .int .i64 e.why, .bool e.timed] 32)) := (Below.refl _ _).alloc (Nat.le_refl _) _
  have K0 : Blk (w.alloc (.cells #[.int .i64 e.kd, .int .i64 e.actor, .int .u64 e.id, .int .i64 e.src, .int .i64 e.dst, .string e.name, .int .i64 e.n, .int .i64 e.why, .bool e.timed] 32)) w.heap.size 32 e.cells := Blk.new _ _ _
  have H00 := Troupe.hid (h.below F0)
  have HF0 := Troupe.hid F0
  have HK0 := Troupe.hid K0
  have hz0 := F0.size
  dsimp only [Ev.cells]
  clear h F0 K0
  go_enter Try.func24, Try.ntmps24
  go_upto_region 1 with (fail)
  generalize w.alloc (.cells #[.int .i64 e.kd, .int .i64 e.actor, .int .u64 e.id, .int .i64 e.src, .int .i64 e.dst, .string e.name, .int .i64 e.n, .int .i64 e.why, .bool e.timed] 32) = wz at *
  have hne := UW.inh wz
  have ACA : Hid (∀ x : UW wz, Calls Try.prog 35 #[.pointer (some ⟨gb, 0, none⟩), .int .i64 e.actor] x.w fun en w' => en = .returned (aptr ag (acV bk.acs e.actor)) ∧ Up x.w w') := fun x => (actor_any (H00.out.below x.h) e.actor hl).mono fun _ _ ⟨h1, h2⟩ => ⟨h1, h2 ▸ Up.refl _⟩
  have ACS : Hid (∀ x : UW wz, Calls Try.prog 35 #[.pointer (some ⟨gb, 0, none⟩), .int .i64 e.src] x.w fun en w' => en = .returned (aptr ag (acV bk.acs e.src)) ∧ Up x.w w') := fun x => (actor_any (H00.out.below x.h) e.src hl).mono fun _ _ ⟨h1, h2⟩ => ⟨h1, h2 ▸ Up.refl _⟩
  have f1 : ∀ x : UW wz, x.w.cell? ⟨w.heap.size, 1, none⟩ = some (.int .i64 e.actor) := fun x => (HK0.out.below x.h HK0.out.lt).cell 1
  have f3 : ∀ x : UW wz, x.w.cell? ⟨w.heap.size, 3, none⟩ = some (.int .i64 e.src) := fun x => (HK0.out.below x.h HK0.out.lt).cell 3
  refine region_up (.q 0 (.q 1 (.q 2 (.q 3 (.q 4 (.q 5 (.q 6 (.q 7 (.q 8 (.q 9 .done)))))))))) (by kernel_rfl) (by kernel_rfl) (fun _ _ d _ _ h => by cases d <;> exact h) ?_
  iterate 3 (refine wpUP_q rfl (fun K hK => ?_); go_simp; refine hK _ ?_; clear hK K)
  refine wpUP_q rfl (fun K hK => ?_)
  go_simp
  refine ⟨_, ACA.out, hK _ ?_⟩
  clear hK K
  iterate 3 (refine wpUP_q rfl (fun K hK => ?_); go_simp; refine hK _ ?_; clear hK K)
  refine wpUP_q rfl (fun K hK => ?_)
  go_simp
  refine ⟨_, ACS.out, hK _ ?_⟩
  clear hK K
  iterate 2 (refine wpUP_q rfl (fun K hK => ?_); go_simp; refine hK _ ?_; clear hK K)
  refine wpUP_done ?_
  intro w0 hu0
  have H0 := Troupe.hid (H00.out.below hu0)
  have HF := Troupe.hid (HF0.out.trans (hu0.mono hz0))
  have HK := Troupe.hid (HK0.out.below hu0 HK0.out.lt)
  have hz := HF.out.size
  clear hu0 f1 f3 hne ACA ACS H00 HF0 HK0 hz0
  have hne := UW.inh w0
  cases hv : acV bk.acs e.actor with
  | none =>
    have FIN : Hid (toldV bk e = (9, bk)) := by unfold Hid toldV; rw [hv]
    unfold aptr gptr
    dsimp only [Option.map_none, Option.bind_none]
    clear hv
    go_upto_region 2 with (fail)
    refine region_up (.q 0 (.q 1 (.q 2 (.q 3 (.q 4 (.q 5 (.q 6 (.q 7 (.q 8 (.q 9 (.q 10 (.q 11 (.q 12 (.q 13 (.q 14 (.q 15 (.q 16 (.one 17 (.one 18 (.q 19 (.q 20 (.q 21 (.q 22 (.q 23 (.q 24 (.q 25 (.q 26 (.q 27 (.q 28 (.q 29 (.q 30 (.q 31 (.q 32 (.q 33 (.q 34 (.q 35 (.q 36 .done))))))))))))))))))))))))))))))))))))) (by kernel_rfl) (by kernel_rfl) (fun _ _ d _ _ h => by cases d <;> exact h) ?_
    iterate 17 (refine wpUP_q rfl (fun K hK => ?_); go_simp; refine hK _ ?_; clear hK K)
    refine wpUP_one rfl ?_
    intro w1 hu1
    go_wp2_with fail
    refine ⟨Up.refl _, ?_⟩
    refine wpUP_one rfl ?_
    intro w2 hu2
    go_wp2_with fail
    refine ⟨Up.refl _, ?_⟩
    have UB := Troupe.hid (hu1.trans hu2)
    have hne2 := UW.inh w2
    iterate 18 (refine wpUP_q rfl (fun K hK => ?_); go_simp; refine hK _ ?_; clear hK K)
    refine wpUP_done ?_
    intro w3 hu3
    have UA := Troupe.hid (UB.out.trans hu3)
    clear hu3 hne2 

    go_wp2_with fail
    go_ret
    exact Ruled.same FIN.out (H0.out.below UA.out) (HF.out.trans (UA.out.mono hz)) hw
  | some p =>
    obtain ⟨i, a⟩ := p
    obtain ⟨g, hg, hx, hp, k', A, n, c, hb, hs, ho⟩ := ac_found H0.out hv
    have hgg := H0.out.ga g (List.mem_of_getElem? hg)
    rw [hv] at hp
    rw [hp]
    cases hu : acV bk.acs e.src with
    | none =>
      have FIN : Hid (toldV bk e = (9, bk)) := by unfold Hid toldV; rw [hv, hu]
      have hpn : aptr ag none = .pointer none := rfl
      rw [hpn]
      clear hv hu hg hx hp hb hs ho hpn
      go_upto_region 2 with (fail)
      refine region_up (.q 0 (.q 1 (.q 2 (.q 3 (.q 4 (.q 5 (.q 6 (.q 7 (.q 8 (.q 9 (.q 10 (.q 11 (.q 12 (.q 13 (.q 14 (.q 15 (.q 16 (.one 17 (.one 18 (.q 19 (.q 20 (.q 21 (.q 22 (.q 23 (.q 24 (.q 25 (.q 26 (.q 27 (.q 28 (.q 29 (.q 30 (.q 31 (.q 32 (.q 33 (.q 34 (.q 35 (.q 36 .done))))))))))))))))))))))))))))))))))))) (by kernel_rfl) (by kernel_rfl) (fun _ _ d _ _ h => by cases d <;> exact h) ?_
      iterate 17 (refine wpUP_q rfl (fun K hK => ?_); go_simp; refine hK _ ?_; clear hK K)
      refine wpUP_one rfl ?_
      intro w1 hu1
      go_wp2_with fail
      refine ⟨Up.refl _, ?_⟩
      refine wpUP_one rfl ?_
      intro w2 hu2
      go_wp2_with fail
      refine ⟨Up.refl _, ?_⟩
      have UB := Troupe.hid (hu1.trans hu2)
      have hne2 := UW.inh w2
      iterate 18 (refine wpUP_q rfl (fun K hK => ?_); go_simp; refine hK _ ?_; clear hK K)
      refine wpUP_done ?_
      intro w3 hu3
      have UA := Troupe.hid (UB.out.trans hu3)
      clear hu3 hne2 

      go_wp2_with fail
      go_ret
      exact Ruled.same FIN.out (H0.out.below UA.out) (HF.out.trans (UA.out.mono hz)) hw
    | some q =>
      obtain ⟨i2, up⟩ := q
      obtain ⟨g2, hg2, hx2, hp2, k2, A2, n2, c2, hb2, hs2, ho2⟩ := ac_found H0.out hu
      obtain ⟨isb, hisb⟩ : ∃ b, isV (acV bk.acs e.src) [1, 2] = b := ⟨_, rfl⟩
      have ISS : Hid (∀ (gm : Nat) (w2 : World), Up w0 w2 → Blk w2 gm 3 [.int .i64 1, .int .i64 2] → Calls Try.prog 37 #[.pointer (some ⟨g2, 0, none⟩), .slice (some ⟨gm, 0, none⟩) 2 2] w2 fun en w' => en = .returned (.bool isb) ∧ w2 = w') := fun gm w2 hu2 hbm => by
        rw [← hisb, ← hp2]
        exact is_any (H0.out.below hu2) e.src (some ⟨gm, 0, none⟩) 2 2 [1, 2] rfl (by unfold maxLen; omega) (hbm.blk_cells.mono hbm.lt)
      rw [hu] at hp2
      rw [hp2]
      obtain ⟨apar, hapar⟩ : ∃ x, a.parent = x := ⟨_, rfl⟩
      obtain ⟨afail, hafail⟩ : ∃ x, a.failed = x := ⟨_, rfl⟩
      obtain ⟨aopen, haopen⟩ : ∃ x, a.open_ = x := ⟨_, rfl⟩
      have r1 : ∀ x : UW w0, x.w.cell? ⟨g, 1, none⟩ = some (.int .i64 apar) := fun x => by rw [← hapar]; exact (hb.below x.h hb.lt).cell 1
      have e3 : ∀ x : UW w0, x.w.cell? ⟨w.heap.size, 3, none⟩ = some (.int .i64 e.src) := fun x => (HK.out.below x.h HK.out.lt).cell 3
      have R16 : Hid (∀ w2, Up w0 w2 → w2.cell? ⟨g, 16, none⟩ = some (.bool afail)) := fun w2 h2 => by rw [← hafail]; exact (hb.below h2 hb.lt).cell 16
      have R15 : Hid (∀ w2, Up w0 w2 → w2.cell? ⟨g, 15, none⟩ = some (.string aopen)) := fun w2 h2 => by rw [← haopen]; exact (hb.below h2 hb.lt).cell 15
      have FINV : Hid (toldV bk e = if apar == e.src && isb && afail && aopen.toList == e.name.toList then (if e.why == dirV up.k.cases e.name || (dirV up.k.cases e.name == 2 && e.why == 3) then (0, bk.setA i { a with failed := false, told := e.why }) else (9, bk)) else (9, bk)) := by
        unfold Hid toldV; rw [hv, hu]; dsimp only; rw [hapar, hafail, haopen, ← hisb, hu]; rfl
      have HBA := Troupe.hid hb
      have HBU := Troupe.hid hb2
      have HXG := Troupe.hid (And.intro hx hg)
      have HSO := Troupe.hid (And.intro hs ho)
      have HSO2 := Troupe.hid (And.intro hs2 ho2)
      have HKF := Troupe.hid (H0.out.kf up (List.mem_of_getElem? hx2))
      clear hv hu hg hx hp hb hs ho hg2 hx2 hp2 hb2 hs2 ho2 hisb hapar hafail haopen
      cases b1 : (apar == e.src) with
      | false =>
        rw [b1, Bool.false_and, Bool.false_and, Bool.false_and] at FINV
        have FIN : Hid (toldV bk e = (9, bk)) := FINV.out
        have b1' : (apar != e.src) = true := by unfold bne; rw [b1]; rfl
        go_upto_region 2 with (fail)
        refine region_up (.q 0 (.q 1 (.q 2 (.q 3 (.q 4 (.q 5 (.q 6 (.q 7 (.q 8 (.q 9 (.q 10 (.q 11 (.q 12 (.q 13 (.q 14 (.q 15 (.q 16 (.one 17 (.one 18 (.q 19 (.q 20 (.q 21 (.q 22 (.q 23 (.q 24 (.q 25 (.q 26 (.q 27 (.q 28 (.q 29 (.q 30 (.q 31 (.q 32 (.q 33 (.q 34 (.q 35 (.q 36 .done))))))))))))))))))))))))))))))))))))) (by kernel_rfl) (by kernel_rfl) (fun _ _ d _ _ h => by cases d <;> exact h) ?_
        iterate 17 (refine wpUP_q rfl (fun K hK => ?_); go_simp; refine hK _ ?_; clear hK K)
        refine wpUP_one rfl ?_
        intro w1 hu1
        go_wp2_with fail
        refine ⟨Up.refl _, ?_⟩
        refine wpUP_one rfl ?_
        intro w2 hu2
        go_wp2_with fail
        refine ⟨Up.refl _, ?_⟩
        have UB := Troupe.hid (hu1.trans hu2)
        have hne2 := UW.inh w2
        iterate 18 (refine wpUP_q rfl (fun K hK => ?_); go_simp; refine hK _ ?_; clear hK K)
        refine wpUP_done ?_
        intro w3 hu3
        have UA := Troupe.hid (UB.out.trans hu3)
        clear hu3 hne2 r1 e3

        go_wp2_with fail
        go_ret
        exact Ruled.same FIN.out (H0.out.below UA.out) (HF.out.trans (UA.out.mono hz)) hw
      | true =>
        rw [b1, Bool.true_and] at FINV
        obtain rfl : apar = e.src := eq_of_beq b1
        clear b1
        cases isb with
        | false =>
          rw [Bool.false_and, Bool.false_and] at FINV
          have FIN : Hid (toldV bk e = (9, bk)) := FINV.out
          go_upto_region 2 with (fail)
          refine region_up (.q 0 (.q 1 (.q 2 (.q 3 (.q 4 (.q 5 (.q 6 (.q 7 (.q 8 (.q 9 (.q 10 (.q 11 (.q 12 (.q 13 (.q 14 (.q 15 (.q 16 (.one 17 (.one 18 (.q 19 (.q 20 (.q 21 (.q 22 (.q 23 (.q 24 (.q 25 (.q 26 (.q 27 (.q 28 (.q 29 (.q 30 (.q 31 (.q 32 (.q 33 (.q 34 (.q 35 (.q 36 .done))))))))))))))))))))))))))))))))))))) (by kernel_rfl) (by kernel_rfl) (fun _ _ d _ _ h => by cases d <;> exact h) ?_
          iterate 17 (refine wpUP_q rfl (fun K hK => ?_); go_simp; refine hK _ ?_; clear hK K)
          refine wpUP_one rfl ?_
          intro w1 hu1
          have hblk := Blk.new w1 3 [.int .i64 1, .int .i64 2]
          have hu1' : Up w0 (w1.alloc (.cells #[.int .i64 1, .int .i64 2] 3)) := hu1.trans ((Below.refl _ _).alloc (Nat.le_refl _) _)
          have HBK := Troupe.hid hblk
          have HU1 := Troupe.hid hu1'
          clear hblk hu1' hu1
          go_wp2_with fail
          refine ⟨(Below.refl _ _).alloc (Nat.le_refl _) _, ?_⟩
          generalize w1.alloc (.cells #[.int .i64 1, .int .i64 2] 3) = w1a at *
          generalize w1.heap.size = gm at *
          refine wpUP_one rfl ?_
          intro w2 hu2
          have IS2 := Troupe.hid (ISS.out gm w2 (HU1.out.trans hu2) (HBK.out.below hu2 HBK.out.lt))
          have UB := Troupe.hid (HU1.out.trans hu2)
          clear hu2
          go_wp2_with fail
          refine IS2.out.mono ?_
          rintro en w2b ⟨rfl, hw2⟩
          obtain rfl := hw2
          go_wp2_with fail
          refine ⟨Up.refl _, ?_⟩
          have hne2 := UW.inh w2
          iterate 18 (refine wpUP_q rfl (fun K hK => ?_); go_simp; refine hK _ ?_; clear hK K)
          refine wpUP_done ?_
          intro w3 hu3
          have UA := Troupe.hid (UB.out.trans hu3)
          clear hu3 hne2 r1 e3

          go_wp2_with fail
          go_ret
          exact Ruled.same FIN.out (H0.out.below UA.out) (HF.out.trans (UA.out.mono hz)) hw
        | true =>
          rw [Bool.true_and] at FINV
          cases afail with
          | false =>
            rw [Bool.false_and] at FINV
            have FIN : Hid (toldV bk e = (9, bk)) := FINV.out
            go_upto_region 2 with (fail)
            refine region_up (.q 0 (.q 1 (.q 2 (.q 3 (.q 4 (.q 5 (.q 6 (.q 7 (.q 8 (.q 9 (.q 10 (.q 11 (.q 12 (.q 13 (.q 14 (.q 15 (.q 16 (.one 17 (.one 18 (.q 19 (.q 20 (.q 21 (.q 22 (.q 23 (.q 24 (.q 25 (.q 26 (.q 27 (.q 28 (.q 29 (.q 30 (.q 31 (.q 32 (.q 33 (.q 34 (.q 35 (.q 36 .done))))))))))))))))))))))))))))))))))))) (by kernel_rfl) (by kernel_rfl) (fun _ _ d _ _ h => by cases d <;> exact h) ?_
            iterate 17 (refine wpUP_q rfl (fun K hK => ?_); go_simp; refine hK _ ?_; clear hK K)
            refine wpUP_one rfl ?_
            intro w1 hu1
            have hblk := Blk.new w1 3 [.int .i64 1, .int .i64 2]
            have hu1' : Up w0 (w1.alloc (.cells #[.int .i64 1, .int .i64 2] 3)) := hu1.trans ((Below.refl _ _).alloc (Nat.le_refl _) _)
            have HBK := Troupe.hid hblk
            have HU1 := Troupe.hid hu1'
            clear hblk hu1' hu1
            go_wp2_with fail
            refine ⟨(Below.refl _ _).alloc (Nat.le_refl _) _, ?_⟩
            generalize w1.alloc (.cells #[.int .i64 1, .int .i64 2] 3) = w1a at *
            generalize w1.heap.size = gm at *
            refine wpUP_one rfl ?_
            intro w2 hu2
            have IS2 := Troupe.hid (ISS.out gm w2 (HU1.out.trans hu2) (HBK.out.below hu2 HBK.out.lt))
            have UB := Troupe.hid (HU1.out.trans hu2)
            clear hu2
            go_wp2_with fail
            refine IS2.out.mono ?_
            rintro en w2b ⟨rfl, hw2⟩
            obtain rfl := hw2
            go_wp2_with fail
            refine ⟨Up.refl _, ?_⟩
            have hne2 := UW.inh w2
            have r16 : ∀ x : UW w2, x.w.cell? ⟨g, 16, none⟩ = some (.bool false) := fun x => R16.out _ (UB.out.trans x.h)
            have r15 : ∀ x : UW w2, x.w.cell? ⟨g, 15, none⟩ = some (.string aopen) := fun x => R15.out _ (UB.out.trans x.h)
            have e5 : ∀ x : UW w2, x.w.cell? ⟨w.heap.size, 5, none⟩ = some (.string e.name) := fun x => (HK.out.below (UB.out.trans x.h) HK.out.lt).cell 5
            iterate 18 (refine wpUP_q rfl (fun K hK => ?_); go_simp; refine hK _ ?_; clear hK K)
            refine wpUP_done ?_
            intro w3 hu3
            have UA := Troupe.hid (UB.out.trans hu3)
            clear hu3 hne2 r1 e3 r16 r15 e5

            go_wp2_with fail
            go_ret
            exact Ruled.same FIN.out (H0.out.below UA.out) (HF.out.trans (UA.out.mono hz)) hw
          | true =>
            rw [Bool.true_and] at FINV
            cases b2 : (aopen.toList == e.name.toList) with
            | false =>
              rw [b2] at FINV
              have FIN : Hid (toldV bk e = (9, bk)) := FINV.out
              have b2' : (aopen.toList != e.name.toList) = true := by unfold bne; rw [b2]; rfl
              go_upto_region 2 with (fail)
              refine region_up (.q 0 (.q 1 (.q 2 (.q 3 (.q 4 (.q 5 (.q 6 (.q 7 (.q 8 (.q 9 (.q 10 (.q 11 (.q 12 (.q 13 (.q 14 (.q 15 (.q 16 (.one 17 (.one 18 (.q 19 (.q 20 (.q 21 (.q 22 (.q 23 (.q 24 (.q 25 (.q 26 (.q 27 (.q 28 (.q 29 (.q 30 (.q 31 (.q 32 (.q 33 (.q 34 (.q 35 (.q 36 .done))))))))))))))))))))))))))))))))))))) (by kernel_rfl) (by kernel_rfl) (fun _ _ d _ _ h => by cases d <;> exact h) ?_
              iterate 17 (refine wpUP_q rfl (fun K hK => ?_); go_simp; refine hK _ ?_; clear hK K)
              refine wpUP_one rfl ?_
              intro w1 hu1
              have hblk := Blk.new w1 3 [.int .i64 1, .int .i64 2]
              have hu1' : Up w0 (w1.alloc (.cells #[.int .i64 1, .int .i64 2] 3)) := hu1.trans ((Below.refl _ _).alloc (Nat.le_refl _) _)
              have HBK := Troupe.hid hblk
              have HU1 := Troupe.hid hu1'
              clear hblk hu1' hu1
              go_wp2_with fail
              refine ⟨(Below.refl _ _).alloc (Nat.le_refl _) _, ?_⟩
              generalize w1.alloc (.cells #[.int .i64 1, .int .i64 2] 3) = w1a at *
              generalize w1.heap.size = gm at *
              refine wpUP_one rfl ?_
              intro w2 hu2
              have IS2 := Troupe.hid (ISS.out gm w2 (HU1.out.trans hu2) (HBK.out.below hu2 HBK.out.lt))
              have UB := Troupe.hid (HU1.out.trans hu2)
              clear hu2
              go_wp2_with fail
              refine IS2.out.mono ?_
              rintro en w2b ⟨rfl, hw2⟩
              obtain rfl := hw2
              go_wp2_with fail
              refine ⟨Up.refl _, ?_⟩
              have hne2 := UW.inh w2
              have r16 : ∀ x : UW w2, x.w.cell? ⟨g, 16, none⟩ = some (.bool true) := fun x => R16.out _ (UB.out.trans x.h)
              have r15 : ∀ x : UW w2, x.w.cell? ⟨g, 15, none⟩ = some (.string aopen) := fun x => R15.out _ (UB.out.trans x.h)
              have e5 : ∀ x : UW w2, x.w.cell? ⟨w.heap.size, 5, none⟩ = some (.string e.name) := fun x => (HK.out.below (UB.out.trans x.h) HK.out.lt).cell 5
              iterate 18 (refine wpUP_q rfl (fun K hK => ?_); go_simp; refine hK _ ?_; clear hK K)
              refine wpUP_done ?_
              intro w3 hu3
              have UA := Troupe.hid (UB.out.trans hu3)
              clear hu3 hne2 r1 e3 r16 r15 e5

              go_wp2_with fail
              go_ret
              exact Ruled.same FIN.out (H0.out.below UA.out) (HF.out.trans (UA.out.mono hz)) hw
            | true =>
              rw [b2, if_pos rfl] at FINV
              go_upto_region 2 with (fail)
              refine region_up (.q 0 (.q 1 (.q 2 (.q 3 (.q 4 (.q 5 (.q 6 (.q 7 (.q 8 (.q 9 (.q 10 (.q 11 (.q 12 (.q 13 (.q 14 (.q 15 (.q 16 (.one 17 (.one 18 (.q 19 (.q 20 (.q 21 (.q 22 (.q 23 (.q 24 (.q 25 (.q 26 (.q 27 (.q 28 (.q 29 (.q 30 (.q 31 (.q 32 (.q 33 (.q 34 (.q 35 (.q 36 .done))))))))))))))))))))))))))))))))))))) (by kernel_rfl) (by kernel_rfl) (fun _ _ d _ _ h => by cases d <;> exact h) ?_
              iterate 17 (refine wpUP_q rfl (fun K hK => ?_); go_simp; refine hK _ ?_; clear hK K)
              refine wpUP_one rfl ?_
              intro w1 hu1
              have hblk := Blk.new w1 3 [.int .i64 1, .int .i64 2]
              have hu1' : Up w0 (w1.alloc (.cells #[.int .i64 1, .int .i64 2] 3)) := hu1.trans ((Below.refl _ _).alloc (Nat.le_refl _) _)
              have HBK := Troupe.hid hblk
              have HU1 := Troupe.hid hu1'
              clear hblk hu1' hu1
              go_wp2_with fail
              refine ⟨(Below.refl _ _).alloc (Nat.le_refl _) _, ?_⟩
              generalize w1.alloc (.cells #[.int .i64 1, .int .i64 2] 3) = w1a at *
              generalize w1.heap.size = gm at *
              refine wpUP_one rfl ?_
              intro w2 hu2
              have IS2 := Troupe.hid (ISS.out gm w2 (HU1.out.trans hu2) (HBK.out.below hu2 HBK.out.lt))
              have UB := Troupe.hid (HU1.out.trans hu2)
              clear hu2
              go_wp2_with fail
              refine IS2.out.mono ?_
              rintro en w2b ⟨rfl, hw2⟩
              obtain rfl := hw2
              go_wp2_with fail
              refine ⟨Up.refl _, ?_⟩
              have hne2 := UW.inh w2
              have r16 : ∀ x : UW w2, x.w.cell? ⟨g, 16, none⟩ = some (.bool true) := fun x => R16.out _ (UB.out.trans x.h)
              have r15 : ∀ x : UW w2, x.w.cell? ⟨g, 15, none⟩ = some (.string aopen) := fun x => R15.out _ (UB.out.trans x.h)
              have e5 : ∀ x : UW w2, x.w.cell? ⟨w.heap.size, 5, none⟩ = some (.string e.name) := fun x => (HK.out.below (UB.out.trans x.h) HK.out.lt).cell 5
              iterate 18 (refine wpUP_q rfl (fun K hK => ?_); go_simp; refine hK _ ?_; clear hK K)
              refine wpUP_done ?_
              intro w3 hu3
              have UA := Troupe.hid (UB.out.trans hu3)
              clear hu3 hne2 r1 e3 r16 r15 e5

              have HU := Troupe.hid (HBU.out.below UA.out HBU.out.lt)
              have HE := Troupe.hid (HK.out.below UA.out HK.out.lt)
              have H3 := Troupe.hid (H0.out.below UA.out)
              have F3 := Troupe.hid (HF.out.trans (UA.out.mono hz))
              have hz3 := F3.out.size
              have hne3 := UW.inh w3
              have u2 : ∀ x : UW w3, x.w.cell? ⟨g2, 2, none⟩ = some (.string k2.name) := fun x => (HU.out.below x.h HU.out.lt).cell 2
              have u3 : ∀ x : UW w3, x.w.cell? ⟨g2, 3, none⟩ = some (.int .i64 k2.limit) := fun x => (HU.out.below x.h HU.out.lt).cell 3
              have u4 : ∀ x : UW w3, x.w.cell? ⟨g2, 4, none⟩ = some (.int .i64 k2.within) := fun x => (HU.out.below x.h HU.out.lt).cell 4
              have u5 : ∀ x : UW w3, x.w.cell? ⟨g2, 5, none⟩ = some (.slice k2.Ac k2.cases.length k2.cc) := fun x => (HU.out.below x.h HU.out.lt).cell 5
              have u6 : ∀ x : UW w3, x.w.cell? ⟨g2, 6, none⟩ = some (.slice k2.A k2.sts.length k2.cap) := fun x => (HU.out.below x.h HU.out.lt).cell 6
              have e5 : ∀ x : UW w3, x.w.cell? ⟨w.heap.size, 5, none⟩ = some (.string e.name) := fun x => (HE.out.below x.h HE.out.lt).cell 5
              obtain ⟨d, hd⟩ : ∃ d, dirV up.k.cases e.name = d := ⟨_, rfl⟩
              have DIR : Hid (∀ x : UW w3, Calls Try.prog 42 #[.agg #[.string k2.name, .int .i64 k2.limit, .int .i64 k2.within, .slice k2.Ac k2.cases.length k2.cc, .slice k2.A k2.sts.length k2.cap], .string e.name] x.w fun en w' => en = .returned (.int .i64 d) ∧ Up x.w w') := fun x => by
                obtain ⟨hs2, ho2⟩ := HSO2.out
                obtain ⟨-, wk, B, hkf⟩ := HKF.out
                have hko := (ho2.below UA.out).below x.h
                have hdir := dir_any k2 e.name x.w (hko.in_ hs2 hkf)
                rw [hs2.cases, hd] at hdir
                exact hdir
              rw [hd] at FINV
              clear hd
              go_upto_region 4 with (fail)
              refine region_up (.q 0 (.q 1 (.q 2 (.q 3 (.q 4 (.q 5 (.q 6 (.q 7 .done)))))))) (by kernel_rfl) (by kernel_rfl) (fun _ _ d _ _ h => by cases d <;> exact h) ?_
              iterate 6 (refine wpUP_q rfl (fun K hK => ?_); go_simp; refine hK _ ?_; clear hK K)
              refine wpUP_q rfl (fun K hK => ?_)
              go_simp
              refine ⟨_, DIR.out, hK _ ?_⟩
              clear hK K
              (refine wpUP_q rfl (fun K hK => ?_); go_simp; refine hK _ ?_; clear hK K)
              refine wpUP_done ?_
              intro w4 hu4
              have H4 := Troupe.hid (H3.out.below hu4)
              have F4 := Troupe.hid (F3.out.trans (hu4.mono hz3))
              have hz4 := F4.out.size
              have E4 := Troupe.hid (HE.out.below hu4 HE.out.lt)
              have HBA4 := Troupe.hid (HBA.out.below (UA.out.trans hu4) HBA.out.lt)
              have HO4 := Troupe.hid ((HSO.out.2.below UA.out).below hu4)
              have k7 : w4.cell? ⟨w.heap.size, 7, none⟩ = some (.int .i64 e.why) := E4.out.cell 7
              clear hu4 u2 u3 u4 u5 u6 e5 hne3 hne
              obtain ⟨ewhy, hwhy⟩ : ∃ x, e.why = x := ⟨_, rfl⟩
              rw [hwhy] at FINV k7
              have HWHY := Troupe.hid hwhy
              clear hwhy
              by_cases hok : (ewhy == d || (d == 2 && ewhy == 3)) = true
              · rw [if_pos hok] at FINV
                have FIN : Hid (toldV bk e = (0, bk.setA i { a with failed := false, told := ewhy })) := FINV.out
                let S0 : World → Prop := fun w2 => Frm (fun x => x = g) w4 w2
                have hne5 : Nonempty (SW S0) := ⟨⟨w4, Frm.refl _ _⟩⟩
                have hgne : w.heap.size ≠ g := (HBA4.out.ne E4.out (by decide)).symm
                have fe : ∀ x : SW S0, x.w.cell? ⟨w.heap.size, 7, none⟩ = some (.int .i64 ewhy) := fun x => (World.cell?_of_block (x.h.block w.heap.size E4.out.lt hgne)).trans k7
                have HN : Hid (∀ w2 : World, w2.heap = w4.heap → Frm (fun _ => False) w4 w2 → BookAt ((w2.setCell ⟨g, 16, none⟩ (.bool false)).setCell ⟨g, 17, none⟩ (.int .i64 ewhy)) base gb pv Aa ca Al cl (bk.setA i { a with failed := false, told := ewhy }) ag lg ∧ Blo base w ((w2.setCell ⟨g, 16, none⟩ (.bool false)).setCell ⟨g, 17, none⟩ (.int .i64 ewhy))) := by
                  intro w2 hh hf
                  have hb2 : Below w4.heap.size w4 w2 := hf.below (Nat.le_refl _) (fun _ h => h.elim)
                  have b2 := HBA4.out.below hb2 HBA4.out.lt
                  have FS : Frm (fun x => x = g) w2 ((w2.setCell ⟨g, 16, none⟩ (.bool false)).setCell ⟨g, 17, none⟩ (.int .i64 ewhy)) := (Frm.one w2 ⟨g, 16, none⟩ _).trans (Frm.one _ ⟨g, 17, none⟩ _) (fun _ _ h => h)
                  have H2 := H4.out.below hb2
                  have hz2 := hb2.size
                  exact ⟨H2.setA (a' := { a with failed := false, told := ewhy }) HXG.out.1 HXG.out.2 FS ⟨k', A, n, c, ((b2.set_ 16 _).set_ 17 _), HSO.out.1, (HO4.out.below hb2).frm90 b2 FS⟩ (fun j hj => H2.wk a (List.mem_of_getElem? HXG.out.1) j hj) rfl, (Blo.fs (F4.out.trans (hb2.mono hz4)) hw b2 (by decide) FS (by omega) (fun x hx => by omega))⟩
                have ways : (ewhy = d) ∨ (¬ ewhy = d ∧ d = 2 ∧ ewhy = 3) := by
                  simp only [Bool.or_eq_true, Bool.and_eq_true, beq_iff_eq] at hok
                  by_cases h : ewhy = d
                  · exact .inl h
                  · exact .inr ⟨h, hok.resolve_left h⟩
                clear hok
                rcases ways with h1 | ⟨-, h2, h3⟩
                · obtain rfl := h1
                  go_upto_region 7 with (fail)
                  clear k7
                  refine region_plan (S := Cls S0) (.read 0 (.read 1 (.read 2 (.read 3 (.read 4 (.read 5 (.one 6 .tail))))))) 7 (by kernel_rfl) (by kernel_rfl) (fun _ _ d _ _ h => by cases d <;> exact h) ?_
                  intro w6 hh o1' o2' o3'
                  have hf : Frm (fun _ => False) w4 w6 := Frm.of_heap hh o1' o2' o3'
                  have HN6 := Troupe.hid (HN.out w6 hh hf)
                  have S1 := Troupe.hid ((hf.mono (S' := fun x => x = g) (fun _ _ h => h.elim)).trans (Frm.one w6 ⟨g, 16, none⟩ (.bool false)) (fun _ _ h => h))
                  have q16 : w6.cell? ⟨g, 16, none⟩ = some (.bool a.failed) := (World.cell?_of_block (by rw [hh])).trans (HBA4.out.cell 16)
                  have q17 : w6.cell? ⟨g, 17, none⟩ = some (.int .i64 a.told) := (World.cell?_of_block (by rw [hh])).trans (HBA4.out.cell 17)
                  have f7 : ∀ i, w6.frozen? ⟨g, i, none⟩ = false := fun i => (World.frozen?_of_block (by rw [hh])).trans (HBA4.out.frozen i)
                  refine ⟨Cls.of (hf.mono (fun _ _ h => h.elim)), ?_⟩
                  clear hh hf o1' o2' o3'
                  iterate 6 (refine wpPlan_read rfl (fun K hK => ?_); go_simp; refine hK _ ?_; clear hK K)
                  refine wpPlan_one rfl ?_
                  go_wp2_with fail
                  refine ⟨Cls.of S1.out, ?_⟩
                  refine wpPlan_tail ?_
                  simp only [List.drop_succ_cons, List.drop_zero]
                  clear fe hne5
                  go_wp2_with fail
                  go_ret
                  exact Ruled.same' FIN.out HN6.out.1 HN6.out.2
                · obtain rfl := h2
                  obtain rfl := h3
                  go_upto_region 7 with (fail)
                  clear k7
                  refine region_plan (S := Cls S0) (.read 0 (.read 1 (.read 2 (.read 3 (.read 4 (.read 5 (.one 6 .tail))))))) 7 (by kernel_rfl) (by kernel_rfl) (fun _ _ d _ _ h => by cases d <;> exact h) ?_
                  intro w6 hh o1' o2' o3'
                  have hf : Frm (fun _ => False) w4 w6 := Frm.of_heap hh o1' o2' o3'
                  have HN6 := Troupe.hid (HN.out w6 hh hf)
                  have S1 := Troupe.hid ((hf.mono (S' := fun x => x = g) (fun _ _ h => h.elim)).trans (Frm.one w6 ⟨g, 16, none⟩ (.bool false)) (fun _ _ h => h))
                  have q16 : w6.cell? ⟨g, 16, none⟩ = some (.bool a.failed) := (World.cell?_of_block (by rw [hh])).trans (HBA4.out.cell 16)
                  have q17 : w6.cell? ⟨g, 17, none⟩ = some (.int .i64 a.told) := (World.cell?_of_block (by rw [hh])).trans (HBA4.out.cell 17)
                  have f7 : ∀ i, w6.frozen? ⟨g, i, none⟩ = false := fun i => (World.frozen?_of_block (by rw [hh])).trans (HBA4.out.frozen i)
                  refine ⟨Cls.of (hf.mono (fun _ _ h => h.elim)), ?_⟩
                  clear hh hf o1' o2' o3'
                  iterate 6 (refine wpPlan_read rfl (fun K hK => ?_); go_simp; refine hK _ ?_; clear hK K)
                  refine wpPlan_one rfl ?_
                  go_wp2_with fail
                  refine ⟨Cls.of S1.out, ?_⟩
                  refine wpPlan_tail ?_
                  simp only [List.drop_succ_cons, List.drop_zero]
                  clear fe hne5
                  go_wp2_with fail
                  go_ret
                  exact Ruled.same' FIN.out HN6.out.1 HN6.out.2
              · rw [if_neg hok] at FINV
                have FIN : Hid (toldV bk e = (9, bk)) := FINV.out
                simp only [Bool.or_eq_true, Bool.and_eq_true, beq_iff_eq, not_or, not_and] at hok
                obtain ⟨h1, h2⟩ := hok
                have b1 : (ewhy != d) = true := by rw [bne_iff_ne]; exact h1
                by_cases h3 : d = 2
                · have h4 := h2 h3
                  subst h3
                  have b4 : (ewhy != 3) = true := by rw [bne_iff_ne]; exact h4
                  clear h1 h2 h4
                  go_wp2_with fail
                  go_ret
                  exact Ruled.same FIN.out H4.out F4.out hw
                · have b3 : (d != 2) = true := by rw [bne_iff_ne]; exact h3
                  clear h1 h2 h3
                  go_wp2_with fail
                  go_ret
                  exact Ruled.same FIN.out H4.out F4.out hw
end Go.Proofs.Ytkjjhndccelbcaa
