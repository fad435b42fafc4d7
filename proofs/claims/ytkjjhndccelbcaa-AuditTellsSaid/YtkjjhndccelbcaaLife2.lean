/- More rules of lives, by contracts. -/
import Derived.Test.YtkjjhndccelbcaaLife
namespace Go.Proofs.Ytkjjhndccelbcaa
open Go.RowKit Go.Maps Go.Troupe
attribute [local go_sem] reads readAt readUpon Cls

set_option maxRecDepth 100000 in
set_option maxHeartbeats 2000000 in
theorem restarted_any {w : World} {base gb ca cl : Nat} {pv : Value} {Aa Al : Option Addr} {bk : Bk} {ag lg : List Nat} (h : BookAt w base gb pv Aa ca Al cl bk ag lg) (hw : base ≤ w.heap.size) (e : Ev) (hl : bk.acs.length ≤ 140737488355328) :
    Calls Try.prog 26 #[.pointer (some ⟨gb, 0, none⟩), .agg e.cells.toArray] w (Ruled w base gb pv (restartedV bk e)) := by
  have HR := Troupe.hid (rfl : restartedV bk e = restartedV bk e)
  have F0 : Below w.heap.size w (w.alloc (.cells #[.int .i64 e.kd, .int .i64 e.actor, .int .u64 e.id, .int .i64 e.src, .int .i64 e.dst, .string e.name, .int .i64 e.n, .int .i64 e.why, .bool e.timed] 32)) := (Below.refl _ _).alloc (Nat.le_refl _) _
  have K0 : Blk (w.alloc (.cells #[.int .i64 e.kd, .int .i64 e.actor, .int .u64 e.id, .int .i64 e.src, .int .i64 e.dst, .string e.name, .int .i64 e.n, .int .i64 e.why, .bool e.timed] 32)) w.heap.size 32 e.cells := Blk.new _ _ _
  have H0 := Troupe.hid (h.below F0)
  have AC := Troupe.hid (actor_any (h.below F0) e.actor hl)
  have HF := Troupe.hid F0
  have HK := Troupe.hid K0
  have hz := F0.size
  have e0 := K0.cell
  dsimp only [Ev.cells] at e0 ⊢
  clear h F0 K0
  go_enter Try.func26, Try.ntmps26
  go_wp2_with fail
  generalize w.alloc (.cells #[.int .i64 e.kd, .int .i64 e.actor, .int .u64 e.id, .int .i64 e.src, .int .i64 e.dst, .string e.name, .int .i64 e.n, .int .i64 e.why, .bool e.timed] 32) = w0 at *
  refine AC.out.mono ?_
  rintro en w1 ⟨rfl, rfl⟩
  have F1 : Below w0.heap.size w0 (w0.alloc (.cells #[.int .i64 2] 3)) := (Below.refl _ _).alloc (Nat.le_refl _) _
  have H1 := Troupe.hid (H0.out.below F1)
  have IS := Troupe.hid (is_any (H0.out.below F1) e.actor (some ⟨w0.heap.size, 0, none⟩) 1 1 [2] rfl (by unfold maxLen; omega) ((Blk.new w0 3 [.int .i64 2]).blk_cells.mono (by simp)))
  have F01 := Troupe.hid (HF.out.trans (F1.mono hz))
  have K1 := Troupe.hid (HK.out.below F1 HK.out.lt)
  clear F1 e0 AC
  go_wp2_with fail
  generalize w0.alloc (.cells #[.int .i64 2] 3) = w1 at *
  refine IS.out.mono ?_
  rintro en w2 ⟨rfl, rfl⟩
  have hz1 := F01.out.size
  have hgw : base ≤ w.heap.size := hw
  cases hv : acV bk.acs e.actor with
  | none =>
    have FIN : Hid (restartedV bk e = (11, bk)) := by unfold Hid restartedV; rw [hv]
    unfold aptr gptr isV
    dsimp only [Option.map_none, Option.bind_none]
    go_wp2_with fail
    go_ret
    exact Ruled.same FIN.out H1.out F01.out hgw
  | some p =>
    obtain ⟨i, a⟩ := p
    have hm : acV bk.acs e.actor = some (i, a) := hv
    rw [← hv]
    obtain ⟨b1, hb1⟩ : ∃ b, isV (acV bk.acs e.actor) [2] = b := ⟨_, rfl⟩
    rw [hb1]
    cases b1 with
    | false =>
      have FIN : Hid (restartedV bk e = (11, bk)) := by
        unfold Hid restartedV; rw [hm]; dsimp only; rw [← hm, hb1]; rfl
      clear hv hm hb1
      go_wp2_with fail
      go_ret
      exact Ruled.same FIN.out H1.out F01.out hgw
    | true =>
      have HM := Troupe.hid hm
      have HB1 := Troupe.hid hb1
      obtain ⟨g, hg, hx, hp, k', A, n, c, hb, hs, ho⟩ := ac_found H1.out HM.out
      have k17 : w1.cell? ⟨g, 17, none⟩ = some (.int .i64 a.told) := hb.cell 17
      have ALO := Troupe.hid (alone_any H1.out e.actor hl)
      obtain ⟨b2, hb2⟩ : ∃ b, aloneV bk.acs e.actor = b := ⟨_, rfl⟩
      rw [hb2] at ALO
      have HB2 := Troupe.hid hb2
      have e1 := K1.out.cell
      dsimp only [Ev.cells] at e1
      have HP := Troupe.hid hp
      rw [hp]
      clear hv hm hb1 hb2 hg hx hb hs ho hp
      obtain ⟨at_, hat⟩ : ∃ t, a.told = t := ⟨_, rfl⟩
      rw [hat] at k17
      have HAT := Troupe.hid hat
      clear hat
      by_cases h2 : at_ = 2
      · subst h2
        go_wp2_with fail
        refine ALO.out.mono ?_
        rintro en w2 ⟨rfl, hb⟩
        have H2 := Troupe.hid (H1.out.below hb)
        have F02 := Troupe.hid (F01.out.trans (hb.mono hz1))
        have hz2 := F02.out.size
        clear hb e1 k17
        cases b2 with
        | false =>
          have FIN : Hid (restartedV bk e = (11, bk)) := by
            unfold Hid restartedV; rw [HM.out]; dsimp only; rw [← HM.out, HB1.out, HB2.out, HAT.out]; rfl
          go_wp2_with fail
          go_ret
          exact Ruled.same FIN.out H2.out F02.out hgw
        | true =>
          have FIN : Hid (restartedV bk e = (0, bk.setA i { a with mode := 1, told := 0, state := (a.k.sts.head?.map (·.name)).getD noS })) := by
            unfold Hid restartedV; rw [HM.out]; dsimp only; rw [← HM.out, HB1.out, HB2.out, HAT.out]; rfl
          obtain ⟨g', hg, hx, hp, k', A, n, c, hb, hs, ho⟩ := ac_found H2.out HM.out
          rw [HP.out] at hp
          simp only [Value.pointer.injEq, Option.some.injEq, Addr.mk.injEq, and_true] at hp
          subst hp
          have hgg := H2.out.ga g (List.mem_of_getElem? hg)
          obtain ⟨hne, -⟩ := H2.out.kf a (List.mem_of_getElem? hx)
          obtain ⟨s, hs0⟩ : ∃ s, a.k.sts[0]? = some s := by
            cases hst : a.k.sts with
            | nil => exact absurd hst hne
            | cons s l => exact ⟨s, rfl⟩
          obtain ⟨s', hs0', hss⟩ := hs.sts.at_ hs0
          have hname : (a.k.sts.head?.map (·.name)).getD noS = s'.name := by
            rw [List.head?_eq_getElem?, hs0, hss.name]; rfl
          obtain ⟨b5, o5, hA5, -, hc5⟩ := cells_at (sz := 2) (fun _ => rfl) (by decide) (own_cells ho.sts) hs0'
          have k0 : w2.cell? ⟨b5, o5, none⟩ = some (.string s'.name) := by have := hc5 0 (by decide) _ rfl; rwa [Nat.zero_mul, Nat.add_zero] at this
          have k6 : w2.cell? ⟨g, 6, none⟩ = some (.slice (some ⟨b5, o5, none⟩) k'.sts.length k'.cap) := by rw [← hA5]; exact hb.cell 6
          have l0 : 0 < k'.sts.length := (List.getElem?_eq_some_iff.1 hs0').1
          have q8 : w2.cell? ⟨g, 8, none⟩ = some (.int .i64 a.mode) := hb.cell 8
          have q17 : w2.cell? ⟨g, 17, none⟩ = some (.int .i64 a.told) := hb.cell 17
          have q7 : w2.cell? ⟨g, 7, none⟩ = some (.string a.state) := hb.cell 7
          have f2 := hb.frozen
          have FS : Frm (fun x => x = g) w2 (((w2.setCell ⟨g, 8, none⟩ (.int .i64 1)).setCell ⟨g, 17, none⟩ (.int .i64 0)).setCell ⟨g, 7, none⟩ (.string s'.name)) := ((Frm.one w2 ⟨g, 8, none⟩ _).trans (Frm.one _ ⟨g, 17, none⟩ _) (fun _ _ h => h)).trans (Frm.one _ ⟨g, 7, none⟩ _) (fun _ _ h => h)
          have HN := Troupe.hid (H2.out.setA (a' := { a with mode := 1, told := 0, state := s'.name }) hx hg FS ⟨k', A, n, c, ((hb.set_ 8 _).set_ 17 _).set_ 7 _, hs, ho.frm90 hb FS⟩ (fun j hj => H2.out.wk a (List.mem_of_getElem? hx) j hj) rfl)
          have FB := Troupe.hid ((Blo.fs F02.out hgw hb (by decide) FS (by omega) (fun x hx => by omega)))
          rw [hname] at FIN
          clear hg hx hb hs ho FS hne hs0 hs0' hss hname hA5 hc5
          go_wp2_with fail
          go_ret
          exact Ruled.same' FIN.out HN.out FB.out
      · have hb2 : (at_ != 2) = true := by rw [bne_iff_ne]; exact h2
        have hb2' : (at_ == 2) = false := beq_eq_false_iff_ne.2 h2
        have FIN : Hid (restartedV bk e = (11, bk)) := by
          unfold Hid restartedV; rw [HM.out]; dsimp only; rw [← HM.out, HB1.out, HAT.out, hb2']; rfl
        clear h2
        go_wp2_with fail
        go_ret
        exact Ruled.same FIN.out H1.out F01.out hgw

theorem BookAt.tick {w : World} {base gb ca cl : Nat} {pv : Value} {Aa Al : Option Addr} {bk : Bk} {ag lg : List Nat} (h : BookAt w base gb pv Aa ca Al cl bk ag lg) (t : Int) : BookAt (w.setCell ⟨gb, 3, none⟩ (.int .i64 t)) base gb pv Aa ca Al cl { bk with ticks := t } ag lg := by
  have hf : Frm (fun x => x = gb) w (w.setCell ⟨gb, 3, none⟩ (.int .i64 t)) := Frm.one w ⟨gb, 3, none⟩ _
  have b0 := h.blk
  refine ⟨b0.set_ 3 _, h.hb, own_frm h.oa hf (fun b hb e => ?_), own_frm h.ol hf (fun b hb e => ?_), h.la, h.ll, h.nda, h.ndl, h.ga, h.gl, ?_, ?_, h.wk, h.kf⟩
  · obtain ⟨cs', hbk⟩ := own_at h.oa hb
    exact hbk.ne b0 (by decide) e
  · obtain ⟨cs', hbk⟩ := own_at h.ol hb
    exact hbk.ne b0 (by decide) e
  · intro i a g hx hg
    obtain ⟨k', A, n, c, hb, hs, ho⟩ := h.ac i a g hx hg
    refine ⟨k', A, n, c, hb.frm hf (hb.ne b0 (by decide)), hs, own_frm ho.cases hf (fun b hb' e => ?_), own_frm ho.sts hf (fun b hb' e => ?_), fun s hs' => ⟨own_frm (ho.all s hs').1 hf (fun b hb' e => ?_), fun r hr => own_frm ((ho.all s hs').2 r hr) hf (fun b hb' e => ?_)⟩⟩
    · obtain ⟨cs', hbk⟩ := own_at ho.cases hb'
      exact hbk.ne b0 (by decide) e
    · obtain ⟨cs', hbk⟩ := own_at ho.sts hb'
      exact hbk.ne b0 (by decide) e
    · obtain ⟨cs', hbk⟩ := own_at (ho.all s hs').1 hb'
      exact hbk.ne b0 (by decide) e
    · obtain ⟨cs', hbk⟩ := own_at ((ho.all s hs').2 r hr) hb'
      exact hbk.ne b0 (by decide) e
  · intro i l g hx hg
    exact (h.lt i l g hx hg).frm hf ((h.lt i l g hx hg).ne b0 (by decide))
set_option maxRecDepth 100000 in
set_option maxHeartbeats 1000000 in
theorem refused_any {w : World} {base gb ca cl : Nat} {pv : Value} {Aa Al : Option Addr} {bk : Bk} {ag lg : List Nat} (h : BookAt w base gb pv Aa ca Al cl bk ag lg) (hw : base ≤ w.heap.size) (e : Ev) :
    Calls Try.prog 16 #[.pointer (some ⟨gb, 0, none⟩), .agg e.cells.toArray] w (Ruled w base gb pv (0, bk)) := by
  have F0 : Below w.heap.size w (w.alloc (.cells #[.int .i64 e.kd, .int .i64 e.actor, .int .u64 e.id, .int .i64 e.src, .int .i64 e.dst, .string e.name, .int .i64 e.n, .int .i64 e.why, .bool e.timed] 32)) := (Below.refl _ _).alloc (Nat.le_refl _) _
  have H0 := Troupe.hid (h.below F0)
  have HF := Troupe.hid F0
  have HWW := Troupe.hid hw
  dsimp only [Ev.cells]
  clear h F0
  go_enter Try.func16, Try.ntmps16
  go_wp2_with fail
  go_ret
  exact Ruled.same rfl H0.out HF.out HWW.out
set_option maxRecDepth 100000 in
set_option maxHeartbeats 1000000 in
theorem tick_any {w : World} {base gb ca cl : Nat} {pv : Value} {Aa Al : Option Addr} {bk : Bk} {ag lg : List Nat} (h : BookAt w base gb pv Aa ca Al cl bk ag lg) (hw : base ≤ w.heap.size) (e : Ev) (ht : 0 ≤ bk.ticks ∧ bk.ticks ≤ 140737488355328) :
    Calls Try.prog 29 #[.pointer (some ⟨gb, 0, none⟩), .agg e.cells.toArray] w (Ruled w base gb pv (tickV bk e)) := by
  have F0 : Below w.heap.size w (w.alloc (.cells #[.int .i64 e.kd, .int .i64 e.actor, .int .u64 e.id, .int .i64 e.src, .int .i64 e.dst, .string e.name, .int .i64 e.n, .int .i64 e.why, .bool e.timed] 32)) := (Below.refl _ _).alloc (Nat.le_refl _) _
  have H0 := Troupe.hid (h.below F0)
  have HF := Troupe.hid F0
  have K0 := Troupe.hid (Blk.new w 32 e.cells)
  have hz := F0.size
  obtain ⟨ht0, ht1⟩ := ht
  obtain ⟨tk, htk⟩ : ∃ tk, bk.ticks = tk := ⟨_, rfl⟩
  rw [htk] at ht0 ht1
  have HT := Troupe.hid htk
  dsimp only [Ev.cells] at K0 ⊢
  clear h F0 htk
  go_enter Try.func29, Try.ntmps29
  go_upto_region 1 with (fail)
  generalize w.alloc (.cells #[.int .i64 e.kd, .int .i64 e.actor, .int .u64 e.id, .int .i64 e.src, .int .i64 e.dst, .string e.name, .int .i64 e.n, .int .i64 e.why, .bool e.timed] 32) = w0 at *
  have hsum : IntKind.i64.wrap (tk + 1) = tk + 1 := IntWalk.i64_in _ (by omega)
  refine region_still (by kernel_rfl) (by kernel_rfl) ?_
  intro w2 hh hf
  have hb2 : Below w0.heap.size w0 w2 := hf.below (Nat.le_refl _) (fun _ h => h.elim)
  have H2 := Troupe.hid (H0.out.below hb2)
  have F2 := Troupe.hid (HF.out.trans (hb2.mono hz))
  have HWW := Troupe.hid hw
  have k6 : w2.cell? ⟨w.heap.size, 6, none⟩ = some (.int .i64 e.n) := (World.cell?_of_block (by rw [hh])).trans (K0.out.cell 6)
  have q3 : w2.cell? ⟨gb, 3, none⟩ = some (.int .i64 tk) := by rw [H2.out.blk.cell 3, HT.out]; rfl
  have f2 := H2.out.blk.frozen
  have hz2 : w0.heap.size ≤ w2.heap.size := hb2.size
  clear hh hf hb2
  iterate 8 still_step
  refine wpStill_nil ?_
  by_cases hn : e.n = tk + 1
  · have FIN : Hid (tickV bk e = (0, { bk with ticks := tk + 1 })) := by unfold Hid tickV; rw [HT.out, if_pos hn]
    have FS : Frm (fun x => x = gb) w2 (w2.setCell ⟨gb, 3, none⟩ (.int .i64 (tk + 1))) := Frm.one w2 ⟨gb, 3, none⟩ _
    have HN := Troupe.hid (H2.out.tick (tk + 1))
    have hgb := H2.out.hb
    have FB := Troupe.hid (Blo.fs F2.out hw H2.out.blk (by decide) FS (by omega) (fun x hx => by omega))
    have hne : (e.n != tk + 1) = false := by rw [hn]; simp
    have HNE := Troupe.hid hn
    clear FS hn
    go_wp2_with fail
    go_ret
    exact Ruled.same' FIN.out HN.out FB.out
  · have FIN : Hid (tickV bk e = (14, bk)) := by unfold Hid tickV; rw [HT.out, if_neg hn]
    have hne : (e.n != tk + 1) = true := by rw [bne_iff_ne]; exact hn
    clear hn
    go_wp2_with fail
    go_ret
    exact Ruled.same FIN.out H2.out F2.out HWW.out
end Go.Proofs.Ytkjjhndccelbcaa
