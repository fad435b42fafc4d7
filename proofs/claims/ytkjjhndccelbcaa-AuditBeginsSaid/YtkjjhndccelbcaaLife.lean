/- The rules of lives, by contracts. -/
import Derived.Test.YtkjjhndccelbcaaModel
import Derived.Test.YtkjjhndccelbcaaPlan
namespace Go.Proofs.Ytkjjhndccelbcaa
open Go.RowKit Go.Maps Go.Troupe
attribute [local go_sem] reads readAt readUpon Cls

/-- Blocks of functions stay as they are. -/
def K52 (w w' : World) : Prop := ∀ k cs, Blk w k 52 cs → Blk w' k 52 cs
theorem K52.of {w w' : World} (h : Below w.heap.size w w') : K52 w w' := fun _ _ hb => hb.below h hb.lt
theorem K52.set {w w1 w2 : World} {g : Nat} {t : TypeId} {cs : List Value} (h : K52 w w1) (hb : Blk w1 g t cs) (ht : t ≠ 52) (hf : Frm (fun x => x = g) w1 w2) : K52 w w2 :=
  fun k cs' hk => (h k cs' hk).frm hf (fun e => (h k cs' hk).ne hb (Ne.symm ht) e)
theorem K52.row {w w1 w2 : World} {base n size : Nat} {t : TypeId} {v : Value} {xs : List Value} (h : K52 w w1) (ho : w1.ownsRow base t size v n xs) (ht : t ≠ 52) (hf : Frm (fun k => v.ownBlock = some k) w1 w2) : K52 w w2 :=
  fun k cs' hk => (h k cs' hk).frm hf (fun e => by
    obtain ⟨cs2, hb2⟩ := own_at ho e
    exact (h k cs' hk).ne hb2 (Ne.symm ht) rfl)
def Blo (base : Nat) (w w' : World) : Prop := Below base w w' ∧ K52 w w'
theorem Blo.fs {w w1 w2 : World} {base g : Nat} {t : TypeId} {cs : List Value} (h : Below w.heap.size w w1) (hw : base ≤ w.heap.size) (hb : Blk w1 g t cs) (ht : t ≠ 52) (hf : Frm (fun x => x = g) w1 w2) (h1 : base ≤ w1.heap.size) (h2 : ∀ x, x = g → base ≤ x) : Blo base w w2 :=
  ⟨(h.mono hw).trans (hf.below h1 h2), (K52.of h).set hb ht hf⟩
/-- What a rule leaves. -/
def Ruled (w : World) (base gb : Nat) (pv : Value) (r : Int × Bk) (en : Ending) (w' : World) : Prop := en = .returned (.int .i64 r.1) ∧ Kept w' base gb pv r.2 ∧ Blo base w w'
theorem Ruled.same {w w' : World} {base gb ca cl : Nat} {pv : Value} {Aa Al : Option Addr} {bk : Bk} {ag lg : List Nat} {r : Int × Bk} {n : Int} (hr : r = (n, bk)) (h : BookAt w' base gb pv Aa ca Al cl bk ag lg) (hb : Below w.heap.size w w') (hw : base ≤ w.heap.size) :
    Ruled w base gb pv r (.returned (.int .i64 n)) w' := by
  subst hr
  exact ⟨rfl, ⟨Aa, ca, Al, cl, ag, lg, h⟩, hb.mono hw, K52.of hb⟩
theorem Ruled.same' {w w' : World} {base gb ca cl : Nat} {pv : Value} {Aa Al : Option Addr} {bk' : Bk} {ag lg : List Nat} {r : Int × Bk} {n : Int} (hr : r = (n, bk')) (h : BookAt w' base gb pv Aa ca Al cl bk' ag lg) (hb : Blo base w w') :
    Ruled w base gb pv r (.returned (.int .i64 n)) w' := by
  subst hr
  exact ⟨rfl, ⟨Aa, ca, Al, cl, ag, lg, h⟩, hb⟩

set_option maxRecDepth 100000 in
set_option maxHeartbeats 2000000 in
theorem stopping_any {w : World} {base gb ca cl : Nat} {pv : Value} {Aa Al : Option Addr} {bk : Bk} {ag lg : List Nat} (h : BookAt w base gb pv Aa ca Al cl bk ag lg) (hw : base ≤ w.heap.size) (e : Ev) (hl : bk.acs.length ≤ 140737488355328) :
    Calls Try.prog 27 #[.pointer (some ⟨gb, 0, none⟩), .agg e.cells.toArray] w (Ruled w base gb pv (stoppingV bk e)) := by
  have HR := Troupe.hid (rfl : stoppingV bk e = stoppingV bk e)
  have F0 : Below w.heap.size w (w.alloc (.cells #[.int .i64 e.kd, .int .i64 e.actor, .int .u64 e.id, .int .i64 e.src, .int .i64 e.dst, .string e.name, .int .i64 e.n, .int .i64 e.why, .bool e.timed] 32)) := (Below.refl _ _).alloc (Nat.le_refl _) _
  have K0 : Blk (w.alloc (.cells #[.int .i64 e.kd, .int .i64 e.actor, .int .u64 e.id, .int .i64 e.src, .int .i64 e.dst, .string e.name, .int .i64 e.n, .int .i64 e.why, .bool e.timed] 32)) w.heap.size 32 e.cells := Blk.new _ _ _
  have H0 := Troupe.hid (h.below F0)
  have AC := Troupe.hid (actor_any (h.below F0) e.actor hl)
  have HF := Troupe.hid F0
  have HK := Troupe.hid K0
  have hz := F0.size
  have e0 := K0.cell
  dsimp only [Ev.cells] at e0 ⊢
  clear h F0 K0
  go_enter Try.func27, Try.ntmps27
  go_wp2_with fail
  generalize w.alloc (.cells #[.int .i64 e.kd, .int .i64 e.actor, .int .u64 e.id, .int .i64 e.src, .int .i64 e.dst, .string e.name, .int .i64 e.n, .int .i64 e.why, .bool e.timed] 32) = w0 at *
  refine AC.out.mono ?_
  rintro en w1 ⟨rfl, rfl⟩
  have F1 : Below w0.heap.size w0 (w0.alloc (.cells #[.int .i64 1, .int .i64 2] 3)) := (Below.refl _ _).alloc (Nat.le_refl _) _
  have H1 := Troupe.hid (H0.out.below F1)
  have IS := Troupe.hid (is_any (H0.out.below F1) e.actor (some ⟨w0.heap.size, 0, none⟩) 2 2 [1, 2] rfl (by unfold maxLen; omega) ((Blk.new w0 3 [.int .i64 1, .int .i64 2]).blk_cells.mono (by simp)))
  have F01 := Troupe.hid (HF.out.trans (F1.mono hz))
  have K1 := Troupe.hid (HK.out.below F1 HK.out.lt)
  clear F1 e0 AC
  go_wp2_with fail
  generalize w0.alloc (.cells #[.int .i64 1, .int .i64 2] 3) = w1 at *
  refine IS.out.mono ?_
  rintro en w2 ⟨rfl, rfl⟩
  have hz1 := F01.out.size
  have hgw : base ≤ w.heap.size := hw
  cases hv : acV bk.acs e.actor with
  | none =>
    have FIN : Hid (stoppingV bk e = (12, bk)) := by unfold Hid stoppingV; rw [hv]
    unfold aptr gptr isV
    dsimp only [Option.map_none, Option.bind_none]
    go_wp2_with fail
    go_ret
    exact Ruled.same FIN.out H1.out F01.out hgw
  | some p =>
    obtain ⟨i, a⟩ := p
    have hm : acV bk.acs e.actor = some (i, a) := hv
    rw [← hv]
    obtain ⟨b1, hb1⟩ : ∃ b, isV (acV bk.acs e.actor) [1, 2] = b := ⟨_, rfl⟩
    rw [hb1]
    cases b1 with
    | false =>
      have FIN : Hid (stoppingV bk e = (12, bk)) := by
        unfold Hid stoppingV; rw [hm]; dsimp only; rw [← hm, hb1]; rfl
      clear hv hm hb1
      go_wp2_with fail
      go_ret
      exact Ruled.same FIN.out H1.out F01.out hgw
    | true =>
      have WK := Troupe.hid (works_any H1.out e.actor)
      obtain ⟨b2, hb2⟩ : ∃ b, worksV (acV bk.acs e.actor) = b := ⟨_, rfl⟩
      rw [hb2] at WK
      have HM := Troupe.hid hm
      have HB1 := Troupe.hid hb1
      have HB2 := Troupe.hid hb2
      clear hv hm hb1 hb2
      go_wp2_with fail
      refine WK.out.mono ?_
      rintro en w2 ⟨rfl, rfl⟩
      cases b2 with
      | true =>
        have FIN : Hid (stoppingV bk e = (12, bk)) := by
          unfold Hid stoppingV; rw [HM.out]; dsimp only; rw [← HM.out, HB1.out, HB2.out]; rfl
        go_wp2_with fail
        go_ret
        exact Ruled.same FIN.out H1.out F01.out hgw
      | false =>
        have FIN : Hid (stoppingV bk e = (0, bk.setA i { a with mode := 4 })) := by
          unfold Hid stoppingV; rw [HM.out]; dsimp only; rw [← HM.out, HB1.out, HB2.out]; rfl
        obtain ⟨g, hg, hx, hp, k', A, n, c, hb, hs, ho⟩ := ac_found H1.out HM.out
        have hgg := H1.out.ga g (List.mem_of_getElem? hg)
        have e2 := hb.cell
        have f2 := hb.frozen
        have FS : Frm (fun x => x = g) w1 (w1.setCell ⟨g, 8, none⟩ (.int .i64 4)) := Frm.one w1 ⟨g, 8, none⟩ _
        have HN := Troupe.hid (H1.out.setA (a' := { a with mode := 4 }) hx hg FS ⟨k', A, n, c, hb.set_ 8 _, hs, ho.frm90 hb FS⟩ (fun j hj => H1.out.wk a (List.mem_of_getElem? hx) j hj) rfl)
        have FB := Troupe.hid ((Blo.fs F01.out hgw hb (by decide) FS (by omega) (fun x hx => by omega)))
        dsimp only [Ac.cells] at e2
        rw [hp]
        clear hg hx hp hb hs ho FS
        go_wp2_with fail
        go_ret
        exact Ruled.same' FIN.out HN.out FB.out

set_option maxRecDepth 100000 in
set_option maxHeartbeats 2000000 in
theorem ended_any {w : World} {base gb ca cl : Nat} {pv : Value} {Aa Al : Option Addr} {bk : Bk} {ag lg : List Nat} (h : BookAt w base gb pv Aa ca Al cl bk ag lg) (hw : base ≤ w.heap.size) (e : Ev) (hl : bk.acs.length ≤ 140737488355328) :
    Calls Try.prog 28 #[.pointer (some ⟨gb, 0, none⟩), .agg e.cells.toArray] w (Ruled w base gb pv (endedV bk e)) := by
  have HR := Troupe.hid (rfl : endedV bk e = endedV bk e)
  have F0 : Below w.heap.size w (w.alloc (.cells #[.int .i64 e.kd, .int .i64 e.actor, .int .u64 e.id, .int .i64 e.src, .int .i64 e.dst, .string e.name, .int .i64 e.n, .int .i64 e.why, .bool e.timed] 32)) := (Below.refl _ _).alloc (Nat.le_refl _) _
  have K0 : Blk (w.alloc (.cells #[.int .i64 e.kd, .int .i64 e.actor, .int .u64 e.id, .int .i64 e.src, .int .i64 e.dst, .string e.name, .int .i64 e.n, .int .i64 e.why, .bool e.timed] 32)) w.heap.size 32 e.cells := Blk.new _ _ _
  have H0 := Troupe.hid (h.below F0)
  have AC := Troupe.hid (actor_any (h.below F0) e.actor hl)
  have HF := Troupe.hid F0
  have HK := Troupe.hid K0
  have hz := F0.size
  have e0 := K0.cell
  dsimp only [Ev.cells] at e0 ⊢
  clear h F0 K0
  go_enter Try.func28, Try.ntmps28
  go_wp2_with fail
  generalize w.alloc (.cells #[.int .i64 e.kd, .int .i64 e.actor, .int .u64 e.id, .int .i64 e.src, .int .i64 e.dst, .string e.name, .int .i64 e.n, .int .i64 e.why, .bool e.timed] 32) = w0 at *
  refine AC.out.mono ?_
  rintro en w1 ⟨rfl, rfl⟩
  have F1 : Below w0.heap.size w0 (w0.alloc (.cells #[.int .i64 4] 3)) := (Below.refl _ _).alloc (Nat.le_refl _) _
  have H1 := Troupe.hid (H0.out.below F1)
  have IS := Troupe.hid (is_any (H0.out.below F1) e.actor (some ⟨w0.heap.size, 0, none⟩) 1 1 [4] rfl (by unfold maxLen; omega) ((Blk.new w0 3 [.int .i64 4]).blk_cells.mono (by simp)))
  have F01 := Troupe.hid (HF.out.trans (F1.mono hz))
  have K1 := Troupe.hid (HK.out.below F1 HK.out.lt)
  clear F1 e0 AC
  go_wp2_with fail
  generalize w0.alloc (.cells #[.int .i64 4] 3) = w1 at *
  refine IS.out.mono ?_
  rintro en w2 ⟨rfl, rfl⟩
  have hz1 := F01.out.size
  have hgw : base ≤ w.heap.size := hw
  cases hv : acV bk.acs e.actor with
  | none =>
    have FIN : Hid (endedV bk e = (13, bk)) := by unfold Hid endedV; rw [hv]
    unfold aptr gptr isV
    dsimp only [Option.map_none, Option.bind_none]
    go_wp2_with fail
    go_ret
    exact Ruled.same FIN.out H1.out F01.out hgw
  | some p =>
    obtain ⟨i, a⟩ := p
    have hm : acV bk.acs e.actor = some (i, a) := hv
    rw [← hv]
    obtain ⟨b1, hb1⟩ : ∃ b, isV (acV bk.acs e.actor) [4] = b := ⟨_, rfl⟩
    rw [hb1]
    cases b1 with
    | false =>
      have FIN : Hid (endedV bk e = (13, bk)) := by
        unfold Hid endedV; rw [hm]; dsimp only; rw [← hm, hb1]; rfl
      clear hv hm hb1
      go_wp2_with fail
      go_ret
      exact Ruled.same FIN.out H1.out F01.out hgw
    | true =>
      have HM := Troupe.hid hm
      have HB1 := Troupe.hid hb1
      have ALO := Troupe.hid (alone_any H1.out e.actor hl)
      obtain ⟨b2, hb2⟩ : ∃ b, aloneV bk.acs e.actor = b := ⟨_, rfl⟩
      rw [hb2] at ALO
      have HB2 := Troupe.hid hb2
      have e1 := K1.out.cell
      dsimp only [Ev.cells] at e1
      clear hv hm hb1 hb2
      go_wp2_with fail
      refine ALO.out.mono ?_
      rintro en w2 ⟨rfl, hb⟩
      have H2 := Troupe.hid (H1.out.below hb)
      have F02 := Troupe.hid (F01.out.trans (hb.mono hz1))
      have hz2 := F02.out.size
      clear hb e1
      cases b2 with
      | false =>
        have FIN : Hid (endedV bk e = (13, bk)) := by
          unfold Hid endedV; rw [HM.out]; dsimp only; rw [← HM.out, HB1.out, HB2.out]; rfl
        go_wp2_with fail
        go_ret
        exact Ruled.same FIN.out H2.out F02.out hgw
      | true =>
        have FIN : Hid (endedV bk e = (0, bk.setA i { a with mode := 5 })) := by
          unfold Hid endedV; rw [HM.out]; dsimp only; rw [← HM.out, HB1.out, HB2.out]; rfl
        obtain ⟨g, hg, hx, hp, k', A, n, c, hb, hs, ho⟩ := ac_found H2.out HM.out
        have hgg := H2.out.ga g (List.mem_of_getElem? hg)
        have e2 := hb.cell
        have f2 := hb.frozen
        have FS : Frm (fun x => x = g) w2 (w2.setCell ⟨g, 8, none⟩ (.int .i64 5)) := Frm.one w2 ⟨g, 8, none⟩ _
        have HN := Troupe.hid (H2.out.setA (a' := { a with mode := 5 }) hx hg FS ⟨k', A, n, c, hb.set_ 8 _, hs, ho.frm90 hb FS⟩ (fun j hj => H2.out.wk a (List.mem_of_getElem? hx) j hj) rfl)
        have FB := Troupe.hid ((Blo.fs F02.out hgw hb (by decide) FS (by omega) (fun x hx => by omega)))
        dsimp only [Ac.cells] at e2
        rw [hp]
        clear hg hx hp hb hs ho FS
        go_wp2_with fail
        go_ret
        exact Ruled.same' FIN.out HN.out FB.out

set_option maxRecDepth 100000 in
set_option maxHeartbeats 2000000 in
theorem resumed_any {w : World} {base gb ca cl : Nat} {pv : Value} {Aa Al : Option Addr} {bk : Bk} {ag lg : List Nat} (h : BookAt w base gb pv Aa ca Al cl bk ag lg) (hw : base ≤ w.heap.size) (e : Ev) (hl : bk.acs.length ≤ 140737488355328) :
    Calls Try.prog 25 #[.pointer (some ⟨gb, 0, none⟩), .agg e.cells.toArray] w (Ruled w base gb pv (resumedV bk e)) := by
  have HR := Troupe.hid (rfl : resumedV bk e = resumedV bk e)
  have F0 : Below w.heap.size w (w.alloc (.cells #[.int .i64 e.kd, .int .i64 e.actor, .int .u64 e.id, .int .i64 e.src, .int .i64 e.dst, .string e.name, .int .i64 e.n, .int .i64 e.why, .bool e.timed] 32)) := (Below.refl _ _).alloc (Nat.le_refl _) _
  have K0 : Blk (w.alloc (.cells #[.int .i64 e.kd, .int .i64 e.actor, .int .u64 e.id, .int .i64 e.src, .int .i64 e.dst, .string e.name, .int .i64 e.n, .int .i64 e.why, .bool e.timed] 32)) w.heap.size 32 e.cells := Blk.new _ _ _
  have H0 := Troupe.hid (h.below F0)
  have AC := Troupe.hid (actor_any (h.below F0) e.actor hl)
  have HF := Troupe.hid F0
  have HK := Troupe.hid K0
  have hz := F0.size
  have e0 := K0.cell
  dsimp only [Ev.cells] at e0 ⊢
  clear h F0 K0
  go_enter Try.func25, Try.ntmps25
  go_wp2_with fail
  generalize w.alloc (.cells #[.int .i64 e.kd, .int .i64 e.actor, .int .u64 e.id, .int .i64 e.src, .int .i64 e.dst, .string e.name, .int .i64 e.n, .int .i64 e.why, .bool e.timed] 32) = w0 at *
  refine AC.out.mono ?_
  rintro en w1 ⟨rfl, rfl⟩
  have F1 : Below w0.heap.size w0 (w0.alloc (.cells #[.int .i64 2] 3)) := (Below.refl _ _).alloc (Nat.le_refl _) _
  have H1 := Troupe.hid (H0.out.below F1)
  have IS := Troupe.hid (is_any (H0.out.below F1) e.actor (some ⟨w0.heap.size, 0, none⟩) 1 1 [2] rfl (by unfold maxLen; omega) ((Blk.new w0 3 [.int .i64 2]).blk_cells.mono (by simp)))
  have F01 := Troupe.hid (HF.out.trans (F1.mono hz))
  have K1 := Troupe.hid (HK.out.below F1 HK.out.lt)
  clear F1 e0 AC
  go_wp2_with fail
  generalize w0.alloc (.cells #[.int .i64 2] 3) = w1 at *
  refine IS.out.mono ?_
  rintro en w2 ⟨rfl, rfl⟩
  have hz1 := F01.out.size
  have hgw : base ≤ w.heap.size := hw
  cases hv : acV bk.acs e.actor with
  | none =>
    have FIN : Hid (resumedV bk e = (10, bk)) := by unfold Hid resumedV; rw [hv]
    unfold aptr gptr isV
    dsimp only [Option.map_none, Option.bind_none]
    go_wp2_with fail
    go_ret
    exact Ruled.same FIN.out H1.out F01.out hgw
  | some p =>
    obtain ⟨i, a⟩ := p
    have hm : acV bk.acs e.actor = some (i, a) := hv
    rw [← hv]
    obtain ⟨b1, hb1⟩ : ∃ b, isV (acV bk.acs e.actor) [2] = b := ⟨_, rfl⟩
    rw [hb1]
    cases b1 with
    | false =>
      have FIN : Hid (resumedV bk e = (10, bk)) := by
        unfold Hid resumedV; rw [hm]; dsimp only; rw [← hm, hb1]; rfl
      clear hv hm hb1
      go_wp2_with fail
      go_ret
      exact Ruled.same FIN.out H1.out F01.out hgw
    | true =>
      have HM := Troupe.hid hm
      have HB1 := Troupe.hid hb1
      obtain ⟨g, hg, hx, hp, k', A, n, c, hb, hs, ho⟩ := ac_found H1.out HM.out
      have hgg := H1.out.ga g (List.mem_of_getElem? hg)
      have e2 := hb.cell
      have f2 := hb.frozen
      have FS : Frm (fun x => x = g) w1 ((w1.setCell ⟨g, 8, none⟩ (.int .i64 1)).setCell ⟨g, 17, none⟩ (.int .i64 0)) := (Frm.one w1 ⟨g, 8, none⟩ _).trans (Frm.one _ ⟨g, 17, none⟩ _) (fun _ _ h => h)
      have HN := Troupe.hid (H1.out.setA (a' := { a with mode := 1, told := 0 }) hx hg FS ⟨k', A, n, c, (hb.set_ 8 _).set_ 17 _, hs, ho.frm90 hb FS⟩ (fun j hj => H1.out.wk a (List.mem_of_getElem? hx) j hj) rfl)
      have FB := Troupe.hid ((Blo.fs F01.out hgw hb (by decide) FS (by omega) (fun x hx => by omega)))
      obtain ⟨at_, hat⟩ : ∃ t, a.told = t := ⟨_, rfl⟩
      have k17 : w1.cell? ⟨g, 17, none⟩ = some (.int .i64 at_) := by rw [← hat]; exact e2 17
      have k8 : w1.cell? ⟨g, 8, none⟩ = some (.int .i64 a.mode) := e2 8
      have HAT := Troupe.hid hat
      rw [hp]
      clear hg hx hp hb hs ho FS hv hm hb1 hat e2
      by_cases h1 : at_ = 1
      · subst h1
        have FIN : Hid (resumedV bk e = (0, bk.setA i { a with mode := 1, told := 0 })) := by
          unfold Hid resumedV; rw [HM.out]; dsimp only; rw [← HM.out, HB1.out, HAT.out]; rfl
        go_wp2_with fail
        go_ret
        exact Ruled.same' FIN.out HN.out FB.out
      · have hb1 : (at_ == 1) = false := beq_eq_false_iff_ne.2 h1
        have hb1' : (at_ != 1) = true := by rw [bne_iff_ne]; exact h1
        by_cases h4 : at_ = 4
        · subst h4
          have FIN : Hid (resumedV bk e = (0, bk.setA i { a with mode := 1, told := 0 })) := by
            unfold Hid resumedV; rw [HM.out]; dsimp only; rw [← HM.out, HB1.out, HAT.out]; rfl
          go_wp2_with fail
          go_ret
          exact Ruled.same' FIN.out HN.out FB.out
        · have hb4 : (at_ == 4) = false := beq_eq_false_iff_ne.2 h4
          have hb4' : (at_ != 4) = true := by rw [bne_iff_ne]; exact h4
          have FIN : Hid (resumedV bk e = (10, bk)) := by
            unfold Hid resumedV; rw [HM.out]; dsimp only; rw [← HM.out, HB1.out, HAT.out, hb1, hb4]; rfl
          clear h1 h4
          go_wp2_with fail
          go_ret
          exact Ruled.same FIN.out H1.out F01.out hgw

set_option maxRecDepth 100000 in
set_option maxHeartbeats 2000000 in
theorem failed_any {w : World} {base gb ca cl : Nat} {pv : Value} {Aa Al : Option Addr} {bk : Bk} {ag lg : List Nat} (h : BookAt w base gb pv Aa ca Al cl bk ag lg) (hw : base ≤ w.heap.size) (e : Ev) (hl : bk.acs.length ≤ 140737488355328) :
    Calls Try.prog 23 #[.pointer (some ⟨gb, 0, none⟩), .agg e.cells.toArray] w (Ruled w base gb pv (failedV bk e)) := by
  have HR := Troupe.hid (rfl : failedV bk e = failedV bk e)
  have F0 : Below w.heap.size w (w.alloc (.cells #[.int .i64 e.kd, .int .i64 e.actor, .int .u64 e.id, .int .i64 e.src, .int .i64 e.dst, .string e.name, .int .i64 e.n, .int .i64 e.why, .bool e.timed] 32)) := (Below.refl _ _).alloc (Nat.le_refl _) _
  have K0 : Blk (w.alloc (.cells #[.int .i64 e.kd, .int .i64 e.actor, .int .u64 e.id, .int .i64 e.src, .int .i64 e.dst, .string e.name, .int .i64 e.n, .int .i64 e.why, .bool e.timed] 32)) w.heap.size 32 e.cells := Blk.new _ _ _
  have H0 := Troupe.hid (h.below F0)
  have AC := Troupe.hid (actor_any (h.below F0) e.actor hl)
  have HF := Troupe.hid F0
  have HK := Troupe.hid K0
  have hz := F0.size
  have e0 := K0.cell
  dsimp only [Ev.cells] at e0 ⊢
  clear h F0 K0
  go_enter Try.func23, Try.ntmps23
  go_wp2_with fail
  generalize w.alloc (.cells #[.int .i64 e.kd, .int .i64 e.actor, .int .u64 e.id, .int .i64 e.src, .int .i64 e.dst, .string e.name, .int .i64 e.n, .int .i64 e.why, .bool e.timed] 32) = w0 at *
  refine AC.out.mono ?_
  rintro en w1 ⟨rfl, rfl⟩
  have F1 : Below w0.heap.size w0 (w0.alloc (.cells #[.int .i64 1] 3)) := (Below.refl _ _).alloc (Nat.le_refl _) _
  have H1 := Troupe.hid (H0.out.below F1)
  have IS := Troupe.hid (is_any (H0.out.below F1) e.actor (some ⟨w0.heap.size, 0, none⟩) 1 1 [1] rfl (by unfold maxLen; omega) ((Blk.new w0 3 [.int .i64 1]).blk_cells.mono (by simp)))
  have F01 := Troupe.hid (HF.out.trans (F1.mono hz))
  have K1 := Troupe.hid (HK.out.below F1 HK.out.lt)
  clear F1 e0 AC
  go_wp2_with fail
  generalize w0.alloc (.cells #[.int .i64 1] 3) = w1 at *
  refine IS.out.mono ?_
  rintro en w2 ⟨rfl, rfl⟩
  have hz1 := F01.out.size
  have hgw : base ≤ w.heap.size := hw
  cases hv : acV bk.acs e.actor with
  | none =>
    have FIN : Hid (failedV bk e = (8, bk)) := by unfold Hid failedV; rw [hv]
    unfold aptr gptr isV
    dsimp only [Option.map_none, Option.bind_none]
    go_wp2_with fail
    go_ret
    exact Ruled.same FIN.out H1.out F01.out hgw
  | some p =>
    obtain ⟨i, a⟩ := p
    have hm : acV bk.acs e.actor = some (i, a) := hv
    rw [← hv]
    obtain ⟨b1, hb1⟩ : ∃ b, isV (acV bk.acs e.actor) [1] = b := ⟨_, rfl⟩
    rw [hb1]
    cases b1 with
    | false =>
      have FIN : Hid (failedV bk e = (8, bk)) := by
        unfold Hid failedV; rw [hm]; dsimp only; rw [← hm, hb1]; rfl
      clear hv hm hb1
      go_wp2_with fail
      go_ret
      exact Ruled.same FIN.out H1.out F01.out hgw
    | true =>
      have WK := Troupe.hid (works_any H1.out e.actor)
      obtain ⟨b2, hb2⟩ : ∃ b, worksV (acV bk.acs e.actor) = b := ⟨_, rfl⟩
      rw [hb2] at WK
      have HM := Troupe.hid hm
      have HB1 := Troupe.hid hb1
      have HB2 := Troupe.hid hb2
      clear hv hm hb1 hb2
      go_wp2_with fail
      refine WK.out.mono ?_
      rintro en w2 ⟨rfl, rfl⟩
      cases b2 with
      | true =>
        have FIN : Hid (failedV bk e = (8, bk)) := by
          unfold Hid failedV; rw [HM.out]; dsimp only; rw [← HM.out, HB1.out, HB2.out]; rfl
        go_wp2_with fail
        go_ret
        exact Ruled.same FIN.out H1.out F01.out hgw
      | false =>
        have FIN : Hid (failedV bk e = (0, bk.setA i { a with mode := 2, open_ := e.name, failed := true })) := by
          unfold Hid failedV; rw [HM.out]; dsimp only; rw [← HM.out, HB1.out, HB2.out]; rfl
        obtain ⟨g, hg, hx, hp, k', A, n, c, hb, hs, ho⟩ := ac_found H1.out HM.out
        have hgg := H1.out.ga g (List.mem_of_getElem? hg)
        have K1c := Troupe.hid K1.out.cell
        have HBC := Troupe.hid hb
        have HN : Hid (∀ w2 : World, w2.heap = w1.heap → Frm (fun _ => False) w1 w2 → BookAt (((w2.setCell ⟨g, 8, none⟩ (.int .i64 2)).setCell ⟨g, 15, none⟩ (.string e.name)).setCell ⟨g, 16, none⟩ (.bool true)) base gb pv Aa ca Al cl (bk.setA i { a with mode := 2, open_ := e.name, failed := true }) ag lg ∧ Blo base w (((w2.setCell ⟨g, 8, none⟩ (.int .i64 2)).setCell ⟨g, 15, none⟩ (.string e.name)).setCell ⟨g, 16, none⟩ (.bool true))) := by
          intro w2 hh hf
          have hb2 : Below w1.heap.size w1 w2 := hf.below (Nat.le_refl _) (fun _ h => h.elim)
          have b2 := hb.below hb2 hb.lt
          have FS : Frm (fun x => x = g) w2 (((w2.setCell ⟨g, 8, none⟩ (.int .i64 2)).setCell ⟨g, 15, none⟩ (.string e.name)).setCell ⟨g, 16, none⟩ (.bool true)) := ((Frm.one w2 ⟨g, 8, none⟩ _).trans (Frm.one _ ⟨g, 15, none⟩ _) (fun _ _ h => h)).trans (Frm.one _ ⟨g, 16, none⟩ _) (fun _ _ h => h)
          have H2 := H1.out.below hb2
          have hz2 := hb2.size
          exact ⟨H2.setA (a' := { a with mode := 2, open_ := e.name, failed := true }) hx hg FS ⟨k', A, n, c, ((b2.set_ 8 _).set_ 15 _).set_ 16 _, hs, (ho.below hb2).frm90 b2 FS⟩ (fun j hj => H2.wk a (List.mem_of_getElem? hx) j hj) rfl, (Blo.fs (F01.out.trans (hb2.mono hz1)) hgw b2 (by decide) FS (by omega) (fun x hx => by omega))⟩
        rw [hp]
        clear hg hx hp hb hs ho
        go_upto_region 4 with (fail)
        let S0 : World → Prop := fun w2 => Frm (fun x => x = g) w1 w2
        have hne : Nonempty (SW S0) := ⟨⟨w1, Frm.refl _ _⟩⟩
        have hgne : w.heap.size ≠ g := HBC.out.ne K1.out (by decide) |>.symm
        have fe : ∀ x : SW S0, x.w.cell? ⟨w.heap.size, 5, none⟩ = some (.string e.name) := fun x => (World.cell?_of_block (x.h.block w.heap.size K1.out.lt hgne)).trans (K1c.out 5)
        refine region_plan (S := Cls S0) (.read 0 (.read 1 (.read 2 (.read 3 (.read 4 (.read 5 (.read 6 (.one 7 (.read 8 (.read 9 (.one 10 .tail))))))))))) 11 (by kernel_rfl) (by kernel_rfl) (fun _ _ d _ _ h => by cases d <;> exact h) ?_
        intro w2 hh o1' o2' o3'
        have hf : Frm (fun _ => False) w1 w2 := Frm.of_heap hh o1' o2' o3'
        clear o1' o2' o3'
        refine ⟨Cls.of (hf.mono (fun _ _ h => h.elim)), ?_⟩
        iterate 7 (refine wpPlan_read rfl (fun K hK => ?_); go_simp; refine hK _ ?_; clear hK K)
        have k8 : w2.cell? ⟨g, 8, none⟩ = some (.int .i64 a.mode) := (World.cell?_of_block (by rw [hh])).trans (HBC.out.cell 8)
        have k15 : w2.cell? ⟨g, 15, none⟩ = some (.string a.open_) := (World.cell?_of_block (by rw [hh])).trans (HBC.out.cell 15)
        have k16 : w2.cell? ⟨g, 16, none⟩ = some (.bool a.failed) := (World.cell?_of_block (by rw [hh])).trans (HBC.out.cell 16)
        have f2 : ∀ i, w2.frozen? ⟨g, i, none⟩ = false := fun i => (World.frozen?_of_block (by rw [hh])).trans (HBC.out.frozen i)
        have HN2 := Troupe.hid (HN.out w2 hh hf)
        have S1 := Troupe.hid ((hf.mono (S' := fun x => x = g) (fun _ _ h => h.elim)).trans (Frm.one w2 ⟨g, 8, none⟩ (.int .i64 2)) (fun _ _ h => h))
        have S2 := Troupe.hid (S1.out.trans (Frm.one _ ⟨g, 15, none⟩ (.string e.name)) (fun _ _ h => h))
        clear hh hf
        refine wpPlan_one rfl ?_
        go_wp2_with fail
        refine ⟨Cls.of S1.out, ?_⟩
        iterate 2 (refine wpPlan_read rfl (fun K hK => ?_); go_simp; refine hK _ ?_; clear hK K)
        refine wpPlan_one rfl ?_
        go_wp2_with fail
        refine ⟨Cls.of S2.out, ?_⟩
        refine wpPlan_tail ?_
        simp only [List.drop_succ_cons, List.drop_zero]
        clear fe hne
        go_wp2_with fail
        go_ret
        exact Ruled.same' FIN.out HN2.out.1 HN2.out.2
end Go.Proofs.Ytkjjhndccelbcaa
