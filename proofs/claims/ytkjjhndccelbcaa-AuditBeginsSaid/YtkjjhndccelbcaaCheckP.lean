/- check's Program, by contract. -/
import Derived.Test.YtkjjhndccelbcaaKindC
namespace Go.Proofs.Ytkjjhndccelbcaa
open Go.RowKit Go.Maps Go.Troupe
def progB (ks : List Kf) : Bool := withinV (firstV [⟨decide ((ks.length : Int) < 1) || decide ((8 : Int) < (ks.length : Int)), 40⟩]) ks.length (kindB ks)
def Progged (b : Bool) (w : World) (e : Ending) (w' : World) : Prop := Below w.heap.size w w' ∧ ((b = false ∧ e = .returned .nilIface) ∨ (b = true ∧ ∃ g, e = .returned (.iface 72 (.pointer (some ⟨g, 0, none⟩)))))
theorem ent33 : ∀ (args : Array Value) (w' : World), (callFunc 33 args).run Try.prog w' = .ok (.enter 33 args) w' := fun args w' => by kernel_rfl
set_option maxRecDepth 100000 in
set_option maxHeartbeats 1000000 in
theorem close33_any (Ak : Option Addr) (ck : Nat) (ks : List Kf) (gp i : Nat) (w : World) (hp : Blk w gp 24 [.slice Ak ks.length ck])
    (hc : Cells w w.heap.size Ak (flatK ks)) (hkl : ks.length ≤ 140737488355328) (hk : KindsIn w w.heap.size ks) (hck : ks.length ≤ ck) (hcap : ∀ k ∈ ks, CapK k) (hi : i < ks.length) :
    Calls Try.prog 33 #[.int .i64 i, .pointer (some ⟨gp, 0, none⟩)] w (Badly (kindB ks i) 3 w) := by
  have CR := Troupe.hid (checkKind_any Ak ck ks i w hc hkl hk hck hcap hi)
  have e1 := hp.cell
  clear hp hc hkl hk hck hcap hi
  go_enter Try.func33, Try.ntmps33
  go_wp2_with fail
  refine CR.out.mono ?_
  rintro en w7 ⟨v, rfl, hbad, hb7⟩
  have HBD := Troupe.hid hbad
  have B7 := Troupe.hid hb7
  clear hbad hb7
  go_wp2_with fail
  go_ret
  exact ⟨_, rfl, HBD.out, B7.out⟩
set_option maxRecDepth 100000 in
set_option maxHeartbeats 4000000 in
theorem program_any (Ak : Option Addr) (ck : Nat) (ks : List Kf) (w : World) (hc : Cells w w.heap.size Ak (flatK ks)) (hkl : ks.length ≤ 140737488355328) (hk : KindsIn w w.heap.size ks) (hck : ks.length ≤ ck) (hcap : ∀ k ∈ ks, CapK k) :
    Calls Try.prog 15 #[.agg #[.slice Ak ks.length ck]] w (Progged (progB ks) w) := by
  have HP : Hid (Blk (w.alloc (.cells #[.slice Ak ks.length ck] 24)) w.heap.size 24 [.slice Ak ks.length ck]) := Blk.new w 24 [.slice Ak ks.length ck]
  have A0 : Hid (Below w.heap.size w (w.alloc (.cells #[.slice Ak ks.length ck] 24))) := (Below.refl _ _).alloc (Nat.le_refl _) _
  obtain ⟨n, hn⟩ : ∃ n, ks.length = n := ⟨_, rfl⟩
  have HN := Troupe.hid hn
  obtain ⟨x1, hx1⟩ : ∃ b, decide ((n : Int) < 1) = b := ⟨_, rfl⟩
  obtain ⟨x2, hx2⟩ : ∃ b, decide ((8 : Int) < (n : Int)) = b := ⟨_, rfl⟩
  have hx1' : decide (n = 0) = x1 := by
    rw [← hx1]
    by_cases h : n = 0
    · subst h; rfl
    · rw [decide_eq_false h, decide_eq_false (by omega)]
  have PB : Hid (progB ks = withinV (firstV [⟨x1 || x2, 40⟩]) n (kindB ks)) := by unfold Hid progB; rw [hn, hx1, hx2]
  have e0 : ∀ q : Nat, (w.alloc (.cells #[.slice Ak n ck] 24)).cell? ⟨w.heap.size, q, none⟩ = ([.slice Ak n ck] : List Value)[q]? := by rw [← hn]; exact HP.out.cell
  rw [hn] at HP A0
  have HC := Troupe.hid hc
  have HKL := Troupe.hid hkl
  have HK := Troupe.hid hk
  have HCK := Troupe.hid hck
  have HCAP := Troupe.hid hcap
  have hnb : n ≤ 140737488355328 := by omega
  rw [hn]
  clear hc hk hck hcap hn hkl
  obtain ⟨own, hown⟩ : ∃ o, firstV [⟨x1 || x2, 40⟩] = o := ⟨_, rfl⟩
  have HOWN := Troupe.hid hown
  have FIN : Hid (progB ks = withinV own n (kindB ks)) := by rw [PB.out, HOWN.out]; rfl
  clear hown PB
  go_enter Try.func15, Try.ntmps15
  go_upto_region 1 with (fail)
  generalize w.alloc (.cells #[.slice Ak n ck] 24) = wa at *
  cases x1 with
  | true =>
    have FB : Hid (Blk (wa.alloc (.cells #[.bool true, .int .i64 40] 71)) wa.heap.size 71 [.bool true, .int .i64 40]) := Blk.new _ _ _
    have FX : Below wa.heap.size wa (wa.alloc (.cells #[.bool true, .int .i64 40] 71)) := (Below.refl _ _).alloc (Nat.le_refl _) _
    have BX := Troupe.hid (A0.out.trans (FX.mono A0.out.size))
    have HPX := Troupe.hid (HP.out.below FX HP.out.lt)
    have FR := Troupe.hid (first_any (some ⟨wa.heap.size, 0, none⟩) 1 1 (wa.alloc (.cells #[.bool true, .int .i64 40] 71)).heap.size [⟨true, 40⟩] _ rfl (by unfold maxLen; omega) (FB.out.blk_cells.mono FB.out.lt) (Nat.le_refl _))
    clear FX
    go_wp2_with fail
    generalize wa.alloc (.cells #[.bool true, .int .i64 40] 71) = wb at *
    refine FR.out.mono ?_
    rintro en w1 ⟨rfl, hu1⟩
    have hown : firstV [⟨true, 40⟩] = own := HOWN.out
    rw [hown]
    clear hown
    have B1 := Troupe.hid (BX.out.trans (hu1.mono BX.out.size))
    have HP1 := Troupe.hid (HPX.out.below hu1 HPX.out.lt)
    have WI : Hid (Calls Try.prog 32 #[.int .i64 own, .int .i64 n, .func (.func 33) #[] #[.pointer (some ⟨w.heap.size, 0, none⟩)]] w1 (Badly (progB ks) 4 w1)) := by
      rw [FIN.out]
      exact within_gen 33 [.pointer (some ⟨w.heap.size, 0, none⟩)] (kindB ks) own n 3 w1 (by omega) (by omega) ent33 (fun j hj w' hb => by
        have hb' : Below w.heap.size w w' := B1.out.trans (hb.mono B1.out.size)
        have hp' := HP1.out.below hb HP1.out.lt
        rw [← HN.out] at hp'
        exact close33_any Ak ck ks w.heap.size j w' hp' ((HC.out.below hb').mono hb'.size) HKL.out ((HK.out.below hb').mono hb'.size) HCK.out HCAP.out (by have := HN.out; omega))
    have e1 := HP1.out.cell
    clear hu1 e0 hx1 hx2 hx1'
    go_wp2_with fail
    refine WI.out.mono ?_
    rintro en w7 ⟨v, rfl, hbad, hb7⟩
    have B7 := Troupe.hid (B1.out.trans (hb7.mono B1.out.size))
    obtain ⟨pb, hpb⟩ : ∃ b, progB ks = b := ⟨_, rfl⟩
    rw [hpb] at hbad
    have HPB := Troupe.hid hpb
    clear hb7 hpb
    rcases hbad with ⟨rfl, rfl⟩ | ⟨rfl, g, c, A, m, cap, xs, rfl, -⟩
    · go_wp2_with fail
      go_ret
      exact ⟨B7.out, .inl ⟨HPB.out, rfl⟩⟩
    · go_wp2_with fail
      go_ret
      exact ⟨B7.out, .inr ⟨HPB.out, g, rfl⟩⟩
  | false =>
    cases x2 with
    | true =>
      have FB : Hid (Blk (wa.alloc (.cells #[.bool true, .int .i64 40] 71)) wa.heap.size 71 [.bool true, .int .i64 40]) := Blk.new _ _ _
      have FX : Below wa.heap.size wa (wa.alloc (.cells #[.bool true, .int .i64 40] 71)) := (Below.refl _ _).alloc (Nat.le_refl _) _
      have BX := Troupe.hid (A0.out.trans (FX.mono A0.out.size))
      have HPX := Troupe.hid (HP.out.below FX HP.out.lt)
      have FR := Troupe.hid (first_any (some ⟨wa.heap.size, 0, none⟩) 1 1 (wa.alloc (.cells #[.bool true, .int .i64 40] 71)).heap.size [⟨true, 40⟩] _ rfl (by unfold maxLen; omega) (FB.out.blk_cells.mono FB.out.lt) (Nat.le_refl _))
      clear FX
      go_wp2_with fail
      generalize wa.alloc (.cells #[.bool true, .int .i64 40] 71) = wb at *
      refine FR.out.mono ?_
      rintro en w1 ⟨rfl, hu1⟩
      have hown : firstV [⟨true, 40⟩] = own := HOWN.out
      rw [hown]
      clear hown
      have B1 := Troupe.hid (BX.out.trans (hu1.mono BX.out.size))
      have HP1 := Troupe.hid (HPX.out.below hu1 HPX.out.lt)
      have WI : Hid (Calls Try.prog 32 #[.int .i64 own, .int .i64 n, .func (.func 33) #[] #[.pointer (some ⟨w.heap.size, 0, none⟩)]] w1 (Badly (progB ks) 4 w1)) := by
        rw [FIN.out]
        exact within_gen 33 [.pointer (some ⟨w.heap.size, 0, none⟩)] (kindB ks) own n 3 w1 (by omega) (by omega) ent33 (fun j hj w' hb => by
          have hb' : Below w.heap.size w w' := B1.out.trans (hb.mono B1.out.size)
          have hp' := HP1.out.below hb HP1.out.lt
          rw [← HN.out] at hp'
          exact close33_any Ak ck ks w.heap.size j w' hp' ((HC.out.below hb').mono hb'.size) HKL.out ((HK.out.below hb').mono hb'.size) HCK.out HCAP.out (by have := HN.out; omega))
      have e1 := HP1.out.cell
      clear hu1 e0 hx1 hx2 hx1'
      go_wp2_with fail
      refine WI.out.mono ?_
      rintro en w7 ⟨v, rfl, hbad, hb7⟩
      have B7 := Troupe.hid (B1.out.trans (hb7.mono B1.out.size))
      obtain ⟨pb, hpb⟩ : ∃ b, progB ks = b := ⟨_, rfl⟩
      rw [hpb] at hbad
      have HPB := Troupe.hid hpb
      clear hb7 hpb
      rcases hbad with ⟨rfl, rfl⟩ | ⟨rfl, g, c, A, m, cap, xs, rfl, -⟩
      · go_wp2_with fail
        go_ret
        exact ⟨B7.out, .inl ⟨HPB.out, rfl⟩⟩
      · go_wp2_with fail
        go_ret
        exact ⟨B7.out, .inr ⟨HPB.out, g, rfl⟩⟩
    | false =>
      have FB : Hid (Blk (wa.alloc (.cells #[.bool false, .int .i64 40] 71)) wa.heap.size 71 [.bool false, .int .i64 40]) := Blk.new _ _ _
      have FX : Below wa.heap.size wa (wa.alloc (.cells #[.bool false, .int .i64 40] 71)) := (Below.refl _ _).alloc (Nat.le_refl _) _
      have BX := Troupe.hid (A0.out.trans (FX.mono A0.out.size))
      have HPX := Troupe.hid (HP.out.below FX HP.out.lt)
      have FR := Troupe.hid (first_any (some ⟨wa.heap.size, 0, none⟩) 1 1 (wa.alloc (.cells #[.bool false, .int .i64 40] 71)).heap.size [⟨false, 40⟩] _ rfl (by unfold maxLen; omega) (FB.out.blk_cells.mono FB.out.lt) (Nat.le_refl _))
      clear FX
      go_wp2_with fail
      generalize wa.alloc (.cells #[.bool false, .int .i64 40] 71) = wb at *
      refine FR.out.mono ?_
      rintro en w1 ⟨rfl, hu1⟩
      have hown : firstV [⟨false, 40⟩] = own := HOWN.out
      rw [hown]
      clear hown
      have B1 := Troupe.hid (BX.out.trans (hu1.mono BX.out.size))
      have HP1 := Troupe.hid (HPX.out.below hu1 HPX.out.lt)
      have WI : Hid (Calls Try.prog 32 #[.int .i64 own, .int .i64 n, .func (.func 33) #[] #[.pointer (some ⟨w.heap.size, 0, none⟩)]] w1 (Badly (progB ks) 4 w1)) := by
        rw [FIN.out]
        exact within_gen 33 [.pointer (some ⟨w.heap.size, 0, none⟩)] (kindB ks) own n 3 w1 (by omega) (by omega) ent33 (fun j hj w' hb => by
          have hb' : Below w.heap.size w w' := B1.out.trans (hb.mono B1.out.size)
          have hp' := HP1.out.below hb HP1.out.lt
          rw [← HN.out] at hp'
          exact close33_any Ak ck ks w.heap.size j w' hp' ((HC.out.below hb').mono hb'.size) HKL.out ((HK.out.below hb').mono hb'.size) HCK.out HCAP.out (by have := HN.out; omega))
      have e1 := HP1.out.cell
      clear hu1 e0 hx1 hx2 hx1'
      go_wp2_with fail
      refine WI.out.mono ?_
      rintro en w7 ⟨v, rfl, hbad, hb7⟩
      have B7 := Troupe.hid (B1.out.trans (hb7.mono B1.out.size))
      obtain ⟨pb, hpb⟩ : ∃ b, progB ks = b := ⟨_, rfl⟩
      rw [hpb] at hbad
      have HPB := Troupe.hid hpb
      clear hb7 hpb
      rcases hbad with ⟨rfl, rfl⟩ | ⟨rfl, g, c, A, m, cap, xs, rfl, -⟩
      · go_wp2_with fail
        go_ret
        exact ⟨B7.out, .inl ⟨HPB.out, rfl⟩⟩
      · go_wp2_with fail
        go_ret
        exact ⟨B7.out, .inr ⟨HPB.out, g, rfl⟩⟩
end Go.Proofs.Ytkjjhndccelbcaa
