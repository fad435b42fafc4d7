/- AuditTells: its walk. -/
import Derived.Test.YtkjjhndccelbcaaAlive
import Derived.Test.YtkjjhndccelbcaaTellsC
namespace Go.Proofs.Ytkjjhndccelbcaa
open Go.RowKit Go.Maps Go.Troupe

set_option maxRecDepth 100000 in
set_option maxHeartbeats 4000000 in
theorem tells_any (w : World) {Al : Option Addr} {cl n : Nat} {evs : List Ev} (src dst : Int) (hn : evs.length = n) (hl : Cells w w.heap.size Al (flatV evs)) (hll : n < 281474976710656) :
    Calls Try.prog 6 #[.slice Al n cl, .int .i64 src, .int .i64 dst] w fun e w' => e = .returned (.bool true) ∧ Below w.heap.size w w' := by
  have AL := Troupe.hid (alive_any w)
  have L0 := Troupe.hid hl
  have HN := Troupe.hid hn
  clear hl hn
  go_enter Try.func6, Try.ntmps6
  go_wp2_with fail
  refine AL.out.mono ?_
  rintro e w1 ⟨rfl, hb⟩
  have B1 := Troupe.hid hb
  have L1 := Troupe.hid ((L0.out.below hb).mono hb.size)
  clear hb AL L0
  by_cases h3 : 300 < n
  · go_wp2_with fail
    go_ret
    exact ⟨rfl, B1.out⟩
  have h3' : n ≤ 300 := by omega
  clear h3
  go_wp2_with fail
  refine (arrived_any (cl := cl) src dst w1 HN.out L1.out h3').mono ?_
  rintro e w2 ⟨v, rfl, ho, hb⟩
  obtain ⟨A2, c2, rfl, -⟩ := own_form ho
  have hle := arrived_le evs evs src dst
  rw [HN.out] at hle
  obtain ⟨out, hout⟩ : ∃ out, arrivedV evs evs src dst = out := ⟨_, rfl⟩
  rw [hout] at ho hle
  rw [hout]
  have C2 := Troupe.hid (own_cells ho)
  have B2 := Troupe.hid (B1.out.trans (hb.mono B1.out.size))
  have L2 := Troupe.hid ((L1.out.below hb).mono hb.size)
  have RA := Troupe.hid (rarrived_any (cl := cl) src dst w2 HN.out L2.out h3')
  rw [hout] at RA
  clear ho hb L1 B1 hout
  go_wp2_with fail
  refine RA.out.mono ?_
  rintro e w3 ⟨v, rfl, ho, hb⟩
  obtain ⟨A3, c3, rfl, -⟩ := own_form ho
  have C3 := Troupe.hid (own_cells ho)
  have D3 := Troupe.hid ((C2.out.below hb).mono hb.size)
  have B3 := Troupe.hid (B2.out.trans (hb.mono B2.out.size))
  have L3 := Troupe.hid ((L2.out.below hb).mono hb.size)
  clear ho hb L2 B2 C2 RA
  go_wp2_with fail
  refine (sameU_any (ca := c2) (cb := c3) out w3 D3.out C3.out (by omega)).mono ?_
  rintro e w4 ⟨rfl, hb⟩
  have B4 := Troupe.hid (B3.out.trans (hb.mono B3.out.size))
  have L4 := Troupe.hid ((L3.out.below hb).mono hb.size)
  clear hb L3 B3 C3 D3
  go_wp2_with fail
  refine (worked_any (cl := cl) dst w4 HN.out L4.out h3').mono ?_
  rintro e w5 ⟨v, rfl, ho, hb⟩
  obtain ⟨A5, c5, rfl, -⟩ := own_form ho
  have hle2 := worked_le evs dst
  rw [HN.out] at hle2
  obtain ⟨wk, hwk⟩ : ∃ wk, workedV evs dst = wk := ⟨_, rfl⟩
  rw [hwk] at ho hle2
  rw [hwk]
  have C5 := Troupe.hid (own_cells ho)
  have B5 := Troupe.hid (B4.out.trans (hb.mono B4.out.size))
  have L5 := Troupe.hid ((L4.out.below hb).mono hb.size)
  have RW := Troupe.hid (rworked_any (cl := cl) dst w5 HN.out L5.out h3')
  rw [hwk] at RW
  clear ho hb L4 B4 hwk
  go_wp2_with fail
  refine RW.out.mono ?_
  rintro e w6 ⟨v, rfl, ho, hb⟩
  obtain ⟨A6, c6, rfl, -⟩ := own_form ho
  have C6 := Troupe.hid (own_cells ho)
  have D6 := Troupe.hid ((C5.out.below hb).mono hb.size)
  have B6 := Troupe.hid (B5.out.trans (hb.mono B5.out.size))
  clear ho hb L5 B5 C5 RW
  go_wp2_with fail
  refine (sameU_any (ca := c5) (cb := c6) wk w6 D6.out C6.out (by omega)).mono ?_
  rintro e w7 ⟨rfl, hb⟩
  have B7 := Troupe.hid (B6.out.trans (hb.mono B6.out.size))
  clear hb
  go_wp2_with fail
  go_ret
  exact ⟨rfl, B7.out⟩
end Go.Proofs.Ytkjjhndccelbcaa
