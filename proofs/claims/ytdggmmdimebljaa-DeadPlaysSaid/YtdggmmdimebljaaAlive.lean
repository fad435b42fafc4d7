/- The document's examples hold. -/
import Derived.Test.YtdggmmdimebljaaRecent
namespace Go.Proofs.Ytdggmmdimebljaa
open Go.RowKit Go.Maps Go.Troupe

set_option maxRecDepth 100000 in
set_option maxHeartbeats 800000 in
theorem alive_any (w : World) : Calls Try.prog 7 #[] w fun e w' => e = .returned (.bool true) ∧ Below w.heap.size w w' := by
  go_enter Try.func7, Try.ntmps7
  go_wp2_with fail
  refine (new_any 2 w).mono ?_
  rintro e w1 ⟨p, m, r, rfl, hp, hm, hr, hs1, hb1⟩
  change Sink w1 p m r 2 _ _ 0 0 at hs1
  have HS1 := Troupe.hid hs1
  have HB1 := Troupe.hid hb1
  clear hs1 hb1
  go_wp2_with fail
  refine (put_ok 7 1 1 w1 HS1.out (by decide) (by decide) (by decide) (by decide)).mono ?_
  rintro e w2 ⟨rfl, hs2, hf2⟩
  have HS2 := Troupe.hid hs2
  have HF2 := Troupe.hid hf2
  clear hs2 hf2
  go_wp2_with fail
  refine (put_ok 8 1 2 w2 HS2.out (by decide) (by decide) (by decide) (by decide)).mono ?_
  rintro e w3 ⟨rfl, hs3, hf3⟩
  have HS3 := Troupe.hid hs3
  have HF3 := Troupe.hid (HF2.out.and_then hf3)
  clear hs3 hf3
  go_wp2_with fail
  refine (put_ok 9 0 1 w3 HS3.out (by decide) (by decide) (by decide) (by decide)).mono ?_
  rintro e w4 ⟨rfl, hs4, hf4⟩
  have HS4 := Troupe.hid hs4
  have HF4 := Troupe.hid (HF3.out.and_then hf4)
  clear hs4 hf4
  go_wp2_with fail
  refine (put_bad 5 1 6 w4 (by decide)).mono ?_
  rintro e w5 ⟨rfl, rfl⟩
  go_wp2_with fail
  refine (recent_any w4 HS4.out).mono ?_
  rintro e w6 ⟨v, rfl, hown, hb6⟩
  change w6.ownsRow _ 29 3 v 2 (flat [⟨8, 1, 2⟩, ⟨9, 0, 1⟩]) at hown
  obtain ⟨A, cap, rfl, _, _, hc, _, _⟩ := own_form hown
  obtain ⟨b, off, rfl, _, hcell⟩ := hc.at_ (by simp [flat, lv])
  have c0 : w6.cell? ⟨b, off, none⟩ = some (.int .u64 8) := hcell 0 _ rfl
  have c3 : w6.cell? ⟨b, off + 3, none⟩ = some (.int .u64 9) := hcell 3 _ rfl
  have c4 : w6.cell? ⟨b, off + 3 + 1, none⟩ = some (.int .i64 0) := hcell 4 _ rfl
  have hw4 := (HB1.out.trans (HF4.out.below HB1.out.size (by intro k hk; omega))).trans (hb6.mono (by have := HF4.out.size; have := HB1.out.size; omega))
  have hs6 : Sink w6 p m r 2 _ _ _ _ := HS4.out.frm (Frm.of_below hb6) (by have := HS4.out.lt; omega) (by have := HS4.out.lt; omega) (by have := HS4.out.lt; omega)
  have HS6 := Troupe.hid hs6
  have HB6 := Troupe.hid hw4
  clear hs6 hw4 hb6 hown hc hcell
  go_wp2_with fail
  have k1 : Calls Try.prog 11 #[.pointer (some ⟨p, 0, none⟩), .int .i64 1] w6 fun e w' => e = .returned (.int .i64 2) ∧ w6 = w' := count_any 1 w6 HS6.out
  refine k1.mono ?_
  clear k1
  rintro e w7 ⟨rfl, rfl⟩
  go_wp2_with fail
  have k1 : Calls Try.prog 11 #[.pointer (some ⟨p, 0, none⟩), .int .i64 2] w6 fun e w' => e = .returned (.int .i64 1) ∧ w6 = w' := count_any 2 w6 HS6.out
  refine k1.mono ?_
  clear k1
  rintro e w7 ⟨rfl, rfl⟩
  go_wp2_with fail
  have k1 : Calls Try.prog 16 #[.pointer (some ⟨p, 0, none⟩)] w6 fun e w' => e = .returned (.int .i64 3) ∧ w6 = w' := total_any w6 HS6.out
  refine k1.mono ?_
  clear k1
  rintro e w7 ⟨rfl, rfl⟩
  go_wp2
  go_ret
  exact ⟨rfl, HB6.out⟩
end Go.Proofs.Ytdggmmdimebljaa
