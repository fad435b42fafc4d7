/- ActFalls: the walk. -/
import Derived.Test.YtfeeajodgcdflaaAlive
namespace Go.Proofs.Ytfeeajodgcdflaa
open Go.RowKit Go.Maps Go.Troupe

def lessE : Eff := ⟨1, ⟨#[]⟩, ⟨#[]⟩, ⟨#[]⟩, 1, 0, 0⟩
theorem less_pos {x : Int} (h : 0 < x) : numV lessE x = x - 1 := by
  unfold numV lessE
  rw [if_neg (by simp), if_pos rfl, if_neg (by omega)]
theorem less_zero {x : Int} (h : x ≤ 0) : numV lessE x = 0 := by
  unfold numV lessE
  rw [if_neg (by simp), if_pos rfl, if_pos (by omega)]
set_option maxRecDepth 100000 in
set_option maxHeartbeats 1000000 in
theorem falls_walk (n : Int) (hn : -9223372036854775808 ≤ n ∧ n ≤ 9223372036854775807) (w : World) :
    Calls Try.prog 8 #[.int .i64 n] w fun e w' => e = .returned (.bool true) ∧ Below w.heap.size w w' := by
  go_enter Try.func8, Try.ntmps8
  go_wp2_with fail
  refine (alive_any w).mono ?_
  rintro e w1 ⟨rfl, hb⟩
  have B1 := Troupe.hid hb
  clear hb
  by_cases hbig : 100000 < n
  · go_wp2_with fail
    go_ret
    exact ⟨rfl, B1.out⟩
  · have b2 : Below w1.heap.size w1 (w1.alloc (.cells #[.int .i64 1, .string ⟨#[]⟩, .string ⟨#[]⟩, .string ⟨#[]⟩, .int .i64 1, .int .i64 0, .int .i64 0] 36)) := (Below.refl _ _).alloc (Nat.le_refl _) _
    have k2 : Blk (w1.alloc (.cells #[.int .i64 1, .string ⟨#[]⟩, .string ⟨#[]⟩, .string ⟨#[]⟩, .int .i64 1, .int .i64 0, .int .i64 0] 36)) w1.heap.size 36 lessE.cells := Blk.new _ _ _
    have B2 := Troupe.hid (B1.out.trans (b2.mono B1.out.size))
    have K2 := Troupe.hid k2
    clear b2 k2
    go_wp2_with fail
    generalize w1.alloc (.cells #[.int .i64 1, .string ⟨#[]⟩, .string ⟨#[]⟩, .string ⟨#[]⟩, .int .i64 1, .int .i64 0, .int .i64 0] 36) = w2 at *
    generalize w1.heap.size = g at *
    go_loopw [0, 4] (fun v0 v4 wr => ∃ x : Int, v0 = .int .i64 x ∧ v4 = .int .i64 x ∧ x ≤ 100000 ∧ -9223372036854775808 ≤ x ∧ Below w2.heap.size w2 wr) (fun v0 _ _ => (intOf v0).toNat)
    case atStart => exact ⟨n, rfl, rfl, by omega, hn.1, Below.refl _ _⟩
    case round =>
      obtain ⟨x, rfl, rfl, hx, hx2, hb⟩ := hrel
      have HB := Troupe.hid hb
      have e3 := (K2.out.below hb K2.out.lt).cell
      unfold lessE Eff.cells at e3
      clear hb
      by_cases hpos : 0 < x
      · have NM := Troupe.hid (number_any lessE x (by omega) wr)
        rw [less_pos hpos] at NM
        have hw : IntKind.i64.wrap (x - 1) = x - 1 := IntWalk.i64_in _ (by omega)
        go_wp2_with fail
        refine NM.out.mono ?_
        rintro e w3 ⟨rfl, hb3⟩
        have HB3 := Troupe.hid (HB.out.trans (hb3.mono HB.out.size))
        clear hb3 e3
        go_wp2_with fail
        go_roundw
        case rel => exact ⟨x - 1, rfl, rfl, by omega, by omega, HB3.out⟩
        case measure => simp [intOf]; omega
      · have hle : x ≤ 0 := by omega
        have N0 := Troupe.hid (number_any lessE 0 (by omega) wr)
        rw [less_zero (Int.le_refl 0)] at N0
        have hmin : min x 0 = x := by omega
        go_wp2_with fail
        refine N0.out.mono ?_
        rintro e w3 ⟨rfl, hb3⟩
        have HB3 := Troupe.hid (HB.out.trans (hb3.mono HB.out.size))
        have e4 := (K2.out.below HB3.out K2.out.lt).cell
        unfold lessE Eff.cells at e4
        have NX := Troupe.hid (number_any lessE x (by omega) w3)
        rw [less_zero hle] at NX
        clear hb3 e3
        go_wp2_with fail
        refine NX.out.mono ?_
        rintro e w4 ⟨rfl, hb4⟩
        have HB4 := Troupe.hid (B2.out.trans ((HB3.out.trans (hb4.mono HB3.out.size)).mono B2.out.size))
        clear hb4 e4
        go_wp2_with fail
        go_ret
        exact ⟨rfl, HB4.out⟩
end Go.Proofs.Ytfeeajodgcdflaa
