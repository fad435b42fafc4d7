/- The reference's All by contract. -/
import Derived.Test.YtmbpilhngniigaaJoin
import Derived.Lib.SmallJoins
namespace Go.Proofs.Ytmbpilhngniigaa
open Go.RowKit Go.Maps Go.Troupe

set_option maxRecDepth 100000 in
set_option maxHeartbeats 400000 in
theorem refAll_any (R : Int) (A1 : Option Addr) (c1 : Nat) (A2 : Option Addr) (c2 : Nat) (As Fr : List Int) (w : World) (hn1 : As.length ≤ 1000000) (hn2 : Fr.length ≤ 1000000) (h1 : Cells w w.heap.size A1 (words As)) (h2 : Cells w w.heap.size A2 (words Fr))
    (e1 : A1 = none → c1 = 0) (e2 : A2 = none → c2 = 0) :
    Calls Try.prog 20 #[.agg #[.int .i64 R, .slice A1 As.length c1, .slice A2 Fr.length c2]] w (Joined w Fr As) := by
  have B1 : Below w.heap.size w (w.alloc (.cells #[.int .i64 R, .slice A1 As.length c1, .slice A2 Fr.length c2] 37)) := (Below.refl _ _).alloc (Nat.le_refl _) _
  have K : Blk (w.alloc (.cells #[.int .i64 R, .slice A1 As.length c1, .slice A2 Fr.length c2] 37)) w.heap.size 37 [.int .i64 R, .slice A1 As.length c1, .slice A2 Fr.length c2] := Blk.new _ _ _
  have J := Troupe.hid (join_any A2 c2 A1 c1 Fr As (w.alloc (.cells #[.int .i64 R, .slice A1 As.length c1, .slice A2 Fr.length c2] 37)) hn2 hn1 ((h2.below B1).mono (by simp)) ((h1.below B1).mono (by simp)) e2 e1)
  have HB := Troupe.hid B1
  have k1 := K.cell
  clear h1 h2 e1 e2 B1 K
  go_enter Try.func20, Try.ntmps20
  go_wp2_with fail
  refine J.out.mono ?_
  rintro e w2 ⟨v, rfl, ho, hb⟩
  have HO := Troupe.hid ho
  have HB2 := Troupe.hid (HB.out.trans (hb.mono HB.out.size))
  clear ho hb k1
  go_wp2_with fail
  go_ret
  exact ⟨v, rfl, Go.Joins.ownsRow_le HO.out HB.out.size, HB2.out⟩
end Go.Proofs.Ytmbpilhngniigaa
