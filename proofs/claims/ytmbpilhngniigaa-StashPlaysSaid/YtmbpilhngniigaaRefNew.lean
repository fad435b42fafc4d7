/- The reference's New by contract; a struct's result that lies in a cell. -/
import Derived.Test.YtmbpilhngniigaaLine
import Derived.Laws.Rows
namespace Go.Proofs.Ytmbpilhngniigaa
open Go.RowKit Go.Maps Go.Troupe

theorem size37 : (Try.prog.info? 37).map (·.size) = some 3 := by kernel_rfl
/-- The reference's line as a value. -/
def lineV (R : Int) (va vf : Value) : Value := .agg #[.int .i64 R, va, vf]
theorem ret_of {x R : Int} (h : x = R) : Ending.returned (.agg #[.int .i64 x, .slice none 0 0, .slice none 0 0]) = Ending.returned (.agg #[.int .i64 R, .slice none 0 0, .slice none 0 0]) := by rw [h]
set_option maxRecDepth 100000 in
theorem refNew_any (n : Int) (w : World) : Calls Try.prog 15 #[.int .i64 n] w fun e w' => e = .returned (.agg #[.int .i64 (roomN n), .slice none 0 0, .slice none 0 0]) ∧ Below w.heap.size w w' := by
  go_enter Try.func15, Try.ntmps15
  go_wp2
  all_goals (try simp only [Exit.inBlock, Exit.then])
  all_goals refine bodyPost_ret (results_cell_row rfl _ _ w.heap.size 37 _ (0, 0) _ rfl (MapKept.heap_alloc w _).1 Try.underlying37 rfl size37) rfl ⟨ret_of ?_, (Below.refl _ _).alloc (Nat.le_refl _) _⟩
  all_goals unfold roomN
  all_goals split <;> (try split) <;> omega
end Go.Proofs.Ytmbpilhngniigaa
