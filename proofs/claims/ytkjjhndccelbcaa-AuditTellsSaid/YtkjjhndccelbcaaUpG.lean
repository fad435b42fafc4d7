/- A region by region_up: an operation whose guard is left open, its value found by the walk. My own, over any program. -/
import Derived.Test.YtkjjhndccelbcaaUp
namespace Go.Troupe
open Go Go.RowKit

section
variable {P : Program} {Q : Exit → Act → World → Prop}
theorem wpUP_g2 {l : List Oper} {k : Nat} {p : UPlan} {o : Oper} {a : Act} {w : World} {b : Bool} {v : Value} (h0 : l[k]? = some o) (hb : ∀ F : Bool → Prop, F b → F (Region.wanted o (yielded l.toArray a.tmps)))
    (h1 : b = true → ∀ F : Value → Prop, F v → ∃ u, quietU P o a w u ∧ F u) (h2 : wpUP P l Q p (a.put o.dst (bif b then v else undef)) w) : wpUP P l Q (.q k p) a w := by
  refine wpUP_g h0 b (hb (fun x => x = b) rfl) v (fun h => ?_) h2
  obtain ⟨u, h3, h4⟩ := h1 h (fun u => u = v) rfl
  exact h4 ▸ h3
/-- A pick between two bools, the first read under its guard. -/
theorem pick_and' (b x : Bool) : (if b = true then (bif b then Value.bool x else undef) else Value.bool false) = .bool (b && x) := by cases b <;> rfl
theorem pick_or' (b x : Bool) : (if b = true then Value.bool true else (bif !b then Value.bool x else undef)) = .bool (b || x) := by cases b <;> rfl
theorem pick_or'' (b x : Bool) : (if b = true then Value.bool true else (bif b then undef else Value.bool x)) = .bool (b || x) := by cases b <;> rfl
theorem pick_and2 (x y z : Bool) : (if x = true ∧ y = true then (bif x && y then Value.bool z else undef) else Value.bool false) = .bool (x && y && z) := by cases x <;> cases y <;> rfl
theorem pick_and3 (x y z u : Bool) : (if (x = true ∧ y = true) ∧ z = true then (bif x && y && z then Value.bool u else undef) else Value.bool false) = .bool (x && y && z && u) := by cases x <;> cases y <;> cases z <;> rfl
theorem pick_or2 (x y z : Bool) : (if x = true ∨ y = true then Value.bool true else (bif !(x || y) then Value.bool z else undef)) = .bool (x || y || z) := by cases x <;> cases y <;> rfl
theorem pick_and4 (x y z u v : Bool) : (if ((x = true ∧ y = true) ∧ z = true) ∧ u = true then (bif x && y && z && u then Value.bool v else undef) else Value.bool false) = .bool (x && y && z && u && v) := by cases x <;> cases y <;> cases z <;> cases u <;> rfl
theorem pick_and4' (x y z u v : Bool) : (if ((x = true ∧ y = true) ∧ z = true) ∧ u = false then (bif x && y && z && !u then Value.bool v else undef) else Value.bool false) = .bool (x && y && z && !u && v) := by cases x <;> cases y <;> cases z <;> cases u <;> rfl
end
end Go.Troupe
