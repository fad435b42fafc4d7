/- slices.Backward: the iterator that it makes. -/
import Derived.Test.YtmbpilhngniigaaMem
import Derived.Test.YtmbpilhngniigaaChecked
namespace Go.Proofs.Ytmbpilhngniigaa
open Go.RowKit Go.Maps Go.Troupe

def Made (A : Option Addr) (n c : Nat) (w : World) (e : Ending) (w' : World) : Prop :=
  e = .returned (.func (.func 26) #[] #[.pointer (some ⟨w.heap.size, 0, none⟩)]) ∧ Blk w' w.heap.size 22 [.slice A n c] ∧ Below w.heap.size w w'
theorem backward_any (A : Option Addr) (n c : Nat) (w : World) : Calls Try.prog 22 #[.slice A n c] w (Made A n c w) := by
  go_enter Try.func22, Try.ntmps22
  go_wp2
  go_ret
  exact ⟨rfl, Blk.new w 22 [.slice A n c], (Below.refl _ _).alloc (Nat.le_refl _) _⟩
end Go.Proofs.Ytmbpilhngniigaa
