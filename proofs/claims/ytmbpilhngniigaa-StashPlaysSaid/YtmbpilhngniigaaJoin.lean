/- The reference's join by contract. -/
import Derived.Test.YtmbpilhngniigaaSame
namespace Go.Proofs.Ytmbpilhngniigaa
open Go.RowKit Go.Maps Go.Troupe

def Joined (w : World) (l1 l2 : List Int) (e : Ending) (w' : World) : Prop :=
  ∃ v, e = .returned v ∧ w'.ownsRow w.heap.size 28 1 v (l1.length + l2.length) (words (l1 ++ l2)) ∧ Below w.heap.size w w'
set_option maxRecDepth 100000 in
set_option maxHeartbeats 400000 in
theorem join_any (A1 : Option Addr) (c1 : Nat) (A2 : Option Addr) (c2 : Nat) (l1 l2 : List Int) (w : World) (hn1 : l1.length ≤ 1000000) (hn2 : l2.length ≤ 1000000) (h1 : Cells w w.heap.size A1 (words l1)) (h2 : Cells w w.heap.size A2 (words l2))
    (e1 : A1 = none → c1 = 0) (e2 : A2 = none → c2 = 0) :
    Calls Try.prog 25 #[.slice A1 l1.length c1, .slice A2 l2.length c2] w (Joined w l1 l2) := by
  have C1 := Troupe.hid h1
  have C2 := Troupe.hid h2
  have E1 := Troupe.hid e1
  have E2 := Troupe.hid e2
  clear h1 h2 e1 e2
  go_enter Try.func25, Try.ntmps25
  go_wp2_with (first
    | (at_builtin; have _t := E1; refine wpList_app rfl (.tmp 6) (.tmp 7) 22 rfl w.heap.size 28 info28 Try.underlying22 rfl (by decide) (.slice none 0 0) 0 [] rfl (World.ownsRow_nil _ _ _ _) w.heap.size A1 l1.length c1 (words l1) rfl (by simp [words]) C1.out E1.out (one_ints _ _) (by omega) (by unfold maxLen; omega) (Nat.le_refl _) ?_; intro v' w2 h'; have A2' := Troupe.hid h'; clear h' E1; obtain ⟨A', c', rfl, -⟩ := own_form A2'.out.own; have O2 : Hid (w2.ownsRow w.heap.size 28 1 (.slice A' l1.length c') l1.length (words l1)) := (by have h := A2'.out.own; rw [Nat.zero_add] at h; exact h))
    | (at_builtin; refine wpList_app rfl (.tmp 9) (.tmp 10) 22 rfl w.heap.size 28 info28 Try.underlying22 rfl (by decide) (.slice A' l1.length c') l1.length (words l1) rfl O2.out w.heap.size A2 l2.length c2 (words l2) rfl (by simp [words]) (C2.out.below (A2'.out.frm.below (Nat.le_refl _) (fun k hk => by simp [Value.ownBlock] at hk))) E2.out (one_ints _ _) (by omega) (by unfold maxLen; omega) A2'.out.frm.size ?_; intro v3 w3 h'; have A3 := Troupe.hid h'; clear h'))
  go_ret
  refine ⟨v3, rfl, ?_, (A2'.out.frm.below (Nat.le_refl _) (fun k hk => by simp [Value.ownBlock] at hk)).trans (A3.out.frm.below A2'.out.frm.size (fun k hk => (O2.out.lt k hk).1))⟩
  have := A3.out.own
  have e : words (l1 ++ l2) = words l1 ++ words l2 := by simp [words]
  rw [e]; exact this
end Go.Proofs.Ytmbpilhngniigaa
