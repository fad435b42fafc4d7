/- The reference's Same at rows that are the same, by contract. -/
import Derived.Test.YtmbpilhngniigaaReverse
import Derived.Deep.QuietTactic
namespace Go.Proofs.Ytmbpilhngniigaa
open Go.RowKit Go.Maps Go.Troupe

set_option maxRecDepth 100000 in
set_option maxHeartbeats 400000 in
theorem same_eq (A1 : Option Addr) (n c1 : Nat) (A2 : Option Addr) (c2 : Nat) (l : List Int) (w : World) (hl : l.length = n) (hn : n ≤ 1000000000) (h1 : Cells w w.heap.size A1 (words l)) (h2 : Cells w w.heap.size A2 (words l)) :
    Calls Try.prog 19 #[.slice A1 n c1, .slice A2 n c2] w fun e w' => e = .returned (.bool true) ∧ Below w.heap.size w w' := by
  have C1 := Troupe.hid h1
  have C2 := Troupe.hid h2
  clear h1 h2
  go_enter Try.func19, Try.ntmps19
  go_wp2_with fail
  go_loopw [5] (fun v5 wr => ∃ i : Nat, i ≤ n ∧ v5 = .int .i64 i ∧ Below w.heap.size w wr) (fun v5 _ => n - (intOf v5).toNat)
  case atStart => exact ⟨0, by omega, rfl, Below.refl _ _⟩
  case round =>
    obtain ⟨i, hi, rfl, hb⟩ := hrel
    have HB := Troupe.hid hb
    by_cases hlt : i < n
    · obtain ⟨x, hx⟩ : ∃ x, l[i]? = some x := ⟨_, List.getElem?_eq_getElem (by omega)⟩
      have hne : words l ≠ [] := by intro e; have := congrArg List.length e; simp [words] at this; subst this; simp at hx
      obtain ⟨b1, o1, hA1, _, g1⟩ := (C1.out.below hb).at_ hne
      obtain ⟨b2, o2, hA2, _, g2⟩ := (C2.out.below hb).at_ hne
      subst hA1 hA2
      have d1 : wr.cell? ⟨b1, o1 + i, none⟩ = some (.int .u64 x) := g1 i _ (by simp [words, hx])
      have d2 : wr.cell? ⟨b2, o2 + i, none⟩ = some (.int .u64 x) := g2 i _ (by simp [words, hx])
      clear g1 g2 hx hne hb
      go_wp2_with fail
      go_quiet (fail)
      go_wp2_with fail
      go_roundw
      case rel => exact ⟨i + 1, by omega, by go_num, HB.out.trans ((Frm.refl (fun _ => False) wr).drewN _ |>.below HB.out.size (fun _ h => h.elim))⟩
      case measure => simp [intOf]; omega
    · clear hb
      go_wp2_with fail
      go_ret
      exact ⟨rfl, HB.out⟩
end Go.Proofs.Ytmbpilhngniigaa
