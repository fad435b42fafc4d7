/- The document's Kind, by contract. -/
import Derived.Test.YtfeeajodgcdflaaFind
namespace Go.Proofs.Ytfeeajodgcdflaa
open Go.RowKit Go.Maps Go.Troupe

set_option maxRecDepth 100000 in
theorem rkind_any (A : Option Addr) (c : Nat) (ks : List Kf) (kind : ByteArray) (w : World) (hc : Cells w w.heap.size A (flatK ks)) (hl : ks.length ≤ 140737488355328) :
    Calls Try.prog 23 #[.agg #[.slice A ks.length c], .string kind] w fun e w' => e = .returned (.int .i64 (idxV ks (kindV kind))) ∧ Below w.heap.size w w' := by
  have F0 : Below w.heap.size w (w.alloc (.cells #[.slice A ks.length c] 52)) := (Below.refl _ _).alloc (Nat.le_refl _) _
  have K0 : Blk (w.alloc (.cells #[.slice A ks.length c] 52)) w.heap.size 52 [.slice A ks.length c] := Blk.new _ _ _
  have C0 := Troupe.hid (hc.below F0)
  have HF := Troupe.hid F0
  have HK0 := Troupe.hid K0
  have hz := F0.size
  clear F0 K0 hc
  go_enter Try.func23, Try.ntmps23
  go_wp2_with fail
  generalize w.alloc (.cells #[.slice A ks.length c] 52) = w0 at *
  go_loopw [5] (fun v5 wr => ∃ j : Nat, v5 = .int .i64 j ∧ j ≤ ks.length ∧ (∀ y ∈ ks.take j, kindV kind y = false) ∧ wr = w0) (fun v5 _ => ks.length - (intOf v5).toNat)
  case atStart => exact ⟨0, rfl, Nat.zero_le _, by simp, rfl⟩
  case round =>
    obtain ⟨j, rfl, hj, hno, hw⟩ := hrel
    obtain rfl := hw.symm
    have NO := Troupe.hid hno
    have e0 := HK0.out.cell
    clear hno
    by_cases hlt : j < ks.length
    · obtain ⟨x, hx⟩ : ∃ x, ks[j]? = some x := ⟨_, List.getElem?_eq_getElem (by omega)⟩
      obtain ⟨b, off, rfl, _, h1⟩ := cells_at (sz := 5) (fun _ => rfl) (by decide) C0.out hx
      have d0 : w0.cell? ⟨b, off + j * 5, none⟩ = some (.string x.name) := h1 0 (by decide) _ rfl
      have X := Troupe.hid hx
      have hj3 : j < 140737488355328 := by omega
      clear h1 hx
      cases hp : (x.name.toList == kind.toList) with
      | true =>
        have FIN := Troupe.hid (idxV_some (p := kindV kind) X.out hp NO.out)
        go_wp2_with fail
        go_ret
        exact ⟨by rw [FIN.out]; rfl, HF.out⟩
      | false =>
        have NO2 : Hid (∀ y ∈ ks.take (j + 1), (kindV kind) y = false) := by
          intro y hy
          rw [List.take_add_one, X.out] at hy
          rcases List.mem_append.1 hy with h | h
          · exact NO.out y h
          · simp at h; subst h; exact hp
        go_wp2_with fail
        go_roundw
        case rel => exact ⟨j + 1, by go_num, by omega, NO2.out, by trivial⟩
        case measure => simp [intOf]; omega
    · have hall : idxV ks (kindV kind) = -1 := idxV_none (by have h := NO.out; rwa [List.take_of_length_le (by omega)] at h)
      have FIN := Troupe.hid hall
      clear hall
      go_wp2_with fail
      go_ret
      exact ⟨by rw [FIN.out]; rfl, HF.out⟩
end Go.Proofs.Ytfeeajodgcdflaa
