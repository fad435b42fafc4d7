/- The tree's Parent, by contract; who is told as whose child behind an Add. -/
import Derived.Test.YtmdiagcmfcjleaaGrown
namespace Go.Proofs.Ytmdiagcmfcjleaa
open Go.RowKit Go.Maps Go.Troupe

set_option maxRecDepth 100000 in
theorem parent_any {M : List Mb} {p : Nat} {S : Nat → Prop} (x : Mb) (w : World) (h : Tr w p S M) (hx : x ∈ M) :
    Calls Try.prog 19 #[.pointer (some ⟨p, 0, none⟩), .int .i64 x.1] w fun e w' => e = .returned (.tuple #[.int .i64 x.2, .bool true]) ∧ w' = w := by
  obtain ⟨r, mp, B, V, h0, _⟩ := h
  have c1 : w.cell? ⟨p, 1, none⟩ = some (.map (some mp)) := h0.top.cell 1
  have HM := Troupe.hid h0.map
  have LK := Troupe.hid (look_has (B := B) (hasV_mem hx))
  have c2 : w.cell? ⟨B x.1, 0, none⟩ = some (.int .i64 x.2) := (h0.mem x hx).1.cell 0
  clear h0 hx
  go_enter Try.func19, Try.ntmps19
  go_wp2_with (at_lookup; refine wpList_look rfl _ _ 50 rfl 3 56 Try.underlying50 Try.underlying3 _ (zero56 _) rfl HM.out _ rfl ?_; rw [LK.out])
  go_ret2
  exact ⟨rfl, rfl⟩
set_option maxRecDepth 100000 in
theorem parent_not {M : List Mb} {p : Nat} {S : Nat → Prop} (id : Int) (w : World) (h : Tr w p S M) (hv : hasV M id = false) :
    Calls Try.prog 19 #[.pointer (some ⟨p, 0, none⟩), .int .i64 id] w fun e w' => e = .returned (.tuple #[.int .i64 0, .bool false]) ∧ w' = w := by
  obtain ⟨r, mp, B, V, h0, _⟩ := h
  have c1 : w.cell? ⟨p, 1, none⟩ = some (.map (some mp)) := h0.top.cell 1
  have HM := Troupe.hid h0.map
  have LK := Troupe.hid (look_not (B := B) hv)
  clear h0 hv
  go_enter Try.func19, Try.ntmps19
  go_wp2_with (at_lookup; refine wpList_look rfl _ _ 50 rfl 3 56 Try.underlying50 Try.underlying3 _ (zero56 _) rfl HM.out _ rfl ?_; rw [LK.out])
  go_ret2
  exact ⟨rfl, rfl⟩
/-- What an Add does to what is told of children. -/
theorem add_told {M : List Mb} (hM : Vd [] M) (par id : Int) : (addV M par id).2 ≠ 0 ∧ (addV M par id).1 = M ∨
    (addV M par id).2 = 0 ∧ (addV M par id).1 = M ++ [(id, par)] ∧ (par ≠ 0 → kidsA (M ++ [(id, par)]) par = kidsA M par ++ [id]) ∧ (par = 0 → kidsA (M ++ [(id, par)]) par = kidsA M par) ∧ ∀ q, id ∈ kidsA (M ++ [(id, par)]) q → q = par := by
  unfold addV
  split
  · exact .inl ⟨(by show (1 : Int) ≠ 0; decide), rfl⟩
  · split
    · exact .inl ⟨(by show (3 : Int) ≠ 0; decide), rfl⟩
    · split
      · exact .inl ⟨(by show (4 : Int) ≠ 0; decide), rfl⟩
      · split
        · exact .inl ⟨(by show (2 : Int) ≠ 0; decide), rfl⟩
        · rename_i h1 h2 h3 h4
          have hn : hasV M id = false := by simpa using h2
          have hhas : ∀ k, hasV (M ++ [(id, par)]) k = (hasV M k || (id == k)) := by
            intro k; unfold hasV; rw [List.any_append]; simp
          refine .inr ⟨rfl, rfl, fun hp => ?_, fun hp => ?_, fun q hq => ?_⟩
          · have hv : hasV M par = true := by
              cases hh : hasV M par with
              | true => rfl
              | false => exact absurd ⟨hp, hh⟩ h4
            unfold kidsA
            rw [if_pos hv, if_pos (by rw [hhas, hv]; rfl), kidsV_snoc, if_pos rfl]
          · subst hp
            have h0 : hasV M 0 = false := hasV_not.2 fun x hx e => by have := hM.pos x hx; omega
            unfold kidsA
            have h1 : hasV (M ++ [(id, 0)]) 0 = false := by
              rw [hhas, h0]
              have : (id == (0 : Int)) = false := beq_eq_false_iff_ne.2 (by omega)
              rw [this]; rfl
            rw [if_neg (by rw [h1]; decide), if_neg (by rw [h0]; decide)]
          · unfold kidsA at hq
            split at hq
            · rw [kidsV_snoc] at hq
              split at hq
              · rename_i e; exact e.symm
              · exact absurd rfl (hasV_not.1 hn _ (mem_kidsV.1 hq))
            · simp at hq
end Go.Proofs.Ytmdiagcmfcjleaa
