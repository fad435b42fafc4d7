/- Directive, by contract. -/
import Derived.Test.YtkjjhndccelbcaaSmall2
namespace Go.Proofs.Ytkjjhndccelbcaa
open Go.RowKit Go.Maps Go.Troupe

def strs (l : List ByteArray) : List Value := l.flatMap fun s => [Value.string s]
theorem dirV_two (cs : List Cs) (reason : ByteArray) : (∀ j : Nat, ∀ want, [reason, noS][j]? = some want → cs.find? (caseV want) = none) → dirV cs reason = 3 := fun h => by
  unfold dirV
  rw [h 0 reason rfl, h 1 noS rfl]
theorem dirV_at (cs : List Cs) (reason want : ByteArray) (j : Nat) (x : Cs) (h : ∀ i : Nat, i < j → ∀ want, [reason, noS][i]? = some want → cs.find? (caseV want) = none) (hw : [reason, noS][j]? = some want) (hx : cs.find? (caseV want) = some x) : dirV cs reason = x.d := by
  unfold dirV
  match j, hw, h with
  | 0, hw, _ => simp at hw; subst hw; rw [hx]
  | 1, hw, h => simp at hw; subst hw; rw [h 0 (by omega) reason rfl, hx]
set_option maxRecDepth 100000 in
set_option maxHeartbeats 1000000 in
theorem dir_any (k : Kf) (reason : ByteArray) (w : World) (hk : KfIn w w.heap.size k) : Calls Try.prog 42 #[k.val, .string reason] w fun e w' => e = .returned (.int .i64 (dirV k.cases reason)) ∧ Below w.heap.size w w' := by
  obtain ⟨kn, kl, kw, cs, Ac, cc, sts, A, cap⟩ := k
  obtain ⟨⟨hc, -, hl⟩, -⟩ := hk
  dsimp only at hc hl ⊢
  dsimp only [Kf.val]
  obtain ⟨w0, hw0⟩ : ∃ w0, w0 = (w.alloc (.cells #[.string kn, .int .i64 kl, .int .i64 kw, .slice Ac cs.length cc, .slice A sts.length cap] 67)).alloc (.cells #[.string reason, .string ⟨#[]⟩] 9) := ⟨_, rfl⟩
  have F0 : Below w.heap.size w w0 := by rw [hw0]; exact ((Below.refl _ _).alloc (Nat.le_refl _) _).alloc (by simp) _
  have K0 : Blk w0 w.heap.size 67 [.string kn, .int .i64 kl, .int .i64 kw, .slice Ac cs.length cc, .slice A sts.length cap] := by rw [hw0]; exact (Blk.new w 67 [.string kn, .int .i64 kl, .int .i64 kw, .slice Ac cs.length cc, .slice A sts.length cap]).alloc _
  have K1 : Blk w0 (w.heap.size + 1) 9 [.string reason, .string noS] := by rw [hw0]; simpa [noS] using Blk.new (w.alloc (.cells #[.string kn, .int .i64 kl, .int .i64 kw, .slice Ac cs.length cc, .slice A sts.length cap] 67)) 9 [.string reason, .string ⟨#[]⟩]
  have HW := Troupe.hid hw0
  have HF := Troupe.hid F0
  have HK0 := Troupe.hid K0
  have HK1 := Troupe.hid K1
  have HC := Troupe.hid (hc.below F0)
  have hz := F0.size
  clear hw0 F0 K0 K1 hc
  go_enter Try.func42, Try.ntmps42
  go_wp2_with fail
  rw [← HW.out]
  clear HW
  obtain ⟨g1, hg1⟩ : ∃ g1, g1 = w.heap.size + 1 := ⟨_, rfl⟩
  rw [← hg1] at HK1 ⊢
  clear hg1
  go_loopw [11] (fun v11 wr => ∃ j : Nat, v11 = .int .i64 j ∧ j ≤ 2 ∧ (∀ i : Nat, i < j → ∀ want, [reason, noS][i]? = some want → cs.find? (caseV want) = none) ∧ Below w0.heap.size w0 wr) (fun v11 _ => 2 - (intOf v11).toNat)
  case atStart => exact ⟨0, rfl, by omega, fun i hi => (by omega), Below.refl _ _⟩
  case round =>
    obtain ⟨j, rfl, hj, hno, hb⟩ := hrel
    obtain ⟨wa, rfl⟩ : ∃ wa : World, wa = wr := ⟨_, rfl⟩
    have NO := Troupe.hid hno
    have HB := Troupe.hid hb
    have e0 := (HK0.out.below hb HK0.out.lt).cell
    have e1 := (HK1.out.below hb HK1.out.lt).cell
    clear hno hb
    by_cases hlt : j < 2
    · obtain ⟨want, hw⟩ : ∃ want, [reason, noS][j]? = some want := ⟨_, List.getElem?_eq_getElem (by simpa using hlt)⟩
      have s1 : wa.cell? ⟨g1, j, none⟩ = some (.string want) := by
        rw [e1 j]
        match j, hw with
        | 0, hw => simp at hw; subst hw; rfl
        | 1, hw => simp at hw; subst hw; rfl
      have hlt' : (j : Int) < 2 := by omega
      have F2 : Below wa.heap.size wa (wa.alloc (.cells #[.string want] 9)) := (Below.refl _ _).alloc (Nat.le_refl _) _
      have HB2 := Troupe.hid (HB.out.trans (F2.mono HB.out.size))
      have IX := Troupe.hid (indexC_any want wa.heap.size Ac cc cs (wa.alloc (.cells #[.string want] 9)) hl ((HC.out.below (HB2.out.mono hz)).mono (Nat.le_trans hz HB2.out.size)) ((Blk.new wa 9 [.string want]).cell 0))
      have e2 := ((HK0.out.below HB.out HK0.out.lt).below F2 (HK0.out.below HB.out HK0.out.lt).lt).cell
      have HW := Troupe.hid hw
      clear F2 hw e0 e1
      go_wp2_with fail
      generalize wa.alloc (.cells #[.string want] 9) = wb at *
      refine IX.out.mono ?_
      rintro e wc ⟨rfl, hbc⟩
      have HB3 := Troupe.hid (HB2.out.trans (hbc.mono HB2.out.size))
      have e3 := (HK0.out.below HB3.out HK0.out.lt).cell
      clear hbc e2 s1
      rcases idxV_cases cs (caseV want) with ⟨h1, h2⟩ | ⟨i, x, h1, hx, h2⟩
      · rw [h1]
        have NO2 : Hid (∀ i : Nat, i < j + 1 → ∀ want, [reason, noS][i]? = some want → cs.find? (caseV want) = none) := by
          intro i hi want' hw'
          by_cases hij : i = j
          · subst hij
            rw [HW.out] at hw'
            cases hw'
            exact h2
          · exact NO.out i (by omega) want' hw'
        clear h1 h2
        go_wp2_with fail
        go_roundw
        case rel => exact ⟨j + 1, by go_num, by omega, NO2.out, HB3.out⟩
        case measure => simp [intOf]; omega
      · rw [h1]
        have hi : i < cs.length := (List.getElem?_eq_some_iff.1 hx).1
        obtain ⟨b, o, rfl, _, hcc⟩ := cells_at (sz := 2) (fun _ => rfl) (by decide) (HC.out.below (HB3.out.mono hz)) hx
        have d1 : wc.cell? ⟨b, o + i * 2 + 1, none⟩ = some (.int .i64 x.d) := hcc 1 (by decide) _ rfl
        have hi3 : i < 140737488355328 := by omega
        have FIN := Troupe.hid (dirV_at cs reason want j x NO.out HW.out h2)
        clear h1 h2 hx hcc
        go_wp2_with fail
        go_ret
        exact ⟨by rw [FIN.out]; rfl, HF.out.trans (HB3.out.mono hz)⟩
    · have hj2 : j = 2 := by omega
      subst hj2
      have FIN : Hid (dirV cs reason = 3) := dirV_two cs reason (fun i want hi => NO.out i (by have := (List.getElem?_eq_some_iff.1 hi).1; simpa using this) want hi)
      go_wp2_with fail
      go_ret
      exact ⟨by rw [FIN.out]; rfl, HF.out.trans (HB.out.mono hz)⟩
end Go.Proofs.Ytkjjhndccelbcaa
