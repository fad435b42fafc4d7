/- The reference's Number, fits and Row by contracts. -/
import Derived.Test.YtfeeajodgcdflaaRow
namespace Go.Proofs.Ytfeeajodgcdflaa
open Go.RowKit Go.Maps Go.Troupe

set_option maxRecDepth 100000 in
theorem rnumber_any (e : Eff) (n : Int) (hn : -9223372036854775808 ≤ n ∧ n ≤ 9223372036854775807) (w : World) :
    Calls Try.prog 20 #[.agg e.cells.toArray, .int .i64 n] w fun en w' => en = .returned (.int .i64 (numV e n)) ∧ Below w.heap.size w w' := by
  have hb : Below w.heap.size w (w.alloc (.cells e.cells.toArray 36)) := (Below.refl _ _).alloc (Nat.le_refl _) _
  obtain ⟨d, ref, slot, name, v, m, delay⟩ := e
  unfold numV
  dsimp only [Eff.cells] at hb ⊢
  go_enter Try.func20, Try.ntmps20
  by_cases h0 : v = 0
  · subst h0
    go_wp2
    go_ret
    exact ⟨rfl, hb⟩
  · have h0b : (v == 0) = false := by rw [beq_eq_false_iff_ne]; exact h0
    rw [if_neg h0]
    by_cases h1 : v = 1
    · subst h1
      rw [if_pos rfl]
      by_cases h2 : n < 1
      · rw [if_pos h2]
        go_wp2
        go_ret
        exact ⟨rfl, hb⟩
      · rw [if_neg h2]
        have hw : IntKind.i64.wrap (n - 1) = n - 1 := IntWalk.i64_in _ (by omega)
        go_wp2
        go_ret
        exact ⟨rfl, hb⟩
    · have h1b : (v == 1) = false := by rw [beq_eq_false_iff_ne]; exact h1
      rw [if_neg h1]
      go_wp2
      go_ret
      exact ⟨rfl, hb⟩

set_option maxRecDepth 100000 in
theorem fits_any (r : Rw) (tag : ByteArray) (n : Int) (w : World) :
    Calls Try.prog 37 #[.agg r.cells.toArray, .string tag, .int .i64 n] w fun en w' => en = .returned (.bool (fitsV tag n r)) ∧ Below w.heap.size w w' := by
  have hb : Below w.heap.size w (w.alloc (.cells r.cells.toArray 47)) := (Below.refl _ _).alloc (Nat.le_refl _) _
  obtain ⟨rt, only, rn, effs, A, cap⟩ := r
  unfold fitsV
  dsimp only [Rw.cells] at hb ⊢
  go_enter Try.func37, Try.ntmps37
  cases h0 : (rt.toList == []) with
  | true =>
    rw [Bool.true_or]
    go_wp2
    go_ret
    exact ⟨rfl, hb⟩
  | false =>
    rw [Bool.false_or]
    cases h1 : (rt.toList == tag.toList) with
    | false =>
      rw [Bool.false_and]
      go_wp2
      go_ret
      exact ⟨rfl, hb⟩
    | true =>
      rw [Bool.true_and]
      cases only with
      | false =>
        go_wp2
        go_ret
        exact ⟨rfl, hb⟩
      | true =>
        go_wp2
        go_ret
        exact ⟨by simp, hb⟩

/-- Where the document's Row lies. -/
def AtRow (sts : List St) (state tag : ByteArray) (n : Int) (i j : Int) : Prop :=
  (j = -1 ∧ rowV sts state tag n = none) ∨ (∃ (a b : Nat) (s : St) (r : Rw), i = a ∧ j = b ∧ sts[a]? = some s ∧ s.rows[b]? = some r ∧ rowV sts state tag n = some r)
set_option maxRecDepth 100000 in
set_option maxHeartbeats 2000000 in
theorem rrow_any (k : Kd) (state tag : ByteArray) (n : Int) (w : World) (hk : KindIn w w.heap.size k) :
    Calls Try.prog 26 #[k.val, .string state, .string tag, .int .i64 n] w fun e w' => (∃ i j, e = .returned (.tuple #[.int .i64 i, .int .i64 j]) ∧ AtRow k.sts state tag n i j) ∧ Below w.heap.size w w' := by
  obtain ⟨kn, kl, kw, Ac, nc, cc, A, cap, sts⟩ := k
  obtain ⟨hs, hst, hlen⟩ := hk
  dsimp only at hs hst hlen ⊢
  have F0 : Below w.heap.size w (w.alloc (.cells #[.string kn, .int .i64 kl, .int .i64 kw, .slice Ac nc cc, .slice A sts.length cap] 25)) := (Below.refl _ _).alloc (Nat.le_refl _) _
  have K0 : Blk (w.alloc (.cells #[.string kn, .int .i64 kl, .int .i64 kw, .slice Ac nc cc, .slice A sts.length cap] 25)) w.heap.size 25 [.string kn, .int .i64 kl, .int .i64 kw, .slice Ac nc cc, .slice A sts.length cap] := Blk.new _ _ _
  have HF := Troupe.hid F0
  have HK0 := Troupe.hid K0
  have HS := Troupe.hid hs
  have HST := Troupe.hid hst
  clear F0 K0 hs hst
  dsimp only [Kd.val]
  go_enter Try.func26, Try.ntmps26
  go_upto_block 0 with (fail)
  generalize w.alloc (.cells #[.string kn, .int .i64 kl, .int .i64 kw, .slice Ac nc cc, .slice A sts.length cap] 25) = w0 at *
  have e0 := HK0.out.cell
  go_step
  go_loopw [10] (fun v10 wr => ∃ i : Nat, v10 = .int .i64 i ∧ i ≤ sts.length ∧ Below w.heap.size w wr ∧ Below w0.heap.size w0 wr ∧ rowV sts state tag n = rowV (sts.drop i) state tag n) (fun v10 _ => sts.length - (intOf v10).toNat)
  case atStart => exact ⟨0, rfl, Nat.zero_le _, HF.out, Below.refl _ _, rfl⟩
  case round =>
    obtain ⟨i, rfl, hi, hb1, hb2, hrow⟩ := hrel
    have e1 := (HK0.out.below hb2 HK0.out.lt).cell
    have HR := Troupe.hid hrow
    have HB1 := Troupe.hid hb1
    have HB2 := Troupe.hid hb2
    have HKr := Troupe.hid (HK0.out.below hb2 HK0.out.lt)
    clear hrow hb1 hb2 e0
    by_cases hlt : i < sts.length
    · obtain ⟨s, hx⟩ : ∃ s, sts[i]? = some s := ⟨_, List.getElem?_eq_getElem hlt⟩
      have hdrop : sts.drop i = s :: sts.drop (i + 1) := by rw [List.drop_eq_getElem_cons hlt, (List.getElem?_eq_some_iff.1 hx).2]
      have hrow := HR.out
      rw [hdrop] at hrow
      obtain ⟨b, off, hA, _, hc⟩ := cells_at (sz := 2) (fun _ => rfl) (by decide) (HS.out.below HB1.out) hx
      obtain ⟨hrc, hri, hrl⟩ := HST.out s (List.mem_of_getElem? hx)
      obtain ⟨sn, rows, As, caps⟩ := s
      dsimp only at hrc hri hrl
      have c0 : wr.cell? ⟨b, off + i * 2, none⟩ = some (.string sn) := hc 0 (by decide) _ rfl
      have c1 : wr.cell? ⟨b, off + i * 2 + 1, none⟩ = some (.slice As rows.length caps) := hc 1 (by decide) _ rfl
      subst hA
      have hi3 : i < 9223372036854775807 := by omega
      have HRC := Troupe.hid hrc
      have HRI := Troupe.hid hri
      have HRL := Troupe.hid hrl
      have HX := Troupe.hid hx
      have HC := Troupe.hid hc
      clear hc hdrop hrc hri hrl hx
      cases hnm : (sn.toList == state.toList) with
      | false =>
        have hn : rowV (⟨sn, rows, As, caps⟩ :: sts.drop (i + 1)) state tag n = rowV (sts.drop (i + 1)) state tag n := by
          unfold rowV; rw [List.find?_cons]; simp only [nameV, hnm]
        rw [hn] at hrow
        have HR2 := Troupe.hid hrow
        clear hrow hn HR
        have hnm2 : (!(sn.toList == state.toList)) = true := by rw [hnm]; rfl
        go_wp2_with fail
        go_roundw
        case rel => exact ⟨i + 1, by go_num, by omega, HB1.out, HB2.out, HR2.out⟩
        case measure => simp [intOf]; omega
      | true =>
        have hn : rowV (⟨sn, rows, As, caps⟩ :: sts.drop (i + 1)) state tag n = rows.find? (fitsV tag n) := by
          unfold rowV; rw [List.find?_cons]; simp only [nameV, hnm]; rfl
        rw [hn] at hrow
        have HR2 := Troupe.hid hrow
        clear hrow hn HR
        go_upto_block 2 with (fail)
        clear c0 c1 e1
        go_step
        have hcnt : rows.length < 9223372036854775807 := by have := HRL.out; omega
        have HCN := Troupe.hid hcnt
        clear hcnt
        go_loopw [11] (fun v11 wr => ∃ j : Nat, v11 = .int .i64 j ∧ j ≤ rows.length ∧ Below w.heap.size w wr ∧ Below w0.heap.size w0 wr ∧ rowV sts state tag n = (rows.drop j).find? (fitsV tag n)) (fun v11 _ => rows.length - (intOf v11).toNat)
        case atStart => exact ⟨0, rfl, Nat.zero_le _, HB1.out, HB2.out, HR2.out⟩
        case round =>
          obtain ⟨j, rfl, hj, hq1, hq2, hrow⟩ := hrel
          have e1 := (HK0.out.below hq2 HK0.out.lt).cell
          obtain ⟨b', off', hA', _, hc⟩ := cells_at (sz := 2) (fun _ => rfl) (by decide) (HS.out.below hq1) HX.out
          simp only [Option.some.injEq, Addr.mk.injEq, and_true] at hA'
          obtain ⟨rfl, rfl⟩ := hA'
          have c0 : wr.cell? ⟨b, off + i * 2, none⟩ = some (.string sn) := hc 0 (by decide) _ rfl
          have c1 : wr.cell? ⟨b, off + i * 2 + 1, none⟩ = some (.slice As rows.length caps) := hc 1 (by decide) _ rfl
          have HRW := Troupe.hid hrow
          have HQ1 := Troupe.hid hq1
          have HQ2 := Troupe.hid hq2
          clear hrow hq1 hq2 hc
          by_cases hlj : j < rows.length
          · obtain ⟨r, hxr⟩ : ∃ r, rows[j]? = some r := ⟨_, List.getElem?_eq_getElem hlj⟩
            have hdrop : rows.drop j = r :: rows.drop (j + 1) := by rw [List.drop_eq_getElem_cons hlj, (List.getElem?_eq_some_iff.1 hxr).2]
            have hrow := HRW.out
            rw [hdrop, List.find?_cons] at hrow
            obtain ⟨br, offr, hAr, _, hcr⟩ := cells_at (sz := 4) (fun _ => rfl) (by decide) (HRC.out.below HQ1.out) hxr
            have FT := Troupe.hid (fits_any r tag n wr)
            obtain ⟨rt, ro, rn, re, rA, rcap⟩ := r
            have d0 : wr.cell? ⟨br, offr + j * 4, none⟩ = some (.string rt) := hcr 0 (by decide) _ rfl
            have d1 : wr.cell? ⟨br, offr + j * 4 + 1, none⟩ = some (.bool ro) := hcr 1 (by decide) _ rfl
            have d2 : wr.cell? ⟨br, offr + j * 4 + 2, none⟩ = some (.int .i64 rn) := hcr 2 (by decide) _ rfl
            have d3 : wr.cell? ⟨br, offr + j * 4 + 3, none⟩ = some (.slice rA re.length rcap) := hcr 3 (by decide) _ rfl
            subst hAr
            dsimp only [Rw.cells] at FT
            have HXR := Troupe.hid hxr
            clear hcr hdrop hxr
            have hj3 : j < 9223372036854775807 := by have := HCN.out; omega
            cases hft : fitsV tag n ⟨rt, ro, rn, re, rA, rcap⟩ with
            | true =>
              rw [hft] at hrow FT
              have HRX := Troupe.hid hrow
              clear hrow
              go_wp2_with fail
              refine FT.out.mono ?_
              rintro e wf ⟨rfl, hbf⟩
              have HBF := Troupe.hid (HQ1.out.trans (hbf.mono HQ1.out.size))
              clear hbf
              go_wp2_with fail
              go_ret2
              exact ⟨⟨i, j, rfl, .inr ⟨i, j, _, _, rfl, rfl, HX.out, HXR.out, HRX.out⟩⟩, HBF.out⟩
            | false =>
              rw [hft] at hrow FT
              have HRX := Troupe.hid hrow
              clear hrow
              go_wp2_with fail
              refine FT.out.mono ?_
              rintro e wf ⟨rfl, hbf⟩
              have HBF := Troupe.hid (HQ1.out.trans (hbf.mono HQ1.out.size))
              have HBG := Troupe.hid (HQ2.out.trans (hbf.mono HQ2.out.size))
              clear hbf
              go_wp2_with fail
              go_roundw
              case rel => exact ⟨j + 1, by go_num, by omega, HBF.out, HBG.out, HRX.out⟩
              case measure => simp [intOf]; omega
          · have hjl : j = rows.length := by omega
            subst hjl
            have hrow := HRW.out
            rw [List.drop_length] at hrow
            have HRX := Troupe.hid hrow
            clear hrow
            go_wp2_with fail
            go_ret2
            exact ⟨⟨i, -1, rfl, .inl ⟨rfl, HRX.out⟩⟩, HQ1.out⟩
    · have hil : i = sts.length := by omega
      subst hil
      have hrow := HR.out
      rw [List.drop_length] at hrow
      have HR2 := Troupe.hid hrow
      clear hrow
      go_wp2_with fail
      go_ret2
      exact ⟨⟨-1, -1, rfl, .inl ⟨rfl, HR2.out⟩⟩, HB1.out⟩
end Go.Proofs.Ytfeeajodgcdflaa
