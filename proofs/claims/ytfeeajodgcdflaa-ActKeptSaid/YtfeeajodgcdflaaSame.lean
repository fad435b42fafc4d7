/- Same plans: the law's and the reference's, at equal plans. -/
import Derived.Test.YtfeeajodgcdflaaDo
namespace Go.Proofs.Ytfeeajodgcdflaa
open Go.RowKit Go.Maps Go.Troupe

set_option maxRecDepth 100000 in
set_option maxHeartbeats 2000000 in
theorem rsame_eq (p : Pl) (A A' : Option Addr) (c c' : Nat) (w : World) (h1 : Cells w w.heap.size A (flatE p.effs)) (h2 : Cells w w.heap.size A' (flatE p.effs)) (hl : p.effs.length ≤ 9223372036854775807) :
    Calls Try.prog 12 #[p.val (.slice A p.effs.length c), p.val (.slice A' p.effs.length c')] w fun e w' => e = .returned (.bool true) ∧ Below w.heap.size w w' := by
  obtain ⟨stash, effs, state, stop, fail⟩ := p
  dsimp only at h1 h2 hl
  have F0 : Below w.heap.size w ((w.alloc (.cells #[.bool stash, .slice A effs.length c, .string state, .bool stop, .string fail] 30)).alloc (.cells #[.bool stash, .slice A' effs.length c', .string state, .bool stop, .string fail] 30)) := ((Below.refl _ _).alloc (Nat.le_refl _) _).alloc (by simp) _
  have K0 : Blk ((w.alloc (.cells #[.bool stash, .slice A effs.length c, .string state, .bool stop, .string fail] 30)).alloc (.cells #[.bool stash, .slice A' effs.length c', .string state, .bool stop, .string fail] 30)) w.heap.size 30 [.bool stash, .slice A effs.length c, .string state, .bool stop, .string fail] := (Blk.new _ _ _).alloc _
  have K1 : Blk ((w.alloc (.cells #[.bool stash, .slice A effs.length c, .string state, .bool stop, .string fail] 30)).alloc (.cells #[.bool stash, .slice A' effs.length c', .string state, .bool stop, .string fail] 30)) (w.heap.size + 1) 30 [.bool stash, .slice A' effs.length c', .string state, .bool stop, .string fail] := by simpa using Blk.new (w.alloc (.cells #[.bool stash, .slice A effs.length c, .string state, .bool stop, .string fail] 30)) 30 [.bool stash, .slice A' effs.length c', .string state, .bool stop, .string fail]
  have C1 := Troupe.hid ((h1.below F0).mono F0.size)
  have C2 := Troupe.hid ((h2.below F0).mono F0.size)
  have HF := Troupe.hid F0
  have HK0 := Troupe.hid K0
  have HK1 := Troupe.hid K1
  have HL := Troupe.hid hl
  clear F0 K0 K1 h1 h2 hl
  dsimp only [Pl.val]
  go_enter Try.func12, Try.ntmps12
  go_upto_block 0 with (fail)
  generalize (w.alloc (.cells #[.bool stash, .slice A effs.length c, .string state, .bool stop, .string fail] 30)).alloc (.cells #[.bool stash, .slice A' effs.length c', .string state, .bool stop, .string fail] 30) = w0 at *
  have e0 := HK0.out.cell
  have e1 := HK1.out.cell
  go_step
  go_loopw [5] (fun v5 wr => ∃ i : Nat, v5 = .int .i64 i ∧ i ≤ effs.length ∧ Below w.heap.size w wr ∧ Below w0.heap.size w0 wr) (fun v5 _ => effs.length - (intOf v5).toNat)
  case atStart => exact ⟨0, rfl, Nat.zero_le _, HF.out, Below.refl _ _⟩
  case round =>
    obtain ⟨i, rfl, hi, hb1, hb2⟩ := hrel
    have HB1 := Troupe.hid hb1
    have HB2 := Troupe.hid hb2
    clear hb1 hb2 e0 e1
    have e0 := (HK0.out.below HB2.out HK0.out.lt).cell
    have e1 := (HK1.out.below HB2.out HK1.out.lt).cell
    by_cases hlt : i < effs.length
    · obtain ⟨e, hx⟩ : ∃ e, effs[i]? = some e := ⟨_, List.getElem?_eq_getElem hlt⟩
      have hi3 : i < 9223372036854775807 := by have := HL.out; omega
      go_upto_block 1 with (fail)
      go_step
      go_step
      refine region_still (by kernel_rfl) (by kernel_rfl) ?_
      intro w' hh hf
      have HB3 := Troupe.hid (HB1.out.trans (hf.below HB1.out.size (fun _ h => h.elim)))
      have HB4 := Troupe.hid (HB2.out.trans (hf.below HB2.out.size (fun _ h => h.elim)))
      obtain ⟨b, off, hA, _, hc⟩ := cells_at (sz := 7) (fun _ => rfl) (by decide) (C1.out.below HB4.out) hx
      obtain ⟨b', off', hA', _, hc'⟩ := cells_at (sz := 7) (fun _ => rfl) (by decide) (C2.out.below HB4.out) hx
      obtain ⟨d, ref, slot, name, v, m, delay⟩ := e
      have c0 : w'.cell? ⟨b, off + i * 7, none⟩ = some (.int .i64 d) := hc 0 (by decide) _ rfl
      have c1 : w'.cell? ⟨b, off + i * 7 + 1, none⟩ = some (.string ref) := hc 1 (by decide) _ rfl
      have c2 : w'.cell? ⟨b, off + i * 7 + 2, none⟩ = some (.string slot) := hc 2 (by decide) _ rfl
      have c3 : w'.cell? ⟨b, off + i * 7 + 3, none⟩ = some (.string name) := hc 3 (by decide) _ rfl
      have c4 : w'.cell? ⟨b, off + i * 7 + 4, none⟩ = some (.int .i64 v) := hc 4 (by decide) _ rfl
      have c5 : w'.cell? ⟨b, off + i * 7 + 5, none⟩ = some (.int .i64 m) := hc 5 (by decide) _ rfl
      have c6 : w'.cell? ⟨b, off + i * 7 + 6, none⟩ = some (.int .i64 delay) := hc 6 (by decide) _ rfl
      have d0 : w'.cell? ⟨b', off' + i * 7, none⟩ = some (.int .i64 d) := hc' 0 (by decide) _ rfl
      have d1 : w'.cell? ⟨b', off' + i * 7 + 1, none⟩ = some (.string ref) := hc' 1 (by decide) _ rfl
      have d2 : w'.cell? ⟨b', off' + i * 7 + 2, none⟩ = some (.string slot) := hc' 2 (by decide) _ rfl
      have d3 : w'.cell? ⟨b', off' + i * 7 + 3, none⟩ = some (.string name) := hc' 3 (by decide) _ rfl
      have d4 : w'.cell? ⟨b', off' + i * 7 + 4, none⟩ = some (.int .i64 v) := hc' 4 (by decide) _ rfl
      have d5 : w'.cell? ⟨b', off' + i * 7 + 5, none⟩ = some (.int .i64 m) := hc' 5 (by decide) _ rfl
      have d6 : w'.cell? ⟨b', off' + i * 7 + 6, none⟩ = some (.int .i64 delay) := hc' 6 (by decide) _ rfl
      subst hA
      subst hA'
      clear hc hc' hx
      have e0 := (HK0.out.below HB4.out HK0.out.lt).cell
      have e1 := (HK1.out.below HB4.out HK1.out.lt).cell
      repeat still_step
      refine wpStill_nil ?_
      go_wp2_with fail
      go_roundw
      case rel => exact ⟨i + 1, by go_num, by omega, HB3.out, HB4.out⟩
      case measure => simp [intOf]; omega
    · have hil : i = effs.length := by omega
      subst hil
      go_wp2_with fail
      go_ret
      exact ⟨rfl, HB1.out⟩
set_option maxRecDepth 100000 in
set_option maxHeartbeats 2000000 in
theorem same_eq (p : Pl) (A A' : Option Addr) (c c' : Nat) (w : World) (h1 : Cells w w.heap.size A (flatE p.effs)) (h2 : Cells w w.heap.size A' (flatE p.effs)) (hl : p.effs.length ≤ 9223372036854775807) :
    Calls Try.prog 21 #[p.val (.slice A p.effs.length c), p.val (.slice A' p.effs.length c')] w fun e w' => e = .returned (.bool true) ∧ Below w.heap.size w w' := by
  obtain ⟨stash, effs, state, stop, fail⟩ := p
  dsimp only at h1 h2 hl
  have F0 : Below w.heap.size w ((w.alloc (.cells #[.bool stash, .slice A effs.length c, .string state, .bool stop, .string fail] 30)).alloc (.cells #[.bool stash, .slice A' effs.length c', .string state, .bool stop, .string fail] 30)) := ((Below.refl _ _).alloc (Nat.le_refl _) _).alloc (by simp) _
  have K0 : Blk ((w.alloc (.cells #[.bool stash, .slice A effs.length c, .string state, .bool stop, .string fail] 30)).alloc (.cells #[.bool stash, .slice A' effs.length c', .string state, .bool stop, .string fail] 30)) w.heap.size 30 [.bool stash, .slice A effs.length c, .string state, .bool stop, .string fail] := (Blk.new _ _ _).alloc _
  have K1 : Blk ((w.alloc (.cells #[.bool stash, .slice A effs.length c, .string state, .bool stop, .string fail] 30)).alloc (.cells #[.bool stash, .slice A' effs.length c', .string state, .bool stop, .string fail] 30)) (w.heap.size + 1) 30 [.bool stash, .slice A' effs.length c', .string state, .bool stop, .string fail] := by simpa using Blk.new (w.alloc (.cells #[.bool stash, .slice A effs.length c, .string state, .bool stop, .string fail] 30)) 30 [.bool stash, .slice A' effs.length c', .string state, .bool stop, .string fail]
  have C1 := Troupe.hid ((h1.below F0).mono F0.size)
  have C2 := Troupe.hid ((h2.below F0).mono F0.size)
  have HF := Troupe.hid F0
  have HK0 := Troupe.hid K0
  have HK1 := Troupe.hid K1
  have HL := Troupe.hid hl
  clear F0 K0 K1 h1 h2 hl
  dsimp only [Pl.val]
  go_enter Try.func21, Try.ntmps21
  go_upto_block 0 with (fail)
  generalize (w.alloc (.cells #[.bool stash, .slice A effs.length c, .string state, .bool stop, .string fail] 30)).alloc (.cells #[.bool stash, .slice A' effs.length c', .string state, .bool stop, .string fail] 30) = w0 at *
  have e0 := HK0.out.cell
  have e1 := HK1.out.cell
  go_step
  go_loopw [5] (fun v5 wr => ∃ i : Nat, v5 = .int .i64 i ∧ i ≤ effs.length ∧ Below w.heap.size w wr ∧ Below w0.heap.size w0 wr) (fun v5 _ => effs.length - (intOf v5).toNat)
  case atStart => exact ⟨0, rfl, Nat.zero_le _, HF.out, Below.refl _ _⟩
  case round =>
    obtain ⟨i, rfl, hi, hb1, hb2⟩ := hrel
    have HB1 := Troupe.hid hb1
    have HB2 := Troupe.hid hb2
    clear hb1 hb2 e0 e1
    have e0 := (HK0.out.below HB2.out HK0.out.lt).cell
    have e1 := (HK1.out.below HB2.out HK1.out.lt).cell
    by_cases hlt : i < effs.length
    · obtain ⟨e, hx⟩ : ∃ e, effs[i]? = some e := ⟨_, List.getElem?_eq_getElem hlt⟩
      have hi3 : i < 9223372036854775807 := by have := HL.out; omega
      go_upto_block 1 with (fail)
      go_step
      go_step
      refine region_still (by kernel_rfl) (by kernel_rfl) ?_
      intro w' hh hf
      have HB3 := Troupe.hid (HB1.out.trans (hf.below HB1.out.size (fun _ h => h.elim)))
      have HB4 := Troupe.hid (HB2.out.trans (hf.below HB2.out.size (fun _ h => h.elim)))
      obtain ⟨b, off, hA, _, hc⟩ := cells_at (sz := 7) (fun _ => rfl) (by decide) (C1.out.below HB4.out) hx
      obtain ⟨b', off', hA', _, hc'⟩ := cells_at (sz := 7) (fun _ => rfl) (by decide) (C2.out.below HB4.out) hx
      obtain ⟨d, ref, slot, name, v, m, delay⟩ := e
      have c0 : w'.cell? ⟨b, off + i * 7, none⟩ = some (.int .i64 d) := hc 0 (by decide) _ rfl
      have c1 : w'.cell? ⟨b, off + i * 7 + 1, none⟩ = some (.string ref) := hc 1 (by decide) _ rfl
      have c2 : w'.cell? ⟨b, off + i * 7 + 2, none⟩ = some (.string slot) := hc 2 (by decide) _ rfl
      have c3 : w'.cell? ⟨b, off + i * 7 + 3, none⟩ = some (.string name) := hc 3 (by decide) _ rfl
      have c4 : w'.cell? ⟨b, off + i * 7 + 4, none⟩ = some (.int .i64 v) := hc 4 (by decide) _ rfl
      have c5 : w'.cell? ⟨b, off + i * 7 + 5, none⟩ = some (.int .i64 m) := hc 5 (by decide) _ rfl
      have c6 : w'.cell? ⟨b, off + i * 7 + 6, none⟩ = some (.int .i64 delay) := hc 6 (by decide) _ rfl
      have d0 : w'.cell? ⟨b', off' + i * 7, none⟩ = some (.int .i64 d) := hc' 0 (by decide) _ rfl
      have d1 : w'.cell? ⟨b', off' + i * 7 + 1, none⟩ = some (.string ref) := hc' 1 (by decide) _ rfl
      have d2 : w'.cell? ⟨b', off' + i * 7 + 2, none⟩ = some (.string slot) := hc' 2 (by decide) _ rfl
      have d3 : w'.cell? ⟨b', off' + i * 7 + 3, none⟩ = some (.string name) := hc' 3 (by decide) _ rfl
      have d4 : w'.cell? ⟨b', off' + i * 7 + 4, none⟩ = some (.int .i64 v) := hc' 4 (by decide) _ rfl
      have d5 : w'.cell? ⟨b', off' + i * 7 + 5, none⟩ = some (.int .i64 m) := hc' 5 (by decide) _ rfl
      have d6 : w'.cell? ⟨b', off' + i * 7 + 6, none⟩ = some (.int .i64 delay) := hc' 6 (by decide) _ rfl
      subst hA
      subst hA'
      clear hc hc' hx
      have e0 := (HK0.out.below HB4.out HK0.out.lt).cell
      have e1 := (HK1.out.below HB4.out HK1.out.lt).cell
      repeat still_step
      refine wpStill_nil ?_
      go_wp2_with fail
      go_roundw
      case rel => exact ⟨i + 1, by go_num, by omega, HB3.out, HB4.out⟩
      case measure => simp [intOf]; omega
    · have hil : i = effs.length := by omega
      subst hil
      go_wp2_with fail
      go_ret
      exact ⟨rfl, HB1.out⟩
end Go.Proofs.Ytfeeajodgcdflaa
