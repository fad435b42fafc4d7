/- alive: the document's examples hold. -/
import Derived.Test.YtkjjhndccelbcaaEvents
namespace Go.Proofs.Ytkjjhndccelbcaa
open Go.RowKit Go.Maps Go.Troupe

theorem cv0 (b : Nat) : checkV (exKs b) exEvs = (0, 6) := by kernel_rfl
theorem cv1 (b : Nat) : checkV (exKs b) [ev0, ev2, ev3, ev4, ev5] = (3, 1) := by kernel_rfl
theorem cv2 (b : Nat) : checkV (exKs b) [ev0, ev1, ev2, ev4, ev3, ev5] = (12, 3) := by kernel_rfl
theorem cv3 (b : Nat) : checkV (exKs b) [ev0, ev1, ev2, ev3t, ev4, ev5] = (5, 3) := by kernel_rfl
theorem ok_ev {a b c d e g h : Int} {s : ByteArray} {t : Bool} (h1 : -9 ≤ a ∧ a ≤ 99) (h2 : -9 ≤ b ∧ b ≤ 99) (h3 : 0 ≤ c ∧ c ≤ 99) (h4 : -9 ≤ d ∧ d ≤ 99) (h5 : -9 ≤ e ∧ e ≤ 99) (h6 : -9 ≤ g ∧ g ≤ 99) : EvOk ⟨a, b, c, d, e, s, g, h, t⟩ :=
  ⟨⟨by dsimp only; omega, by dsimp only; omega⟩, ⟨by dsimp only; omega, by dsimp only; omega⟩, ⟨by dsimp only; omega, by dsimp only; omega⟩, ⟨by dsimp only; omega, by dsimp only; omega⟩, ⟨by dsimp only; omega, by dsimp only; omega⟩, ⟨by dsimp only; omega, by dsimp only; omega⟩⟩
theorem ok_all (e : Ev) (h : e ∈ [ev0, ev1, ev2, ev3, ev3t, ev4, ev5]) : EvOk e := by
  simp only [List.mem_cons, List.not_mem_nil, or_false] at h
  rcases h with rfl | rfl | rfl | rfl | rfl | rfl | rfl <;> exact ok_ev (by decide) (by decide) (by decide) (by decide) (by decide) (by decide)
theorem ok_sub {l : List Ev} (h : ∀ e ∈ l, e ∈ [ev0, ev1, ev2, ev3, ev3t, ev4, ev5]) : ∀ e ∈ l, EvOk e := fun e he => ok_all e (h e he)
theorem ExIn.stands {w w' : World} (h : ExIn w w') : Stands w' (w.heap.size + 1 + 1 + 1 + 1 + 1) (some ⟨w.heap.size + 1 + 1 + 1 + 1, 0, none⟩) 1 (exKs w.heap.size) :=
  ⟨blk_in h.kb (by omega), h.kin, by have := h.eb.lt; omega, by simp [exKs], by simp [exKs], fun k hk => by
    have hk' : k = ⟨⟨#[97]⟩, 0, 1, [], none, 0, exSts w.heap.size, some ⟨w.heap.size + 1 + 1 + 1, 0, none⟩, 1⟩ := by simpa [exKs] using hk
    subst hk'
    refine ⟨Nat.le_refl _, by simp [exSts], fun s hs => ?_⟩
    have hs' : s = ⟨⟨#[115]⟩, exRows w.heap.size, some ⟨w.heap.size + 1 + 1, 0, none⟩, 1⟩ := by simpa [exSts] using hs
    subst hs'
    simp [exRows]⟩
/-- What stands behind a place of a block. -/
theorem blk_drop {w : World} {g k : Nat} {t : TypeId} {cs ds : List Value} (h : Blk w g t cs) (hd : cs.drop k = ds) : Cells w w.heap.size (some ⟨g, k, none⟩) ds := by
  subst hd
  refine .inr ⟨g, k, rfl, h.lt, fun i u hu => ?_⟩
  rw [h.cell, ← hu, List.getElem?_drop]
set_option maxRecDepth 100000 in
set_option maxHeartbeats 4000000 in
theorem alive_any (w : World) : Calls Try.prog 7 #[] w fun e w' => e = .returned (.bool true) ∧ Below w.heap.size w w' := by
  go_enter Try.func7, Try.ntmps7
  go_wp2_with fail
  refine (example_any w).mono ?_
  rintro e w1 ⟨rfl, hx⟩
  have F2 := (Below.refl w1.heap.size w1).alloc (Nat.le_refl _) (.cells #[.slice (some ⟨w.heap.size + 1 + 1 + 1 + 1, 0, none⟩) 1 1] 24)
  have B2 := Troupe.hid (hx.be.trans (F2.mono hx.be.size))
  have S2 := Troupe.hid (hx.stands.later F2)
  have E2 := Troupe.hid (hx.eb.below F2 hx.eb.lt)
  have P2 := Troupe.hid (Blk.new w1 24 [.slice (some ⟨w.heap.size + 1 + 1 + 1 + 1, 0, none⟩) 1 1])
  have G6 : Hid (w.heap.size ≤ w.heap.size + 1 + 1 + 1 + 1 + 1 + 1 ∧ w.heap.size ≤ w1.heap.size) := ⟨by omega, hx.be.size⟩
  clear hx F2
  go_wp2_with fail
  generalize w1.alloc (.cells #[.slice (some ⟨w.heap.size + 1 + 1 + 1 + 1, 0, none⟩) 1 1] 24) = w2 at *
  generalize w1.heap.size = gp at *
  refine (S2.out.chk (blk_in E2.out E2.out.lt) (evs := exEvs) (by simp [exEvs]) (ok_sub (by simp [exEvs])) (cv0 _)).mono ?_
  rintro e w3 ⟨rfl, hb⟩
  have B3 := Troupe.hid (B2.out.trans (hb.mono B2.out.size))
  have S3 := Troupe.hid (S2.out.later hb)
  have E3 := Troupe.hid (E2.out.below hb E2.out.lt)
  have P3 := Troupe.hid (P2.out.below hb P2.out.lt)
  clear hb
  have GB : Hid (w.heap.size + 1 + 1 + 1 + 1 + 1 ≤ w.heap.size + 1 + 1 + 1 + 1 + 1 + 1) := by unfold Hid; omega
  generalize w.heap.size + 1 + 1 + 1 + 1 + 1 + 1 = g6 at *
  have F3 : Below w3.heap.size w3 (w3.alloc (.cells #[.int .i64 7, .int .i64 1, .int .u64 0, .int .i64 0, .int .i64 0, .string ⟨#[97]⟩, .int .i64 0, .int .i64 0, .bool false] 32)) := (Below.refl _ _).alloc (Nat.le_refl _) _
  have N3 : Blk (w3.alloc (.cells #[.int .i64 7, .int .i64 1, .int .u64 0, .int .i64 0, .int .i64 0, .string ⟨#[97]⟩, .int .i64 0, .int .i64 0, .bool false] 32)) w3.heap.size 32 (flatV [ev0]) := Blk.new w3 32 (flatV [ev0])
  have C3 := Troupe.hid (blk_in N3 N3.lt)
  have FH := Troupe.hid F3
  have Z3 := F3.size
  clear N3 F3
  go_wp2_with first
    | (refine wpList_evRead (x := .tmp 25) (i := 0) (e := ev0) rfl rfl E3.out rfl rfl ?_; dsimp only [ev0, Ev.cells])
    | (at_builtin; refine wpList_app rfl (.tmp 23) (.tmp 27) 25 rfl w3.heap.size 32 info32 Try.underlying25 rfl (by decide) (.slice none 0 0) 0 [] rfl (World.ownsRow_nil _ _ _ _) _ (some ⟨w3.heap.size, 0, none⟩) 1 1 (flatV [ev0]) rfl rfl C3.out (fun h => by cases h) (one_evs _) (by omega) (by unfold maxLen; omega) Z3 ?_; intro v4 w4 h'; obtain ⟨A4, k4, rfl, -⟩ := own_form h'.own; have O4 := Troupe.hid h'.own; have F4 := Troupe.hid ((FH.out).trans (h'.frm.below Z3 (fun k hk => by cases hk))); have E4 := Troupe.hid (E3.out.below F4.out E3.out.lt); have P4 := Troupe.hid (P3.out.below F4.out P3.out.lt); have S4 := Troupe.hid (S3.out.later F4.out); have C4 : Hid (Cells w4 w4.heap.size (some ⟨g6, 18, none⟩) (flatV [ev2, ev3, ev4, ev5])) := blk_drop E4.out (by rfl); have Z4 : w3.heap.size ≤ w4.heap.size := F4.out.size; clear h')
    | (at_builtin; refine wpList_app rfl (.tmp 29) (.tmp 31) 25 rfl w3.heap.size 32 info32 Try.underlying25 rfl (by decide) (.slice A4 1 k4) 1 (flatV [ev0]) rfl O4.out _ (some ⟨g6, 18, none⟩) 4 4 (flatV [ev2, ev3, ev4, ev5]) rfl rfl C4.out (fun h => by cases h) (one_evs _) (by omega) (by unfold maxLen; omega) Z4 ?_; intro v5 w5 h'; obtain ⟨A5, k5, rfl, -⟩ := own_form h'.own; have O5 := Troupe.hid h'.own; have F5 := Troupe.hid (F4.out.trans (h'.frm.below Z4 (fun k hk => (O4.out.lt k hk).1))); have E5 := Troupe.hid (E3.out.below F5.out E3.out.lt); have P5 := Troupe.hid (P3.out.below F5.out P3.out.lt); have S5 := Troupe.hid (S3.out.later F5.out); have e5 := P5.out.cell; clear h')
    | fail
  clear e5
  refine (S5.out.chk (evs := [ev0, ev2, ev3, ev4, ev5]) (own_cells O5.out) (by simp) (ok_sub (by simp)) (cv1 _)).mono ?_
  rintro e w6 ⟨rfl, hb⟩
  have B6 := Troupe.hid (B3.out.trans ((F5.out.trans (hb.mono F5.out.size)).mono B3.out.size))
  have S6 := Troupe.hid (S5.out.later hb)
  have E6 := Troupe.hid (E5.out.below hb E5.out.lt)
  have P6 := Troupe.hid (P5.out.below hb P5.out.lt)
  have F6 := (Below.refl w6.heap.size w6).alloc (Nat.le_refl _) (.cells #[.int .i64 4, .int .i64 1, .int .u64 1, .int .i64 0, .int .i64 0, .string ⟨#[115]⟩, .int .i64 0, .int .i64 0, .bool false] 32)
  have P7 := Troupe.hid (P6.out.below F6 P6.out.lt)
  have S7 := Troupe.hid (S6.out.later F6)
  have E7 := Troupe.hid (E6.out.below F6 E6.out.lt)
  have B7 := Troupe.hid (B6.out.trans (F6.mono B6.out.size))
  have N7 : Hid (Blk (w6.alloc (.cells #[.int .i64 4, .int .i64 1, .int .u64 1, .int .i64 0, .int .i64 0, .string ⟨#[115]⟩, .int .i64 0, .int .i64 0, .bool false] 32)) w6.heap.size 32 (flatV [ev3])) := Blk.new w6 32 (flatV [ev3])
  have hne : Hid (¬ w6.heap.size = g6) := by have := E6.out.lt; unfold Hid; omega
  have hnp : Hid (¬ gp = g6) := P6.out.ne E6.out (by decide)
  clear hb S2 P2 E2 S3 P3 E3 C3 FH B2 B3 F4 E4 P4 S4 C4 O4 F5 O5 E5 P5 S5 F6
  go_wp2_with first
    | (refine wpList_evRead (x := .tmp 40) (i := 3) (e := ev3) rfl rfl E6.out rfl rfl ?_; dsimp only [ev3, Ev.cells])
    | (refine wpList_evRead (x := .tmp 44) (i := 4) (e := ev4) rfl rfl E7.out rfl rfl ?_; dsimp only [ev4, Ev.cells])
    | (refine wpList_evStore (x := .tmp 46) (y := .tmp 45) (i := 3) (e := ev4) rfl rfl E7.out (by decide) rfl rfl ?_; intro w8 h1 h2; have E8 : Hid (Blk w8 g6 32 (flatV [ev0, ev1, ev2, ev4, ev4, ev5])) := h1; have F8 := Troupe.hid h2; have N8 := Troupe.hid (N7.out.frm h2 hne.out); have P8 := Troupe.hid (P7.out.frm h2 hnp.out); clear h1 h2)
    | (refine wpList_evRead (x := .tmp 8) (i := 0) (e := ev3) rfl rfl N8.out rfl rfl ?_; dsimp only [ev3, Ev.cells])
    | (refine wpList_evStore (x := .tmp 49) (y := .tmp 48) (i := 4) (e := ev3) rfl rfl E8.out (by decide) rfl rfl ?_; intro w9 h1 h2; have E9 : Hid (Blk w9 g6 32 (flatV [ev0, ev1, ev2, ev4, ev3, ev5])) := h1; have F9 := Troupe.hid ((F8.out).trans h2 (fun _ _ h => h)); have P9 := Troupe.hid (P8.out.frm h2 hnp.out); have e9 := P9.out.cell; clear h1 h2)
    | fail
  clear e9
  have S9 := Troupe.hid (S7.out.below (F9.out.below S7.out.b (fun k hk => by rw [hk]; exact GB.out)))
  have B9 := Troupe.hid (B7.out.trans (F9.out.below B7.out.size (fun k hk => by rw [hk]; exact G6.out.1)))
  refine (S9.out.chk (blk_in E9.out E9.out.lt) (evs := [ev0, ev1, ev2, ev4, ev3, ev5]) (by simp) (ok_sub (by simp)) (cv2 _)).mono ?_
  rintro e w10 ⟨rfl, hb⟩
  have S10 := Troupe.hid (S9.out.later hb)
  have P10 := Troupe.hid (P9.out.below hb P9.out.lt)
  have B10 := Troupe.hid (B9.out.trans (hb.mono B9.out.size))
  clear hb E9 S9 P9 B9 E8 F8 F9 N8 P8 S7 E7 N7 P7 B7 E6 S6 B6 P6
  go_wp2_with fail
  refine (example_any w10).mono ?_
  rintro e w11 ⟨rfl, hx⟩
  have S11 := Troupe.hid (S10.out.later hx.be)
  have P11 := Troupe.hid (P10.out.below hx.be P10.out.lt)
  have B11 := Troupe.hid (B10.out.trans (hx.be.mono B10.out.size))
  have E11 := Troupe.hid hx.eb
  have H11 : Hid (w.heap.size + 1 + 1 + 1 + 1 + 1 ≤ w10.heap.size + 1 + 1 + 1 + 1 + 1 + 1 ∧ ¬ gp = w10.heap.size + 1 + 1 + 1 + 1 + 1 + 1 ∧ w.heap.size ≤ w10.heap.size + 1 + 1 + 1 + 1 + 1 + 1) := ⟨by have := S10.out.b; omega, by have := P10.out.lt; omega, by have := S10.out.b; omega⟩
  clear hx S10 P10 B10
  generalize w10.heap.size + 1 + 1 + 1 + 1 + 1 + 1 = g11 at *
  have c32 : w11.cell? ⟨g11, 32, none⟩ = some (.string ⟨#[115]⟩) := by rw [E11.out.cell]; rfl
  have f32 := E11.out.frozen 32
  have FR : Frm (fun k => k = g11) w11 (w11.setCell ⟨g11, 32, none⟩ (.string ⟨#[116]⟩)) := Frm.one w11 ⟨g11, 32, none⟩ _
  have S12 := Troupe.hid (S11.out.below (FR.below S11.out.b (fun k hk => by rw [hk]; exact H11.out.1)))
  have B12 := Troupe.hid (B11.out.trans (FR.below B11.out.size (fun k hk => by rw [hk]; exact H11.out.2.2)))
  have hne : ¬ gp = g11 := H11.out.2.1
  have P12 := P11.out.frm FR hne
  have e12 := P12.cell 0
  have E12 : Hid (Blk (w11.setCell ⟨g11, 32, none⟩ (.string ⟨#[116]⟩)) g11 32 (flatV [ev0, ev1, ev2, ev3t, ev4, ev5])) := E11.out.set_ 32 _
  simp only [List.getElem?_cons_zero] at e12
  clear FR P12 S11 B11 E11
  go_wp2_with fail
  generalize w11.setCell ⟨g11, 32, none⟩ (.string ⟨#[116]⟩) = w12 at *
  refine (S12.out.chk (blk_in E12.out E12.out.lt) (evs := [ev0, ev1, ev2, ev3t, ev4, ev5]) (by simp) (ok_sub (by simp)) (cv3 _)).mono ?_
  rintro e w13 ⟨rfl, hb⟩
  have B13 := Troupe.hid (B12.out.trans (hb.mono B12.out.size))
  clear hb e12 c32 f32
  go_wp2_with fail
  go_ret
  exact ⟨rfl, B13.out⟩
end Go.Proofs.Ytkjjhndccelbcaa
