/- What is told where there is no room, by contract. -/
import Derived.Test.YtkjjhndccelbcaaEnd
namespace Go.Proofs.Ytkjjhndccelbcaa
open Go.RowKit Go.Maps Go.Troupe
attribute [local go_sem] reads readAt readUpon Cls quietU

theorem KOwn.frm67 {w w' : World} {base g : Nat} {k : Kf} {cs : List Value} (h : KOwn w base k) (hb : Blk w g 67 cs) (hf : Frm (fun x => x = g) w w') : KOwn w' base k := by
  refine ⟨own_frm h.cases hf (fun b hb' e => ?_), own_frm h.sts hf (fun b hb' e => ?_), fun s hs => ⟨own_frm (h.all s hs).1 hf (fun b hb' e => ?_), fun r hr => own_frm ((h.all s hs).2 r hr) hf (fun b hb' e => ?_)⟩⟩
  · obtain ⟨cs', hbk⟩ := own_at h.cases hb'
    exact hbk.ne hb (by decide) e
  · obtain ⟨cs', hbk⟩ := own_at h.sts hb'
    exact hbk.ne hb (by decide) e
  · obtain ⟨cs', hbk⟩ := own_at (h.all s hs).1 hb'
    exact hbk.ne hb (by decide) e
  · obtain ⟨cs', hbk⟩ := own_at ((h.all s hs).2 r hr) hb'
    exact hbk.ne hb (by decide) e
set_option maxRecDepth 100000 in
set_option maxHeartbeats 8000000 in
theorem noRoom_any {w : World} {base gb ca cl : Nat} {Ak Aa Al : Option Addr} {ck : Nat} {bk : Bk} {ag lg : List Nat} {ks : List Kf} (h : BookAt w base gb (.slice Ak ks.length ck) Aa ca Al cl bk ag lg) (hw : base ≤ w.heap.size) (e : Ev) (hl : bk.acs.length ≤ 140737488355328)
    (hc : Cells w w.heap.size Ak (flatK ks)) (hk : KindsIn w w.heap.size ks) (hkl : ks.length ≤ 140737488355328) :
    Calls Try.prog 22 #[.pointer (some ⟨gb, 0, none⟩), .agg e.cells.toArray] w (Ruled w base gb (.slice Ak ks.length ck) (noRoomV ks bk e)) := by
  have F0 : Below w.heap.size w (w.alloc (.cells #[.int .i64 e.kd, .int .i64 e.actor, .int .u64 e.id, .int .i64 e.src, .int .i64 e.dst, .string e.name, .int .i64 e.n, .int .i64 e.why, .bool e.timed] 32)) := (Below.refl _ _).alloc (Nat.le_refl _) _
  have K0 : Blk (w.alloc (.cells #[.int .i64 e.kd, .int .i64 e.actor, .int .u64 e.id, .int .i64 e.src, .int .i64 e.dst, .string e.name, .int .i64 e.n, .int .i64 e.why, .bool e.timed] 32)) w.heap.size 32 e.cells := Blk.new _ _ _
  have H0 := Troupe.hid (h.below F0)
  have HF := Troupe.hid F0
  have HK := Troupe.hid K0
  have hz := F0.size
  have HC := Troupe.hid hc
  have HKI := Troupe.hid hk
  dsimp only [Ev.cells]
  clear h F0 K0 hc hk
  go_enter Try.func22, Try.ntmps22
  go_upto_region 1 with (fail)
  generalize w.alloc (.cells #[.int .i64 e.kd, .int .i64 e.actor, .int .u64 e.id, .int .i64 e.src, .int .i64 e.dst, .string e.name, .int .i64 e.n, .int .i64 e.why, .bool e.timed] 32) = w0 at *
  let S0 : World → Prop := fun w2 => Below w0.heap.size w0 w2
  have hne : Nonempty (SW S0) := ⟨⟨w0, Below.refl _ _⟩⟩
  have f5 : ∀ x : SW S0, x.w.cell? ⟨w.heap.size, 5, none⟩ = some (.string e.name) := fun x => (HK.out.below x.h HK.out.lt).cell 5
  have fb : ∀ x : SW S0, x.w.cell? ⟨gb, 0, none⟩ = some (.slice Ak ks.length ck) := fun x => (H0.out.blk.below x.h H0.out.blk.lt).cell 0
  refine region_plan (S := Cls S0) (.read 0 (.read 1 (.read 2 (.read 3 (.read 4 (.read 5 (.two 6 (.read 7 (.read 8 (.read 9 (.one 10 (.one 11 .tail))))) 10 (.one 6 (.read 7 (.read 8 (.read 9 (.one 11 .tail)))))))))))) 12 (by kernel_rfl) (by kernel_rfl) (fun _ _ d _ _ h => by cases d <;> exact h) ?_
  intro w1 hh o1' o2' o3'
  have F1 : Below w0.heap.size w0 w1 := (Frm.of_heap (S := fun _ => False) hh o1' o2' o3').below (Nat.le_refl _) (fun _ h => h.elim)
  clear hh o1' o2' o3'
  refine ⟨Cls.of F1, ?_⟩
  iterate 6 (refine wpPlan_read rfl (fun K hK => ?_); go_simp; refine hK _ ?_; clear hK K)
  have B1 := Troupe.hid (HF.out.trans (F1.mono hz))
  have HF1 := Troupe.hid F1
  clear F1
  refine wpPlan_two rfl rfl ?_ ?_
  have FD := Troupe.hid (find_any Ak ck ks e.name w1 ((HC.out.below B1.out).mono B1.out.size) ((HKI.out.below B1.out).mono B1.out.size) hkl)
  go_wp2_with fail
  refine FD.out.mono ?_
  rintro en w2 hfd
  obtain ⟨hb2, k', rfl, hsk, hok'⟩ := found_one hfd
  have HSK := Troupe.hid hsk
  have HOK' := Troupe.hid (hok'.base B1.out.size)
  have F2 := Troupe.hid (HF1.out.trans (hb2.mono HF1.out.size))
  obtain ⟨okb, hok⟩ : ∃ b, (findV ks e.name).isSome = b := ⟨_, rfl⟩
  rw [hok]
  have HOK := Troupe.hid hok
  dsimp only [Kf.val]
  clear hfd hb2 hok FD hsk hok'
  go_wp2_with fail
  refine ⟨Cls.of F2.out, ?_⟩
  iterate 3 (refine wpPlan_read rfl (fun K hK => ?_); go_simp; refine hK _ ?_; clear hK K)
  have FZ : Below w2.heap.size w2 (w2.alloc (.cells #[.string ⟨#[]⟩, .int .i64 0, .int .i64 0, .slice none 0 0, .slice none 0 0] 67)) := (Below.refl _ _).alloc (Nat.le_refl _) _
  have F3 := Troupe.hid (F2.out.trans (FZ.mono F2.out.size))
  have HBZ : Hid (Blk (w2.alloc (.cells #[.string ⟨#[]⟩, .int .i64 0, .int .i64 0, .slice none 0 0, .slice none 0 0] 67)) w2.heap.size 67 zK) := Blk.new _ _ _
  have HOK3 := Troupe.hid (HOK'.out.below FZ)
  have hgk : w0.heap.size ≤ w2.heap.size := F2.out.size
  clear FZ
  refine wpPlan_one rfl ?_
  go_wp2_with fail
  refine ⟨Cls.of F3.out, ?_⟩
  generalize w2.alloc (.cells #[.string ⟨#[]⟩, .int .i64 0, .int .i64 0, .slice none 0 0, .slice none 0 0] 67) = w3 at *
  generalize w2.heap.size = gk at *
  rotate_left
  have FZ : Below w1.heap.size w1 (w1.alloc (.cells #[.string ⟨#[]⟩, .int .i64 0, .int .i64 0, .slice none 0 0, .slice none 0 0] 67)) := (Below.refl _ _).alloc (Nat.le_refl _) _
  have HF1a := Troupe.hid (HF1.out.trans (FZ.mono HF1.out.size))
  have B1a := Troupe.hid (HF.out.trans (HF1a.out.mono hz))
  have HBZ0 : Hid (Blk (w1.alloc (.cells #[.string ⟨#[]⟩, .int .i64 0, .int .i64 0, .slice none 0 0, .slice none 0 0] 67)) w1.heap.size 67 zK) := Blk.new _ _ _
  have hgk : w0.heap.size ≤ w1.heap.size := HF1.out.size
  clear FZ
  go_wp2_with fail
  refine ⟨Cls.of HF1a.out, ?_⟩
  generalize w1.alloc (.cells #[.string ⟨#[]⟩, .int .i64 0, .int .i64 0, .slice none 0 0, .slice none 0 0] 67) = w1a at *
  generalize w1.heap.size = gk at *
  refine wpPlan_one rfl ?_
  have FD := Troupe.hid (find_any Ak ck ks e.name w1a ((HC.out.below B1a.out).mono B1a.out.size) ((HKI.out.below B1a.out).mono B1a.out.size) hkl)
  go_wp2_with fail
  refine FD.out.mono ?_
  rintro en w2 hfd
  obtain ⟨hb2, k', rfl, hsk, hok'⟩ := found_one hfd
  have HSK := Troupe.hid hsk
  have HOK' := Troupe.hid (hok'.base B1a.out.size)
  have F2 := Troupe.hid (HF1a.out.trans (hb2.mono HF1a.out.size))
  have HBZ := Troupe.hid (HBZ0.out.below hb2 HBZ0.out.lt)
  obtain ⟨okb, hok⟩ : ∃ b, (findV ks e.name).isSome = b := ⟨_, rfl⟩
  rw [hok]
  have HOK := Troupe.hid hok
  dsimp only [Kf.val]
  clear hfd hb2 hok FD hsk hok'
  go_wp2_with fail
  refine ⟨Cls.of F2.out, ?_⟩
  iterate 3 (refine wpPlan_read rfl (fun K hK => ?_); go_simp; refine hK _ ?_; clear hK K)
  obtain ⟨w3, rfl⟩ : ∃ w3 : World, w3 = w2 := ⟨_, rfl⟩
  have F3 := F2
  have HOK3 := HOK'
  all_goals
    have cz := HBZ.out.cell
    have fz := HBZ.out.frozen
    dsimp only [zK] at cz
    obtain ⟨s1, s2⟩ := set5 (a := .string ⟨#[]⟩) (b := .int .i64 0) (c := .int .i64 0) (d := .slice none 0 0) (e := .slice none 0 0) HBZ.out (.string k'.name) (.int .i64 k'.limit) (.int .i64 k'.within) (.slice k'.Ac k'.cases.length k'.cc) (.slice k'.A k'.sts.length k'.cap)
    have F4 := Troupe.hid (F3.out.trans (s2.below F3.out.size (fun x hx => by omega)))
    have HBK := Troupe.hid s1
    have HOK4 := Troupe.hid (HOK3.out.frm67 HBZ.out s2)
    clear s1 s2
    refine wpPlan_one rfl ?_
    go_wp2_with fail
    refine ⟨Cls.of F4.out, ?_⟩
    refine wpPlan_tail ?_
    simp only [List.drop_succ_cons, List.drop_zero]
    clear cz fz f5 fb hne
    generalize ((((w3.setCell ⟨gk, 0, none⟩ (.string k'.name)).setCell ⟨gk, 1, none⟩ (.int .i64 k'.limit)).setCell ⟨gk, 2, none⟩ (.int .i64 k'.within)).setCell ⟨gk, 3, none⟩ (.slice k'.Ac k'.cases.length k'.cc)).setCell ⟨gk, 4, none⟩ (.slice k'.A k'.sts.length k'.cap) = w4 at *
    have H3 := Troupe.hid (H0.out.below F4.out)
    have K3 := Troupe.hid (HK.out.below F4.out HK.out.lt)
    have B3 := Troupe.hid (HF.out.trans (F4.out.mono hz))
    have hz3 := B3.out.size
    have e3 := K3.out.cell
    dsimp only [Ev.cells] at e3
    cases okb with
    | false =>
      have FIN : Hid (noRoomV ks bk e = (7, bk)) := by unfold Hid noRoomV; rw [HOK.out]; rfl
      go_upto_region 2 with (fail)
      have FX : Below w4.heap.size w4 (w4.alloc (.cells #[.int .i64 7, .bool false] 81)) := (Below.refl _ _).alloc (Nat.le_refl _) _
      have HX := Troupe.hid (H3.out.below FX)
      have BX := Troupe.hid (B3.out.trans (FX.mono hz3))
      have hzx := FX.size
      have BR := Troupe.hid (broken_any (some ⟨w4.heap.size, 0, none⟩) 1 1 (w4.alloc (.cells #[.int .i64 7, .bool false] 81)).heap.size [⟨7, false⟩] _ rfl (by unfold maxLen; omega) ((Blk.new w4 81 [.int .i64 7, .bool false]).blk_cells.mono (by simp)) (Nat.le_refl _))
      clear FX e3
      go_wp2_with fail
      generalize w4.alloc (.cells #[.int .i64 7, .bool false] 81) = w5 at *
      refine BR.out.mono ?_
      rintro en w6 ⟨rfl, hb6⟩
      have H6 := Troupe.hid (HX.out.below hb6)
      have B6 := Troupe.hid (BX.out.trans (hb6.mono BX.out.size))
      clear hb6
      go_wp2_with fail
      go_ret
      exact Ruled.same FIN.out H6.out B6.out hw
    | true =>
      go_upto_region 2 with (fail)
      have AC := Troupe.hid (actor_any H3.out e.actor hl)
      have WK := Troupe.hid (works_any H3.out e.actor)
      obtain ⟨b, hb⟩ : ∃ b, worksV (acV bk.acs e.actor) = b := ⟨_, rfl⟩
      rw [hb] at WK
      have HB := Troupe.hid hb
      clear hb
      go_wp2_with fail
      refine AC.out.mono ?_
      rintro en w4 ⟨rfl, rfl⟩
      go_wp2_with fail
      refine WK.out.mono ?_
      rintro en w4 ⟨rfl, rfl⟩
      cases b with
      | false =>
        have FIN : Hid (noRoomV ks bk e = (7, bk)) := by unfold Hid noRoomV; rw [HOK.out, HB.out]; rfl
        have FX : Below w4.heap.size w4 (w4.alloc (.cells #[.int .i64 7, .bool false] 81)) := (Below.refl _ _).alloc (Nat.le_refl _) _
        have HX := Troupe.hid (H3.out.below FX)
        have BX := Troupe.hid (B3.out.trans (FX.mono hz3))
        have hzx := FX.size
        have BR := Troupe.hid (broken_any (some ⟨w4.heap.size, 0, none⟩) 1 1 (w4.alloc (.cells #[.int .i64 7, .bool false] 81)).heap.size [⟨7, false⟩] _ rfl (by unfold maxLen; omega) ((Blk.new w4 81 [.int .i64 7, .bool false]).blk_cells.mono (by simp)) (Nat.le_refl _))
        clear FX e3
        go_wp2_with fail
        generalize w4.alloc (.cells #[.int .i64 7, .bool false] 81) = w5 at *
        refine BR.out.mono ?_
        rintro en w6 ⟨rfl, hb6⟩
        have H6 := Troupe.hid (HX.out.below hb6)
        have B6 := Troupe.hid (BX.out.trans (hb6.mono BX.out.size))
        clear hb6
        go_wp2_with fail
        go_ret
        exact Ruled.same FIN.out H6.out B6.out hw
      | true =>
        have FIN : Hid (noRoomV ks bk e = (0, bk)) := by unfold Hid noRoomV; rw [HOK.out, HB.out]; rfl
        have FX : Below w4.heap.size w4 (w4.alloc (.cells #[.int .i64 7, .bool true] 81)) := (Below.refl _ _).alloc (Nat.le_refl _) _
        have HX := Troupe.hid (H3.out.below FX)
        have BX := Troupe.hid (B3.out.trans (FX.mono hz3))
        have hzx := FX.size
        have BR := Troupe.hid (broken_any (some ⟨w4.heap.size, 0, none⟩) 1 1 (w4.alloc (.cells #[.int .i64 7, .bool true] 81)).heap.size [⟨7, true⟩] _ rfl (by unfold maxLen; omega) ((Blk.new w4 81 [.int .i64 7, .bool true]).blk_cells.mono (by simp)) (Nat.le_refl _))
        clear FX e3
        go_wp2_with fail
        generalize w4.alloc (.cells #[.int .i64 7, .bool true] 81) = w5 at *
        refine BR.out.mono ?_
        rintro en w6 ⟨rfl, hb6⟩
        have H6 := Troupe.hid (HX.out.below hb6)
        have B6 := Troupe.hid (BX.out.trans (hb6.mono BX.out.size))
        clear hb6
        go_wp2_with fail
        go_ret
        exact Ruled.same FIN.out H6.out B6.out hw
end Go.Proofs.Ytkjjhndccelbcaa
