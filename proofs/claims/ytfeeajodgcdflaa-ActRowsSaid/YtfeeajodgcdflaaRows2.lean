/- ActRows: the walk. -/
import Derived.Test.YtfeeajodgcdflaaSameK
import Derived.Test.YtfeeajodgcdflaaRefKind
import Derived.Test.YtfeeajodgcdflaaRefRow
import Derived.Test.YtfeeajodgcdflaaAlive
namespace Go.Proofs.Ytfeeajodgcdflaa
open Go.RowKit Go.Maps Go.Troupe
attribute [local go_sem] reads readAt readUpon Cls

theorem All2.symm {α : Type} {R : α → α → Prop} (hR : ∀ x y, R x y → R y x) {l l' : List α} (h : All2 R l l') : All2 R l' l := by
  induction h with
  | nil => exact .nil
  | cons h1 _ ih => exact .cons (hR _ _ h1) ih
theorem SameR.symm (r r' : Rw) (h : SameR r r') : SameR r' r := ⟨h.tag.symm, h.only.symm, h.n.symm, h.effs.symm⟩
theorem SameS.symm (s s' : St) (h : SameS s s') : SameS s' s := ⟨h.name.symm, h.rows.symm SameR.symm⟩
theorem SameK.symm (k k' : Kf) (h : SameK k k') : SameK k' k := ⟨h.name.symm, h.limit.symm, h.within.symm, h.cases.symm, h.sts.symm SameS.symm⟩
theorem SameK.one {k k' : Kf} (h : SameK k k') : All2 SameK [k] [k'] := .cons h .nil
set_option maxRecDepth 100000 in
set_option maxHeartbeats 8000000 in
theorem rows_walk (A : Option Addr) (c : Nat) (ks : List Kf) (kind state tag : ByteArray) (n : Int) (w : World) (hc : Cells w w.heap.size A (flatK ks)) (hk : KindsIn w w.heap.size ks) (hl : ks.length ≤ 140737488355328) :
    Calls Try.prog 9 #[.agg #[.slice A ks.length c], .string kind, .string state, .string tag, .int .i64 n] w fun e w' => e = .returned (.bool true) ∧ Below w.heap.size w w' := by
  have F0 : Below w.heap.size w (w.alloc (.cells #[.slice A ks.length c] 52)) := (Below.refl _ _).alloc (Nat.le_refl _) _
  have K0 : Blk (w.alloc (.cells #[.slice A ks.length c] 52)) w.heap.size 52 [.slice A ks.length c] := Blk.new _ _ _
  have HF := Troupe.hid F0
  have HK0 := Troupe.hid K0
  have HC := Troupe.hid hc
  have HKI := Troupe.hid hk
  clear F0 K0 hc hk
  go_enter Try.func9, Try.ntmps9
  go_wp2_with fail
  generalize w.alloc (.cells #[.slice A ks.length c] 52) = w0 at *
  refine (alive_any w0).mono ?_
  rintro e w1 ⟨rfl, hb⟩
  have B1 := Troupe.hid (HF.out.trans (hb.mono HF.out.size))
  have K1 := Troupe.hid (HK0.out.below hb HK0.out.lt)
  have hz1 := B1.out.size
  have e1 := K1.out.cell
  have FD := Troupe.hid (find_any A c ks kind w1 ((HC.out.below B1.out).mono hz1) ((HKI.out.below B1.out).mono hz1) hl)
  clear hb HF HK0
  go_wp2_with fail
  refine FD.out.mono ?_
  rintro e w2 ⟨hb2, hfd⟩
  have B2 := Troupe.hid (B1.out.trans (hb2.mono hz1))
  have K2 := Troupe.hid (K1.out.below hb2 K1.out.lt)
  clear e1 FD
  rcases idxV_cases ks (kindV kind) with ⟨h1, h2⟩ | ⟨i, k, h1, hx, h2⟩
  · have FV : findV ks kind = none := h2
    rw [FV] at hfd
    subst hfd
    have H1 := Troupe.hid h1
    clear h1 h2 FV hb2
    have F3 : Below w2.heap.size w2 (w2.alloc (.cells #[.string noS, .int .i64 0, .int .i64 0, .slice none 0 0, .slice none 0 0] 25)) := (Below.refl _ _).alloc (Nat.le_refl _) _
    have B3 := Troupe.hid (B2.out.trans (F3.mono B2.out.size))
    have K3 := Troupe.hid (K2.out.below F3 K2.out.lt)
    have KK3 := Troupe.hid (Blk.new w2 25 [.string noS, .int .i64 0, .int .i64 0, .slice none 0 0, .slice none 0 0])
    have e3 := K3.out.cell
    clear F3
    have RK := Troupe.hid (rkind_any A c ks kind _ ((HC.out.below B3.out).mono B3.out.size) hl)
    rw [H1.out] at RK
    go_wp2_with fail
    generalize w2.alloc (.cells #[.string noS, .int .i64 0, .int .i64 0, .slice none 0 0, .slice none 0 0] 25) = w3 at *
    refine RK.out.mono ?_
    rintro e w4 ⟨rfl, hb4⟩
    have B4 := Troupe.hid (B3.out.trans (hb4.mono B3.out.size))
    have KK4 := Troupe.hid (KK3.out.below hb4 KK3.out.lt)
    have e4 := KK4.out.cell
    have RW := Troupe.hid (row_any ⟨noS, 0, 0, none, 0, 0, none, 0, []⟩ state tag n w4 ⟨.nil _ _ _, fun s hs => (by simp at hs), by simp⟩)
    dsimp only [Kd.val, List.length_nil] at RW
    clear hb4 e3 RK
    go_wp2_with fail
    refine RW.out.mono ?_
    rintro e w5 ⟨hb5, hr5⟩
    have hr5' : e = .returned (.tuple #[.agg #[.string noS, .bool false, .int .i64 0, .slice none 0 0], .bool false]) := hr5
    subst hr5'
    have B5 := Troupe.hid (B4.out.trans (hb5.mono B4.out.size))
    have k5 := KK4.out.below hb5 KK4.out.lt
    have F6 : Below w5.heap.size w5 (w5.alloc (.cells #[.string noS, .bool false, .int .i64 0, .slice none 0 0] 47)) := (Below.refl _ _).alloc (Nat.le_refl _) _
    have B6 := Troupe.hid (B5.out.trans (F6.mono B5.out.size))
    have e5 := (k5.below F6 k5.lt).cell
    have e6 := (Blk.new w5 47 [.string noS, .bool false, .int .i64 0, .slice none 0 0]).cell
    have hno : noS.toList = [] := by rw [ByteArray.toList_eq]; rfl
    clear e4 hb5 k5 F6 RW hr5
    go_wp2_with fail
    go_ret
    exact ⟨rfl, B6.out⟩
  · have FV : findV ks kind = some k := h2
    rw [FV] at hfd
    obtain ⟨k', rfl, hs, ho⟩ := hfd
    have H1 := Troupe.hid h1
    have HS := Troupe.hid hs
    have HO := Troupe.hid ho
    have HX := Troupe.hid hx
    clear h1 h2 FV hs ho hx hb2
    dsimp only [Kf.val]
    have hi : i < ks.length := (List.getElem?_eq_some_iff.1 HX.out).1
    have hkk := HKI.out k (List.mem_of_getElem? HX.out)
    have F3 : Below w2.heap.size w2 (w2.alloc (.cells #[.string k'.name, .int .i64 k'.limit, .int .i64 k'.within, .slice k'.Ac k'.cases.length k'.cc, .slice k'.A k'.sts.length k'.cap] 25)) := (Below.refl _ _).alloc (Nat.le_refl _) _
    have B3 := Troupe.hid (B2.out.trans (F3.mono B2.out.size))
    have K3 := Troupe.hid (K2.out.below F3 K2.out.lt)
    have KK3 := Troupe.hid (Blk.new w2 25 [.string k'.name, .int .i64 k'.limit, .int .i64 k'.within, .slice k'.Ac k'.cases.length k'.cc, .slice k'.A k'.sts.length k'.cap])
    have HO3 := Troupe.hid ((HO.out.base hz1).below F3)
    have HKK := Troupe.hid hkk
    have e3 := K3.out.cell
    have RK := Troupe.hid (rkind_any A c ks kind _ ((HC.out.below B3.out).mono B3.out.size) hl)
    rw [H1.out] at RK
    clear F3 hkk HO
    go_wp2_with fail
    generalize w2.alloc (.cells #[.string k'.name, .int .i64 k'.limit, .int .i64 k'.within, .slice k'.Ac k'.cases.length k'.cc, .slice k'.A k'.sts.length k'.cap] 25) = w3 at *
    generalize w2.heap.size = gk at *
    refine RK.out.mono ?_
    rintro e w4 ⟨rfl, hb4⟩
    have B4 := Troupe.hid (B3.out.trans (hb4.mono B3.out.size))
    have K4 := Troupe.hid (K3.out.below hb4 K3.out.lt)
    have KK4 := Troupe.hid (KK3.out.below hb4 KK3.out.lt)
    have HO4 := Troupe.hid (HO3.out.below hb4)
    clear hb4 e3 RK K3 KK3 HO3
    obtain ⟨b, o, rfl, hbl, hcc⟩ := cells_at (sz := 5) (fun _ => rfl) (by decide) (HC.out.below B4.out) HX.out
    have hz4 := B4.out.size
    let S0 : World → Prop := fun w' => Below w4.heap.size w4 w'
    have hne : Nonempty (SW S0) := ⟨⟨w4, Below.refl _ _⟩⟩
    have fp : ∀ (x : SW S0) (i : Nat), x.w.cell? ⟨w.heap.size, i, none⟩ = [Value.slice (some ⟨b, o, none⟩) ks.length c][i]? := fun x i => (K4.out.below x.h K4.out.lt).cell i
    have fk : ∀ (x : SW S0) (i : Nat), x.w.cell? ⟨gk, i, none⟩ = [Value.string k'.name, .int .i64 k'.limit, .int .i64 k'.within, .slice k'.Ac k'.cases.length k'.cc, .slice k'.A k'.sts.length k'.cap][i]? := fun x i => (KK4.out.below x.h KK4.out.lt).cell i
    have d0 : ∀ x : SW S0, x.w.cell? ⟨b, o + i * 5, none⟩ = some (.string k.name) := fun x => (x.h.cell (p := ⟨b, o + i * 5, none⟩) (by dsimp only; omega)).trans (hcc 0 (by decide) _ rfl)
    have d1 : ∀ x : SW S0, x.w.cell? ⟨b, o + i * 5 + 1, none⟩ = some (.int .i64 k.limit) := fun x => (x.h.cell (p := ⟨b, o + i * 5 + 1, none⟩) (by dsimp only; omega)).trans (hcc 1 (by decide) _ rfl)
    have d2 : ∀ x : SW S0, x.w.cell? ⟨b, o + i * 5 + 2, none⟩ = some (.int .i64 k.within) := fun x => (x.h.cell (p := ⟨b, o + i * 5 + 2, none⟩) (by dsimp only; omega)).trans (hcc 2 (by decide) _ rfl)
    have d3 : ∀ x : SW S0, x.w.cell? ⟨b, o + i * 5 + 3, none⟩ = some (.slice k.Ac k.cases.length k.cc) := fun x => (x.h.cell (p := ⟨b, o + i * 5 + 3, none⟩) (by dsimp only; omega)).trans (hcc 3 (by decide) _ rfl)
    have d4 : ∀ x : SW S0, x.w.cell? ⟨b, o + i * 5 + 4, none⟩ = some (.slice k.A k.sts.length k.cap) := fun x => (x.h.cell (p := ⟨b, o + i * 5 + 4, none⟩) (by dsimp only; omega)).trans (hcc 4 (by decide) _ rfl)
    have hi3 : i < 140737488355328 := by omega
    clear hcc
    go_wp2_with fail
    refine region_plan (S := Cls S0) (.read 0 (.read 1 (.read 2 (.read 3 (.read 6 (.read 7 (.read 8 (.read 9 (.read 10 (.two 4 (.read 5 (.one 11 (.read 12 .tail))) 11 (.read 12 (.one 4 (.read 5 .tail))))))))))))) 13 (by kernel_rfl) (by kernel_rfl) (fun _ _ d _ _ h => by cases d <;> exact h) ?_
    intro w6 hh o1' o2' o3'
    have F6 : Below w4.heap.size w4 w6 := (Frm.of_heap (S := fun _ => False) hh o1' o2' o3').below (Nat.le_refl _) (fun _ h => h.elim)
    clear hh o1' o2' o3'
    refine ⟨Cls.of F6, ?_⟩
    repeat (refine wpPlan_read rfl (fun K hK => ?_); go_simp; refine hK _ ?_; clear hK K)
    clear fp fk d0 d1 d2 d3 d4
    refine wpPlan_two rfl rfl ?_ ?_
    have F7 := F6.alloc F6.size (.cells #[.string k'.name, .int .i64 k'.limit, .int .i64 k'.within, .slice k'.Ac k'.cases.length k'.cc, .slice k'.A k'.sts.length k'.cap] 25)
    have F9 : Below w4.heap.size w4 ((w6.alloc (.cells #[.string k'.name, .int .i64 k'.limit, .int .i64 k'.within, .slice k'.Ac k'.cases.length k'.cc, .slice k'.A k'.sts.length k'.cap] 25)).alloc (.cells #[.string k.name, .int .i64 k.limit, .int .i64 k.within, .slice k.Ac k.cases.length k.cc, .slice k.A k.sts.length k.cap] 25)) := F7.alloc F7.size _
    have bx : Blk ((w6.alloc (.cells #[.string k'.name, .int .i64 k'.limit, .int .i64 k'.within, .slice k'.Ac k'.cases.length k'.cc, .slice k'.A k'.sts.length k'.cap] 25)).alloc (.cells #[.string k.name, .int .i64 k.limit, .int .i64 k.within, .slice k.Ac k.cases.length k.cc, .slice k.A k.sts.length k.cap] 25)) w6.heap.size 25 [.string k'.name, .int .i64 k'.limit, .int .i64 k'.within, .slice k'.Ac k'.cases.length k'.cc, .slice k'.A k'.sts.length k'.cap] := (Blk.new w6 25 [.string k'.name, .int .i64 k'.limit, .int .i64 k'.within, .slice k'.Ac k'.cases.length k'.cc, .slice k'.A k'.sts.length k'.cap]).alloc (.cells #[.string k.name, .int .i64 k.limit, .int .i64 k.within, .slice k.Ac k.cases.length k.cc, .slice k.A k.sts.length k.cap] 25)
    have b_y : Blk ((w6.alloc (.cells #[.string k'.name, .int .i64 k'.limit, .int .i64 k'.within, .slice k'.Ac k'.cases.length k'.cc, .slice k'.A k'.sts.length k'.cap] 25)).alloc (.cells #[.string k.name, .int .i64 k.limit, .int .i64 k.within, .slice k.Ac k.cases.length k.cc, .slice k.A k.sts.length k.cap] 25)) (w6.heap.size + 1) 25 [.string k.name, .int .i64 k.limit, .int .i64 k.within, .slice k.Ac k.cases.length k.cc, .slice k.A k.sts.length k.cap] := by simpa using Blk.new (w6.alloc (.cells #[.string k'.name, .int .i64 k'.limit, .int .i64 k'.within, .slice k'.Ac k'.cases.length k'.cc, .slice k'.A k'.sts.length k'.cap] 25)) 25 [.string k.name, .int .i64 k.limit, .int .i64 k.within, .slice k.Ac k.cases.length k.cc, .slice k.A k.sts.length k.cap]
    have HF7 := Troupe.hid F7
    have HF9 := Troupe.hid F9
    have HBX := Troupe.hid bx
    have HBY := Troupe.hid b_y
    clear F6 F7 F9 bx b_y
    go_wp2_with fail
    refine ⟨Cls.of HF7.out, ?_⟩
    refine wpPlan_read rfl (fun K hK => ?_); go_simp; refine hK _ ?_; clear hK K
    refine wpPlan_one rfl ?_
    go_wp2_with fail
    refine ⟨Cls.of HF9.out, ?_⟩
    refine wpPlan_read rfl (fun K hK => ?_); go_simp; refine hK _ ?_; clear hK K
    refine wpPlan_tail ?_
    simp only [List.drop_succ_cons, List.drop_zero]
    generalize (w6.alloc (.cells #[.string k'.name, .int .i64 k'.limit, .int .i64 k'.within, .slice k'.Ac k'.cases.length k'.cc, .slice k'.A k'.sts.length k'.cap] 25)).alloc (.cells #[.string k.name, .int .i64 k.limit, .int .i64 k.within, .slice k.Ac k.cases.length k.cc, .slice k.A k.sts.length k.cap] 25) = w9 at *
    clear HF7
    generalize w6.heap.size + 1 = gy at *
    generalize w6.heap.size = gx at *
    rotate_left
    have F7 := F6.alloc F6.size (.cells #[.string k.name, .int .i64 k.limit, .int .i64 k.within, .slice k.Ac k.cases.length k.cc, .slice k.A k.sts.length k.cap] 25)
    have F9 : Below w4.heap.size w4 ((w6.alloc (.cells #[.string k.name, .int .i64 k.limit, .int .i64 k.within, .slice k.Ac k.cases.length k.cc, .slice k.A k.sts.length k.cap] 25)).alloc (.cells #[.string k'.name, .int .i64 k'.limit, .int .i64 k'.within, .slice k'.Ac k'.cases.length k'.cc, .slice k'.A k'.sts.length k'.cap] 25)) := F7.alloc F7.size _
    have bx : Blk ((w6.alloc (.cells #[.string k.name, .int .i64 k.limit, .int .i64 k.within, .slice k.Ac k.cases.length k.cc, .slice k.A k.sts.length k.cap] 25)).alloc (.cells #[.string k'.name, .int .i64 k'.limit, .int .i64 k'.within, .slice k'.Ac k'.cases.length k'.cc, .slice k'.A k'.sts.length k'.cap] 25)) (w6.heap.size + 1) 25 [.string k'.name, .int .i64 k'.limit, .int .i64 k'.within, .slice k'.Ac k'.cases.length k'.cc, .slice k'.A k'.sts.length k'.cap] := by simpa using Blk.new (w6.alloc (.cells #[.string k.name, .int .i64 k.limit, .int .i64 k.within, .slice k.Ac k.cases.length k.cc, .slice k.A k.sts.length k.cap] 25)) 25 [.string k'.name, .int .i64 k'.limit, .int .i64 k'.within, .slice k'.Ac k'.cases.length k'.cc, .slice k'.A k'.sts.length k'.cap]
    have b_y : Blk ((w6.alloc (.cells #[.string k.name, .int .i64 k.limit, .int .i64 k.within, .slice k.Ac k.cases.length k.cc, .slice k.A k.sts.length k.cap] 25)).alloc (.cells #[.string k'.name, .int .i64 k'.limit, .int .i64 k'.within, .slice k'.Ac k'.cases.length k'.cc, .slice k'.A k'.sts.length k'.cap] 25)) w6.heap.size 25 [.string k.name, .int .i64 k.limit, .int .i64 k.within, .slice k.Ac k.cases.length k.cc, .slice k.A k.sts.length k.cap] := (Blk.new w6 25 [.string k.name, .int .i64 k.limit, .int .i64 k.within, .slice k.Ac k.cases.length k.cc, .slice k.A k.sts.length k.cap]).alloc (.cells #[.string k'.name, .int .i64 k'.limit, .int .i64 k'.within, .slice k'.Ac k'.cases.length k'.cc, .slice k'.A k'.sts.length k'.cap] 25)
    have HF7 := Troupe.hid F7
    have HF9 := Troupe.hid F9
    have HBX := Troupe.hid bx
    have HBY := Troupe.hid b_y
    clear F6 F7 F9 bx b_y
    go_wp2_with fail
    refine ⟨Cls.of HF7.out, ?_⟩
    refine wpPlan_read rfl (fun K hK => ?_); go_simp; refine hK _ ?_; clear hK K
    refine wpPlan_one rfl ?_
    go_wp2_with fail
    refine ⟨Cls.of HF9.out, ?_⟩
    refine wpPlan_read rfl (fun K hK => ?_); go_simp; refine hK _ ?_; clear hK K
    refine wpPlan_tail ?_
    simp only [List.drop_succ_cons, List.drop_zero]
    generalize (w6.alloc (.cells #[.string k.name, .int .i64 k.limit, .int .i64 k.within, .slice k.Ac k.cases.length k.cc, .slice k.A k.sts.length k.cap] 25)).alloc (.cells #[.string k'.name, .int .i64 k'.limit, .int .i64 k'.within, .slice k'.Ac k'.cases.length k'.cc, .slice k'.A k'.sts.length k'.cap] 25) = w9 at *
    clear HF7
    generalize w6.heap.size + 1 = gx at *
    generalize w6.heap.size = gy at *
    all_goals
      have B9 := B4.out.trans (HF9.out.mono hz4)
      have HB9 := Troupe.hid B9
      have ho9 := HO4.out.below HF9.out
      have hk9 := (HKK.out.below B9).mono B9.size
      have hc9 := ((HC.out.below B9).mono B9.size)
      have PS : Calls Try.prog 25 #[.agg #[.slice (some ⟨gx, 0, none⟩) 1 1], .agg #[.slice (some ⟨gy, 0, none⟩) 1 1]] w9 fun e w' => e = .returned (.bool true) ∧ Below w9.heap.size w9 w' :=
        psame_eq [k'] [k] (some ⟨gx, 0, none⟩) (some ⟨gy, 0, none⟩) 1 1 w9 (SameK.one (SameK.symm _ _ HS.out)) (by
          have := HBX.out.blk_cells.mono HBX.out.lt
          simpa [flatK, Kf.cells] using this) (by
          have := HBY.out.blk_cells.mono HBY.out.lt
          simpa [flatK, Kf.cells] using this) (fun x hx => by
          rw [List.mem_singleton] at hx; subst hx
          exact ho9.in_ HS.out HKK.out) (fun x hx => by
          rw [List.mem_singleton] at hx; subst hx
          exact hk9) (by simp)
      have HPS := Troupe.hid PS
      have KK9 := Troupe.hid (KK4.out.below HF9.out KK4.out.lt)
      have HO9 := Troupe.hid ho9
      clear B9 ho9 hk9 hc9 PS HBX HBY hne
      go_wp2_with fail
      refine HPS.out.mono ?_
      rintro e w10 ⟨rfl, hb10⟩
      have B10 := HB9.out.trans (hb10.mono HB9.out.size)
      have HB10 := Troupe.hid B10
      have kk10 := KK9.out.below hb10 KK9.out.lt
      have KK10 := Troupe.hid kk10
      have e10 := kk10.cell
      have ho10 := HO9.out.below hb10
      have HO10 := Troupe.hid ho10
      have RW := Troupe.hid (row_any k'.kd state tag n w10 (ho10.in_ HS.out HKK.out).kd)
      dsimp only [Kd.val, Kf.kd] at RW
      clear hb10 B10 kk10 ho10 HPS KK9 HO9
      go_wp2_with fail
      refine RW.out.mono ?_
      rintro e w11 ⟨hb11, hr11⟩
      have B11 := HB10.out.trans (hb11.mono HB10.out.size)
      have HB11 := Troupe.hid B11
      have kk11 := KK10.out.below hb11 KK10.out.lt
      have KK11 := Troupe.hid kk11
      have HO11 := Troupe.hid (HO10.out.below hb11)
      clear hb11 B11 e10 RW kk11
      cases hrv : rowV k'.sts state tag n with
      | none =>
        have hr12 : e = .returned (.tuple #[.agg #[.string noS, .bool false, .int .i64 0, .slice none 0 0], .bool false]) := by
          have h := hr11
          unfold Kf.kd at h
          rw [hrv] at h
          exact h
        subst hr12
        have F12 : Below w11.heap.size w11 (w11.alloc (.cells #[.string noS, .bool false, .int .i64 0, .slice none 0 0] 47)) := (Below.refl _ _).alloc (Nat.le_refl _) _
        have HB12 := Troupe.hid (HB11.out.trans (F12.mono HB11.out.size))
        have K12 := Troupe.hid (KK11.out.below F12 KK11.out.lt)
        have R12 := Troupe.hid (Blk.new w11 47 [.string noS, .bool false, .int .i64 0, .slice none 0 0])
        have e12 := K12.out.cell
        have RR := Troupe.hid (rrow_any k'.kd state tag n _ ((HO11.out.below F12).in_ HS.out HKK.out).kd)
        have HRV := Troupe.hid hrv
        dsimp only [Kd.val, Kf.kd] at RR
        clear F12 hr11 hrv
        go_wp2_with fail
        generalize w11.alloc (.cells #[.string noS, .bool false, .int .i64 0, .slice none 0 0] 47) = w12 at *
        refine RR.out.mono ?_
        rintro e w13 ⟨⟨a, b2, rfl, hat⟩, hb13⟩
        have hb2 : b2 = -1 := by
          rcases hat with ⟨h, -⟩ | ⟨_, _, _, _, -, -, -, -, h⟩
          · exact h
          · rw [HRV.out] at h; cases h
        subst hb2
        have HB13 := Troupe.hid (HB12.out.trans (hb13.mono HB12.out.size))
        have e13 := (R12.out.below hb13 R12.out.lt).cell
        have hno : noS.toList = [] := by rw [ByteArray.toList_eq]; rfl
        clear hb13 hat RR e12
        go_wp2_with fail
        go_ret
        exact ⟨rfl, HB13.out⟩
      | some r =>
        have hr12 : ∃ v, e = .returned (.tuple #[.agg #[.string r.tag, .bool r.only, .int .i64 r.n, v], .bool true]) ∧ w11.ownsRow w10.heap.size 36 7 v r.effs.length (flatE r.effs) := by
          have h := hr11
          unfold Kf.kd at h
          rw [hrv] at h
          exact h
        obtain ⟨v, rfl, hov⟩ := hr12
        obtain ⟨Av, cv, rfl, hlv, hmv, -, -, -⟩ := own_form hov
        have F12 : Below w11.heap.size w11 (w11.alloc (.cells #[.string r.tag, .bool r.only, .int .i64 r.n, .slice Av r.effs.length cv] 47)) := (Below.refl _ _).alloc (Nat.le_refl _) _
        have HB12 := Troupe.hid (HB11.out.trans (F12.mono HB11.out.size))
        have K12 := Troupe.hid (KK11.out.below F12 KK11.out.lt)
        have R12 := Troupe.hid (Blk.new w11 47 [.string r.tag, .bool r.only, .int .i64 r.n, .slice Av r.effs.length cv])
        have HOV := Troupe.hid (own_below hov F12)
        have HO12 := Troupe.hid (HO11.out.below F12)
        have e12 := K12.out.cell
        have RR := Troupe.hid (rrow_any k'.kd state tag n _ ((HO11.out.below F12).in_ HS.out HKK.out).kd)
        have HRV := Troupe.hid hrv
        dsimp only [Kd.val, Kf.kd] at RR
        clear F12 hr11 hrv hov
        go_wp2_with fail
        generalize w11.alloc (.cells #[.string r.tag, .bool r.only, .int .i64 r.n, .slice Av r.effs.length cv] 47) = w12 at *
        refine RR.out.mono ?_
        rintro e w13 ⟨⟨a', b', rfl, hat⟩, hb13⟩
        obtain ⟨a, b2, s, ha, hb2, hsa, hrb⟩ : ∃ (a b2 : Nat) (s : St), a' = a ∧ b' = b2 ∧ k'.sts[a]? = some s ∧ s.rows[b2]? = some r := by
          rcases hat with ⟨-, h⟩ | ⟨a, b2, s, r', h1, h2, h3, h4, h5⟩
          · rw [HRV.out] at h; cases h
          · rw [HRV.out] at h5
            cases h5
            exact ⟨a, b2, s, h1, h2, h3, h4⟩
        subst ha hb2
        have HB13 := Troupe.hid (HB12.out.trans (hb13.mono HB12.out.size))
        have k13 := K12.out.below hb13 K12.out.lt
        have r13 := R12.out.below hb13 R12.out.lt
        have R13 := Troupe.hid r13
        have e13 := k13.cell
        have f13 := r13.cell
        have ho13 := HO12.out.below hb13
        have hov13 := own_below HOV.out hb13
        obtain ⟨b3, o3, hA3, -, hc3⟩ := cells_at (sz := 2) (fun _ => rfl) (by decide) (own_cells ho13.sts) hsa
        have hos := ho13.all s (List.mem_of_getElem? hsa)
        obtain ⟨b4, o4, hA4, -, hc4⟩ := cells_at (sz := 4) (fun _ => rfl) (by decide) (own_cells hos.1) hrb
        have hor := hos.2 r (List.mem_of_getElem? hrb)
        have s1 : w13.cell? ⟨b3, o3 + a * 2 + 1, none⟩ = some (.slice s.A s.rows.length s.cap) := hc3 1 (by decide) _ rfl
        have q0 : w13.cell? ⟨b4, o4 + b2 * 4, none⟩ = some (.string r.tag) := hc4 0 (by decide) _ rfl
        have q1 : w13.cell? ⟨b4, o4 + b2 * 4 + 1, none⟩ = some (.bool r.only) := hc4 1 (by decide) _ rfl
        have q2 : w13.cell? ⟨b4, o4 + b2 * 4 + 2, none⟩ = some (.int .i64 r.n) := hc4 2 (by decide) _ rfl
        have q3 : w13.cell? ⟨b4, o4 + b2 * 4 + 3, none⟩ = some (.slice r.A r.effs.length r.cap) := hc4 3 (by decide) _ rfl
        have la : a < k'.sts.length := (List.getElem?_eq_some_iff.1 hsa).1
        have lb : b2 < s.rows.length := (List.getElem?_eq_some_iff.1 hrb).1
        have la3 : a < 140737488355328 := by have := HS.out.sts.len; have := HKK.out.2.2.2.2; omega
        have lb3 : b2 < 140737488355328 := by
          obtain ⟨s0, hs0, hss⟩ := HS.out.sts.mem (List.mem_of_getElem? hsa)
          have := hss.rows.len
          have := (HKK.out.2.2.2.1 s0 hs0).2.2.2
          omega
        rw [hA3] at e13
        rw [hA4] at s1
        have C1 := Troupe.hid (own_cells hov13)
        have C2 := Troupe.hid (own_cells hor)
        have lr : r.effs.length ≤ 9223372036854775807 := by unfold maxLen at hmv; omega
        clear hb13 hat RR e12 hsa hrb hc3 hc4 hor hos k13 r13 ho13 hov13 hA3 hA4 hlv hmv
        have F14 : Below w13.heap.size w13 (w13.alloc (.cells #[.string r.tag, .bool r.only, .int .i64 r.n, .slice r.A r.effs.length r.cap] 47)) := (Below.refl _ _).alloc (Nat.le_refl _) _
        have HB14 := Troupe.hid (HB13.out.trans (F14.mono HB13.out.size))
        have R14 := Troupe.hid (R13.out.below F14 R13.out.lt)
        have Q14 := Troupe.hid (Blk.new w13 47 [.string r.tag, .bool r.only, .int .i64 r.n, .slice r.A r.effs.length r.cap])
        have C14 := Troupe.hid ((C1.out.below F14).mono F14.size)
        have D14 := Troupe.hid ((C2.out.below F14).mono F14.size)
        clear F14
        go_upto_region 15 with (fail)
        clear q0 q1 q2 q3 s1 e13 f13
        generalize w13.alloc (.cells #[.string r.tag, .bool r.only, .int .i64 r.n, .slice r.A r.effs.length r.cap] 47) = w14 at *
        generalize w13.heap.size = g20 at *
        generalize w11.heap.size = g16 at *
        have f14 := R14.out.cell
        have p14 := Q14.out.cell
        go_wp2_with fail
        clear f14 p14
        go_loopw [21] (fun v21 wr => ∃ m : Nat, v21 = .int .i64 m ∧ m ≤ r.effs.length ∧ Below w14.heap.size w14 wr) (fun v21 _ => r.effs.length - (intOf v21).toNat)
        case atStart => exact ⟨0, rfl, Nat.zero_le _, Below.refl _ _⟩
        case round =>
          obtain ⟨m, rfl, hm, hb⟩ := hrel
          obtain ⟨wb, rfl⟩ : ∃ wb : World, wb = wr := ⟨_, rfl⟩
          have HBB := Troupe.hid hb
          clear hb
          have ex := (R14.out.below HBB.out R14.out.lt).cell
          have ey := (Q14.out.below HBB.out Q14.out.lt).cell
          by_cases hml : m < r.effs.length
          · obtain ⟨e, he⟩ : ∃ e, r.effs[m]? = some e := ⟨_, List.getElem?_eq_getElem hml⟩
            have hm3 : m < 9223372036854775807 := by omega
            go_upto_region 20 with (fail)
            refine region_still (by kernel_rfl) (by kernel_rfl) ?_
            intro w' hh hf
            have HB3 := Troupe.hid (HBB.out.trans (hf.below HBB.out.size (fun _ h => h.elim)))
            obtain ⟨b5, off, hA, _, hc⟩ := cells_at (sz := 7) (fun _ => rfl) (by decide) (C14.out.below HB3.out) he
            obtain ⟨b5', off', hA', _, hc'⟩ := cells_at (sz := 7) (fun _ => rfl) (by decide) (D14.out.below HB3.out) he
            have ex := (R14.out.below HB3.out R14.out.lt).cell
            have ey := (Q14.out.below HB3.out Q14.out.lt).cell
            rw [hA] at ex
            rw [hA'] at ey
            obtain ⟨d, ref, slot, name, v, q, delay⟩ := e
            have c0 : w'.cell? ⟨b5, off + m * 7, none⟩ = some (.int .i64 d) := hc 0 (by decide) _ rfl
            have c1 : w'.cell? ⟨b5, off + m * 7 + 1, none⟩ = some (.string ref) := hc 1 (by decide) _ rfl
            have c2 : w'.cell? ⟨b5, off + m * 7 + 2, none⟩ = some (.string slot) := hc 2 (by decide) _ rfl
            have c3 : w'.cell? ⟨b5, off + m * 7 + 3, none⟩ = some (.string name) := hc 3 (by decide) _ rfl
            have c4 : w'.cell? ⟨b5, off + m * 7 + 4, none⟩ = some (.int .i64 v) := hc 4 (by decide) _ rfl
            have c5 : w'.cell? ⟨b5, off + m * 7 + 5, none⟩ = some (.int .i64 q) := hc 5 (by decide) _ rfl
            have c6 : w'.cell? ⟨b5, off + m * 7 + 6, none⟩ = some (.int .i64 delay) := hc 6 (by decide) _ rfl
            have d0 : w'.cell? ⟨b5', off' + m * 7, none⟩ = some (.int .i64 d) := hc' 0 (by decide) _ rfl
            have d1 : w'.cell? ⟨b5', off' + m * 7 + 1, none⟩ = some (.string ref) := hc' 1 (by decide) _ rfl
            have d2 : w'.cell? ⟨b5', off' + m * 7 + 2, none⟩ = some (.string slot) := hc' 2 (by decide) _ rfl
            have d3 : w'.cell? ⟨b5', off' + m * 7 + 3, none⟩ = some (.string name) := hc' 3 (by decide) _ rfl
            have d4 : w'.cell? ⟨b5', off' + m * 7 + 4, none⟩ = some (.int .i64 v) := hc' 4 (by decide) _ rfl
            have d5 : w'.cell? ⟨b5', off' + m * 7 + 5, none⟩ = some (.int .i64 q) := hc' 5 (by decide) _ rfl
            have d6 : w'.cell? ⟨b5', off' + m * 7 + 6, none⟩ = some (.int .i64 delay) := hc' 6 (by decide) _ rfl
            clear hc hc' he hA hA'
            repeat still_step
            refine wpStill_nil ?_
            go_wp2_with fail
            go_roundw
            case rel => exact ⟨m + 1, by go_num, by omega, HB3.out⟩
            case measure => simp [intOf]; omega
          · have hml' : m = r.effs.length := by omega
            subst hml'
            have HW := Troupe.hid (HB14.out.trans (HBB.out.mono HB14.out.size))
            go_wp2_with fail
            go_ret
            exact ⟨rfl, HW.out⟩
end Go.Proofs.Ytfeeajodgcdflaa
