/- The rule of spawning, by contract. -/
import Derived.Test.YtkjjhndccelbcaaNoRoom
import Derived.Test.YtkjjhndccelbcaaSent
import Derived.Test.YtkjjhndccelbcaaUpG
import Derived.Test.YtkjjhndccelbcaaStartLaws
import Derived.Test.YtkjjhndccelbcaaPlan
namespace Go.Proofs.Ytkjjhndccelbcaa
open Go.RowKit Go.Maps Go.Troupe
attribute [local go_sem] reads readAt readUpon Cls quietU pick_and' pick_or' pick_or'' pick_and2 pick_and3 pick_and4 pick_and4' pick_or2

/-- A kind that was sought: where its copy lies, and whether there is one. -/
def FoundMade (ks : List Kf) (name : ByteArray) (base : Nat) (w : World) (v5 v6 : Value) (w' : World) : Prop :=
  ∃ (gk : Nat) (k' : Kf), v5 = .pointer (some ⟨gk, 0, none⟩) ∧ v6 = .bool (findV ks name).isSome ∧ Blk w' gk 67 k'.cells ∧ SameK (foundV ks name) k' ∧ KOwn w' base k' ∧ Below w.heap.size w w'
theorem info76 : (Try.prog.info? 76).map (fun i => (i.zero, i.size, i.bytes)) = some (some (.pointer none), 1, 8) := by kernel_rfl
theorem broken3 (a b c : Bool) (h : brokenV [⟨1, a⟩, ⟨7, b⟩, ⟨7, c⟩] = 0) : a = true ∧ b = true ∧ c = true := by revert h; cases a <;> cases b <;> cases c <;> simp [brokenV]
set_option pp.deepTerms true in
set_option pp.maxSteps 1000000 in
set_option maxRecDepth 100000 in
set_option maxHeartbeats 8000000 in
theorem spawned_any {w : World} {base gb ca cl : Nat} {Ak Aa Al : Option Addr} {ck : Nat} {bk : Bk} {ag lg : List Nat} {ks : List Kf} (h : BookAt w base gb (.slice Ak ks.length ck) Aa ca Al cl bk ag lg) (hw : base ≤ w.heap.size) (e : Ev) (hl : bk.acs.length ≤ 14073748835532)
    (hc : Cells w w.heap.size Ak (flatK ks)) (hk : KindsIn w w.heap.size ks) (hkl : ks.length ≤ 140737488355328) (hks : ks ≠ []) (hst : ∀ k ∈ ks, k.sts ≠ []) :
    Calls Try.prog 21 #[.pointer (some ⟨gb, 0, none⟩), .agg e.cells.toArray] w (Ruled w base gb (.slice Ak ks.length ck) (spawnedV ks bk e)) := by
  have F0 : Below w.heap.size w (w.alloc (.cells #[.int .i64 e.kd, .int .i64 e.actor, .int .u64 e.id, .int .i64 e.src, .int .i64 e.dst, .string e.name, .int .i64 e.n, .int .i64 e.why, .bool e.timed] 32)) := (Below.refl _ _).alloc (Nat.le_refl _) _
  have K0 : Blk (w.alloc (.cells #[.int .i64 e.kd, .int .i64 e.actor, .int .u64 e.id, .int .i64 e.src, .int .i64 e.dst, .string e.name, .int .i64 e.n, .int .i64 e.why, .bool e.timed] 32)) w.heap.size 32 e.cells := Blk.new _ _ _
  have H0 := Troupe.hid (h.below F0)
  have HF := Troupe.hid F0
  have HK := Troupe.hid K0
  have hz := F0.size
  have HC := Troupe.hid hc
  have HKI := Troupe.hid hk
  have HST := Troupe.hid hst
  dsimp only [Ev.cells]
  clear h F0 K0 hc hk hst
  go_enter Try.func21, Try.ntmps21
  go_upto_region 1 with (fail)
  generalize w.alloc (.cells #[.int .i64 e.kd, .int .i64 e.actor, .int .u64 e.id, .int .i64 e.src, .int .i64 e.dst, .string e.name, .int .i64 e.n, .int .i64 e.why, .bool e.timed] 32) = w0 at *
  obtain ⟨kd, actor, id', src, dst, name, n, why, timed⟩ := e
  dsimp only at *
  go_cut [5, 6] from 5 to 19 (fun v5 v6 w' => FoundMade ks name w.heap.size w0 v5 v6 w')
  case first =>
    let S0 : World → Prop := fun w2 => Below w0.heap.size w0 w2
    have hne : Nonempty (SW S0) := ⟨⟨w0, Below.refl _ _⟩⟩
    have f5 : ∀ x : SW S0, x.w.cell? ⟨w.heap.size, 5, none⟩ = some (.string name) := fun x => (HK.out.below x.h HK.out.lt).cell 5
    have fb : ∀ x : SW S0, x.w.cell? ⟨gb, 0, none⟩ = some (.slice Ak ks.length ck) := fun x => (H0.out.blk.below x.h H0.out.blk.lt).cell 0
    refine region_plan (S := Cls S0) (.read 0 (.read 1 (.read 2 (.read 3 (.read 4 (.read 5 (.two 6 (.read 7 (.read 8 (.read 9 (.one 10 (.one 11 .tail))))) 10 (.one 6 (.read 7 (.read 8 (.read 9 (.one 11 .tail)))))))))))) 12 (by kernel_rfl) (by kernel_rfl) (fun _ _ d _ _ h => by cases d <;> exact h) ?_
    intro w1 hh o1' o2' o3'
    have F1 : Below w0.heap.size w0 w1 := (Frm.of_heap (S := fun _ => False) hh o1' o2' o3').below (Nat.le_refl _) (fun _ h => h.elim)
    clear hh o1' o2' o3'
    refine ⟨Cls.of F1, ?_⟩
    iterate 6 (refine wpPlan_read rfl (fun K hK => ?_); go_simp; refine hK _ ?_; clear hK K)
    have B1 := Troupe.hid (HF.out.trans (F1.mono hz))
    have HF1 := Troupe.hid F1
    clear F1
    refine wpPlan_two rfl rfl ?_ ?_
    have FD := Troupe.hid (find_any Ak ck ks name w1 ((HC.out.below B1.out).mono B1.out.size) ((HKI.out.below B1.out).mono B1.out.size) hkl)
    go_wp2_with fail
    refine FD.out.mono ?_
    rintro en w2 hfd
    obtain ⟨hb2, k', rfl, hsk, hok'⟩ := found_one hfd
    have HSK := Troupe.hid hsk
    have HOK' := Troupe.hid (hok'.base B1.out.size)
    have F2 := Troupe.hid (HF1.out.trans (hb2.mono HF1.out.size))
    obtain ⟨okb, hok⟩ : ∃ b, (findV ks name).isSome = b := ⟨_, rfl⟩
    rw [hok]
    have HOK := Troupe.hid hok
    dsimp only [Kf.val]
    clear hfd hb2 hok FD hsk hok'
    go_wp2_with fail
    refine ⟨Cls.of F2.out, ?_⟩
    iterate 3 (refine wpPlan_read rfl (fun K hK => ?_); go_simp; refine hK _ ?_; clear hK K)
    have FZ : Below w2.heap.size w2 (w2.alloc (.cells #[.string ⟨#[]⟩, .int .i64 0, .int .i64 0, .slice none 0 0, .slice none 0 0] 67)) := (Below.refl _ _).alloc (Nat.le_refl _) _
    have F3 := Troupe.hid (F2.out.trans (FZ.mono F2.out.size))
    have HBZ : Hid (Blk (w2.alloc (.cells #[.string ⟨#[]⟩, .int .i64 0, .int .i64 0, .slice none 0 0, .slice none 0 0] 67)) w2.heap.size 67 zK) := Blk.new _ _ _
    have HOK3 := Troupe.hid (HOK'.out.below FZ)
    have hgk : w0.heap.size ≤ w2.heap.size := F2.out.size
    clear FZ
    refine wpPlan_one rfl ?_
    go_wp2_with fail
    refine ⟨Cls.of F3.out, ?_⟩
    generalize w2.alloc (.cells #[.string ⟨#[]⟩, .int .i64 0, .int .i64 0, .slice none 0 0, .slice none 0 0] 67) = w3 at *
    generalize w2.heap.size = gk at *
    rotate_left
    have FZ : Below w1.heap.size w1 (w1.alloc (.cells #[.string ⟨#[]⟩, .int .i64 0, .int .i64 0, .slice none 0 0, .slice none 0 0] 67)) := (Below.refl _ _).alloc (Nat.le_refl _) _
    have HF1a := Troupe.hid (HF1.out.trans (FZ.mono HF1.out.size))
    have B1a := Troupe.hid (HF.out.trans (HF1a.out.mono hz))
    have HBZ0 : Hid (Blk (w1.alloc (.cells #[.string ⟨#[]⟩, .int .i64 0, .int .i64 0, .slice none 0 0, .slice none 0 0] 67)) w1.heap.size 67 zK) := Blk.new _ _ _
    have hgk : w0.heap.size ≤ w1.heap.size := HF1.out.size
    clear FZ
    go_wp2_with fail
    refine ⟨Cls.of HF1a.out, ?_⟩
    generalize w1.alloc (.cells #[.string ⟨#[]⟩, .int .i64 0, .int .i64 0, .slice none 0 0, .slice none 0 0] 67) = w1a at *
    generalize w1.heap.size = gk at *
    refine wpPlan_one rfl ?_
    have FD := Troupe.hid (find_any Ak ck ks name w1a ((HC.out.below B1a.out).mono B1a.out.size) ((HKI.out.below B1a.out).mono B1a.out.size) hkl)
    go_wp2_with fail
    refine FD.out.mono ?_
    rintro en w2 hfd
    obtain ⟨hb2, k', rfl, hsk, hok'⟩ := found_one hfd
    have HSK := Troupe.hid hsk
    have HOK' := Troupe.hid (hok'.base B1a.out.size)
    have F2 := Troupe.hid (HF1a.out.trans (hb2.mono HF1a.out.size))
    have HBZ := Troupe.hid (HBZ0.out.below hb2 HBZ0.out.lt)
    obtain ⟨okb, hok⟩ : ∃ b, (findV ks name).isSome = b := ⟨_, rfl⟩
    rw [hok]
    have HOK := Troupe.hid hok
    dsimp only [Kf.val]
    clear hfd hb2 hok FD hsk hok'
    go_wp2_with fail
    refine ⟨Cls.of F2.out, ?_⟩
    iterate 3 (refine wpPlan_read rfl (fun K hK => ?_); go_simp; refine hK _ ?_; clear hK K)
    obtain ⟨w3, rfl⟩ : ∃ w3 : World, w3 = w2 := ⟨_, rfl⟩
    have F3 := F2
    have HOK3 := HOK'
    all_goals
      have cz := HBZ.out.cell
      have fz := HBZ.out.frozen
      dsimp only [zK] at cz
      obtain ⟨s1, s2⟩ := set5 (a := .string ⟨#[]⟩) (b := .int .i64 0) (c := .int .i64 0) (d := .slice none 0 0) (e := .slice none 0 0) HBZ.out (.string k'.name) (.int .i64 k'.limit) (.int .i64 k'.within) (.slice k'.Ac k'.cases.length k'.cc) (.slice k'.A k'.sts.length k'.cap)
      have F4 := Troupe.hid (F3.out.trans (s2.below F3.out.size (fun x hx => by omega)))
      have HBK := Troupe.hid s1
      have HOK4 := Troupe.hid (HOK3.out.frm67 HBZ.out s2)
      clear s1 s2
      refine wpPlan_one rfl ?_
      go_wp2_with fail
      refine ⟨Cls.of F4.out, ?_⟩
      refine wpPlan_tail ?_
      simp only [List.drop_succ_cons, List.drop_zero]
      clear cz fz f5 fb hne
      go_wp2_with fail
      go_meet
      case rel => exact ⟨gk, k', rfl, by rw [HOK.out], HBK.out, HSK.out, HOK4.out, F4.out⟩

  case rest =>
  obtain ⟨gk, k', rfl, rfl, hbk, hsk, hok, hwc⟩ := hcut
  obtain ⟨w1, rfl⟩ : ∃ w1 : World, w1 = wc := ⟨_, rfl⟩
  have H1 := Troupe.hid (H0.out.below hwc)
  have K1 := Troupe.hid (HK.out.below hwc HK.out.lt)
  have B1 := Troupe.hid (HF.out.trans (hwc.mono hz))
  have hz1 : w.heap.size ≤ w1.heap.size := B1.out.size
  have HBK := Troupe.hid hbk
  have HSK := Troupe.hid hsk
  have HOK := Troupe.hid hok
  obtain ⟨okb, hokb⟩ : ∃ b, (findV ks name).isSome = b := ⟨_, rfl⟩
  rw [hokb]
  have HOKB := Troupe.hid hokb
  obtain ⟨k0, hk0⟩ : ∃ k0, ks[0]? = some k0 := ⟨_, List.getElem?_eq_getElem (List.length_pos_iff.2 hks)⟩
  have HK0 := Troupe.hid hk0
  obtain ⟨rt, hrt⟩ : ∃ b, (actor == 1 && src == 0 && (name.toList == k0.name.toList)) = b := ⟨_, rfl⟩
  have HRT := Troupe.hid hrt
  obtain ⟨f, hf⟩ : ∃ b, bk.acs.isEmpty = b := ⟨_, rfl⟩
  have HFE := Troupe.hid hf
  obtain ⟨la, hla⟩ : ∃ la, ag.length = la := ⟨_, rfl⟩
  have hfl2 : ((la : Int) == 0) = f := by
    rw [← hf, ← hla, H1.out.la]
    cases bk.acs with
    | nil => rfl
    | cons x l => simp; omega
  have HFL2 := Troupe.hid hfl2
  have HLA := Troupe.hid hla
  have g1 : w1.cell? ⟨gb, 1, none⟩ = some (.slice Aa la ca) := by rw [← hla]; exact H1.out.blk.cell 1
  clear hwc H0 HK HF hbk hsk hok hokb hk0 hrt hf hla
  go_upto_region 3 with (fail)
  obtain ⟨r1, hr1⟩ : ∃ b, (actor == 1) = b := ⟨_, rfl⟩
  obtain ⟨r2, hr2⟩ : ∃ b, (src == 0) = b := ⟨_, rfl⟩
  obtain ⟨r3, hr3⟩ : ∃ b, (name.toList == k0.name.toList) = b := ⟨_, rfl⟩
  have HR1 := Troupe.hid hr1
  have HR2 := Troupe.hid hr2
  have HR3 := Troupe.hid hr3
  obtain ⟨bk0, off0, rfl, hbl0, hcl0⟩ := cells_at (sz := 5) (fun _ => rfl) (by decide) HC.out HK0.out
  have hk00 : w.cell? ⟨bk0, off0, none⟩ = some (.string k0.name) := by have := hcl0 0 (by decide) _ rfl; simpa using this
  have HK00 := Troupe.hid hk00
  clear hcl0 hk00 g1 hfl2
  go_cut [8] from 8 to 46 (fun v8 w' => v8 = .bool rt ∧ Up w1 w')
  case first =>
    have hne := UW.inh w1
    have hkl0 : 0 < ks.length := List.length_pos_iff.2 hks
    have fe : ∀ (x : UW w1) (i : Nat), x.w.cell? ⟨w.heap.size, i, none⟩ = (Ev.cells ⟨kd, actor, id', src, dst, name, n, why, timed⟩)[i]? := fun x => (K1.out.below x.h K1.out.lt).cell
    have fb0 : ∀ x : UW w1, x.w.cell? ⟨gb, 0, none⟩ = some (.slice (some ⟨bk0, off0, none⟩) ks.length ck) := fun x => (H1.out.blk.below x.h H1.out.blk.lt).cell 0
    have fk : ∀ x : UW w1, x.w.cell? ⟨bk0, off0, none⟩ = some (.string k0.name) := fun x => ((B1.out.trans (x.h.mono hz1)).cell (p := ⟨bk0, off0, none⟩) hbl0).trans HK00.out
    dsimp only [Ev.cells] at fe
    refine region_up (.q 0 (.q 1 (.q 2 (.q 3 (.q 4 (.q 5 (.q 6 (.q 7 (.q 8 (.q 9 (.q 10 (.q 11 (.q 12 (.q 13 (.q 14 (.q 15 (.q 16 (.q 17 (.q 18 (.q 19 (.q 20 (.q 21 .done)))))))))))))))))))))) (by kernel_rfl) (by kernel_rfl) (fun _ _ d _ _ h => by cases d <;> exact h) ?_
    iterate 4 (refine wpUP_q rfl (fun K hK => ?_); go_simp; refine hK _ ?_; clear hK K)
    apply wpUP_g2 rfl
    case hb => intro F hF; go_simp; exact hF
    case h1 => intro hb K hK; go_simp; exact hK
    apply wpUP_g2 rfl
    case hb => intro F hF; go_simp; exact hF
    case h1 => intro hb K hK; go_simp; exact hK
    apply wpUP_g2 rfl
    case hb => intro F hF; go_simp; exact hF
    case h1 => intro hb K hK; go_simp; exact hK
    iterate 2 (refine wpUP_q rfl (fun K hK => ?_); go_simp; refine hK _ ?_; clear hK K)
    apply wpUP_g2 rfl
    case hb => intro F hF; go_simp; exact hF
    case h1 => intro hb K hK; go_simp; exact hK
    apply wpUP_g2 rfl
    case hb => intro F hF; go_simp; exact hF
    case h1 => intro hb K hK; go_simp; exact hK
    apply wpUP_g2 rfl
    case hb => intro F hF; go_simp; exact hF
    case h1 => intro hb K hK; go_simp; exact hK
    apply wpUP_g2 rfl
    case hb => intro F hF; go_simp; exact hF
    case h1 => intro hb K hK; go_simp; exact hK
    apply wpUP_g2 rfl
    case hb => intro F hF; go_simp; exact hF
    case h1 => intro hb K hK; go_simp; exact hK
    apply wpUP_g2 rfl
    case hb => intro F hF; go_simp; exact hF
    case h1 => intro hb K hK; go_simp; exact hK
    apply wpUP_g2 rfl
    case hb => intro F hF; go_simp; exact hF
    case h1 => intro hb K hK; go_simp; exact hK
    apply wpUP_g2 rfl
    case hb => intro F hF; go_simp; exact hF
    case h1 => intro hb K hK; go_simp; exact hK
    apply wpUP_g2 rfl
    case hb => intro F hF; go_simp; exact hF
    case h1 => intro hb K hK; go_simp; exact hK
    apply wpUP_g2 rfl
    case hb => intro F hF; go_simp; exact hF
    case h1 => intro hb K hK; go_simp; exact hK
    apply wpUP_g2 rfl
    case hb => intro F hF; go_simp; exact hF
    case h1 => intro hb K hK; go_simp; exact hK
    iterate 2 (refine wpUP_q rfl (fun K hK => ?_); go_simp; refine hK _ ?_; clear hK K)
    refine wpUP_done ?_
    intro w5 hu5
    have U5 := Troupe.hid hu5
    clear hu5 fe fb0 fk hne hr1 hr2 hr3
    have FI : Hid ((r1 && r2 && r3) = rt) := by unfold Hid; rw [← HRT.out, HR1.out, HR2.out, HR3.out]
    go_wp2_with fail
    go_meet
    case rel => exact ⟨by rw [FI.out], U5.out⟩
  case rest =>
  obtain ⟨rfl, hwc⟩ := hcut
  obtain ⟨w2, rfl⟩ : ∃ w2 : World, w2 = wc := ⟨_, rfl⟩
  have H2 := Troupe.hid (H1.out.below hwc)
  have K2 := Troupe.hid (K1.out.below hwc K1.out.lt)
  have B2 := Troupe.hid (B1.out.trans (hwc.mono hz1))
  have hz2 : w.heap.size ≤ w2.heap.size := B2.out.size
  have HB2 := Troupe.hid (HBK.out.below hwc HBK.out.lt)
  have HO2 := Troupe.hid (HOK.out.below hwc)
  clear hwc H1 K1 B1 HBK HOK hr1 hr3
  go_step
  go_step
  have hlal : la ≤ 14073748835532 := by have h1 := HLA.out; have h2 := H2.out.la; omega
  have hwr : IntKind.i64.wrap ((la : Int) + 1) = (la : Int) + 1 := IntWalk.i64_in _ (by omega)
  obtain ⟨y, hy⟩ : ∃ b, (actor == (la : Int) + 1) = b := ⟨_, rfl⟩
  have HY := Troupe.hid hy
  obtain ⟨wk, hwk⟩ : ∃ b, worksV (acV bk.acs src) = b := ⟨_, rfl⟩
  have HWK := Troupe.hid hwk
  clear hwk
  go_cut [9] from 9 to 83 (fun v9 w' => v9 = .int .i64 (brokenV [⟨1, (f == r2) && (!f || rt)⟩, ⟨7, f || (y && wk)⟩, ⟨7, okb⟩]) ∧ Up w2 w')
  case first =>
    have hne := UW.inh w2
    have fe : ∀ (x : UW w2) (i : Nat), x.w.cell? ⟨w.heap.size, i, none⟩ = (Ev.cells ⟨kd, actor, id', src, dst, name, n, why, timed⟩)[i]? := fun x => (K2.out.below x.h K2.out.lt).cell
    have fb1 : ∀ x : UW w2, x.w.cell? ⟨gb, 1, none⟩ = some (.slice Aa la ca) := fun x => by rw [← HLA.out]; exact (H2.out.blk.below x.h H2.out.blk.lt).cell 1
    dsimp only [Ev.cells] at fe
    have AC : Hid (∀ x : UW w2, Calls Try.prog 35 #[.pointer (some ⟨gb, 0, none⟩), .int .i64 src] x.w fun en w' => en = .returned (aptr ag (acV bk.acs src)) ∧ Up x.w w') := fun x => (actor_any (H2.out.below x.h) src (by omega)).mono fun _ _ ⟨h1, h2⟩ => ⟨h1, h2 ▸ Up.refl _⟩
    have WK : Hid (∀ x : UW w2, Calls Try.prog 36 #[aptr ag (acV bk.acs src)] x.w fun en w' => en = .returned (.bool wk) ∧ Up x.w w') := fun x => (works_any (H2.out.below x.h) src).mono fun _ _ ⟨h1, h2⟩ => ⟨by rw [h1, HWK.out], h2 ▸ Up.refl _⟩
    have BRK : Hid (∀ (g : Nat) (wb : World) (c1 c2 c3 : Bool), Blk wb g 81 [.int .i64 1, .bool c1, .int .i64 7, .bool c2, .int .i64 7, .bool c3] → Calls Try.prog 38 #[.slice (some ⟨g, 0, none⟩) 3 3] wb fun en w' => en = .returned (.int .i64 (brokenV [⟨1, c1⟩, ⟨7, c2⟩, ⟨7, c3⟩])) ∧ Up wb w') := fun g wb c1 c2 c3 hb => broken_any (some ⟨g, 0, none⟩) 3 3 wb.heap.size [⟨1, c1⟩, ⟨7, c2⟩, ⟨7, c3⟩] wb rfl (by unfold maxLen; omega) (hb.blk_cells.mono hb.lt) (Nat.le_refl _)
    cases f with
    | true =>
      cases r2 with
      | true =>
        refine region_up (.q 0 (.q 1 (.q 2 (.q 3 (.q 4 (.q 5 (.q 6 (.q 7 (.q 8 (.q 9 (.q 10 (.q 11 (.q 12 (.q 13 (.q 14 (.q 15 (.q 16 (.q 17 (.q 18 (.q 19 (.q 20 (.q 21 (.q 22 (.q 23 (.q 24 (.q 25 (.q 26 (.q 27 (.q 28 (.q 29 (.q 30 (.q 31 (.q 32 (.q 33 (.q 34 (.one 35 (.one 36 (.q 37 .done)))))))))))))))))))))))))))))))))))))) (by kernel_rfl) (by kernel_rfl) (fun _ _ d _ _ h => by cases d <;> exact h) ?_
        iterate 35 (refine wpUP_q rfl (fun K hK => ?_); go_simp; refine hK _ ?_; clear hK K)
        clear fe fb1 hne hy
        refine wpUP_one rfl ?_
        intro wa hua
        go_wp2_with fail
        refine ⟨(Below.refl _ _).alloc (Nat.le_refl _) _, ?_⟩
        have hblk := Blk.new wa 81 [.int .i64 1, .bool rt, .int .i64 7, .bool true, .int .i64 7, .bool okb]
        have hub : Up w2 (wa.alloc (.cells #[.int .i64 1, .bool rt, .int .i64 7, .bool true, .int .i64 7, .bool okb] 81)) := Up.trans hua ((Below.refl _ _).alloc (Nat.le_refl _) _)
        have HBK := Troupe.hid hblk
        have HU2 := Troupe.hid hub
        clear hblk hub hua
        generalize wa.alloc (.cells #[.int .i64 1, .bool rt, .int .i64 7, .bool true, .int .i64 7, .bool okb] 81) = wb at *
        generalize wa.heap.size = gr at *
        refine wpUP_one rfl ?_
        intro wd hud
        have BR := Troupe.hid (BRK.out gr wd _ _ _ (HBK.out.below hud HBK.out.lt))
        have HU3 := Troupe.hid (HU2.out.trans hud)
        clear hud
        go_wp2_with fail
        refine BR.out.mono ?_
        rintro en we ⟨rfl, hue⟩
        have UA4 := Troupe.hid (HU3.out.trans hue)
        go_wp2_with fail
        refine ⟨hue, ?_⟩
        have hne4 := UW.inh we
        clear hue
        refine wpUP_q rfl (fun K hK => ?_); go_simp; refine hK _ ?_; clear hK K
        refine wpUP_done ?_
        intro w6 huf
        have UA := Troupe.hid (UA4.out.trans huf)
        clear huf hne4
        go_wp2_with fail
        go_meet
        case rel => exact ⟨by simp, UA.out⟩
      | false =>
        refine region_up (.q 0 (.q 1 (.q 2 (.q 3 (.q 4 (.q 5 (.q 6 (.q 7 (.q 8 (.q 9 (.q 10 (.q 11 (.q 12 (.q 13 (.q 14 (.q 15 (.q 16 (.q 17 (.q 18 (.q 19 (.q 20 (.q 21 (.q 22 (.q 23 (.q 24 (.q 25 (.q 26 (.q 27 (.q 28 (.q 29 (.q 30 (.q 31 (.q 32 (.q 33 (.q 34 (.one 35 (.one 36 (.q 37 .done)))))))))))))))))))))))))))))))))))))) (by kernel_rfl) (by kernel_rfl) (fun _ _ d _ _ h => by cases d <;> exact h) ?_
        iterate 35 (refine wpUP_q rfl (fun K hK => ?_); go_simp; refine hK _ ?_; clear hK K)
        clear fe fb1 hne hy
        refine wpUP_one rfl ?_
        intro wa hua
        go_wp2_with fail
        refine ⟨(Below.refl _ _).alloc (Nat.le_refl _) _, ?_⟩
        have hblk := Blk.new wa 81 [.int .i64 1, .bool false, .int .i64 7, .bool true, .int .i64 7, .bool okb]
        have hub : Up w2 (wa.alloc (.cells #[.int .i64 1, .bool false, .int .i64 7, .bool true, .int .i64 7, .bool okb] 81)) := Up.trans hua ((Below.refl _ _).alloc (Nat.le_refl _) _)
        have HBK := Troupe.hid hblk
        have HU2 := Troupe.hid hub
        clear hblk hub hua
        generalize wa.alloc (.cells #[.int .i64 1, .bool false, .int .i64 7, .bool true, .int .i64 7, .bool okb] 81) = wb at *
        generalize wa.heap.size = gr at *
        refine wpUP_one rfl ?_
        intro wd hud
        have BR := Troupe.hid (BRK.out gr wd _ _ _ (HBK.out.below hud HBK.out.lt))
        have HU3 := Troupe.hid (HU2.out.trans hud)
        clear hud
        go_wp2_with fail
        refine BR.out.mono ?_
        rintro en we ⟨rfl, hue⟩
        have UA4 := Troupe.hid (HU3.out.trans hue)
        go_wp2_with fail
        refine ⟨hue, ?_⟩
        have hne4 := UW.inh we
        clear hue
        refine wpUP_q rfl (fun K hK => ?_); go_simp; refine hK _ ?_; clear hK K
        refine wpUP_done ?_
        intro w6 huf
        have UA := Troupe.hid (UA4.out.trans huf)
        clear huf hne4
        go_wp2_with fail
        go_meet
        case rel => exact ⟨by simp, UA.out⟩
    | false =>
      cases r2 with
      | true =>
        refine region_up (.q 0 (.q 1 (.q 2 (.q 3 (.q 4 (.q 5 (.q 6 (.q 7 (.q 8 (.q 9 (.q 10 (.q 11 (.q 12 (.q 13 (.q 14 (.q 15 (.q 16 (.q 17 (.q 18 (.q 19 (.q 20 (.q 21 (.q 22 (.q 23 (.q 24 (.q 25 (.q 26 (.q 27 (.q 28 (.q 29 (.q 30 (.q 31 (.q 32 (.q 33 (.q 34 (.one 35 (.one 36 (.q 37 .done)))))))))))))))))))))))))))))))))))))) (by kernel_rfl) (by kernel_rfl) (fun _ _ d _ _ h => by cases d <;> exact h) ?_
        iterate 25 (refine wpUP_q rfl (fun K hK => ?_); go_simp; refine hK _ ?_; clear hK K)
        apply wpUP_g2 rfl
        case hb => intro F hF; go_simp; exact hF
        case h1 => intro hb K hK; go_simp; exact hK
        apply wpUP_g2 rfl
        case hb => intro F hF; go_simp; exact hF
        case h1 => intro hb K hK; go_simp; exact hK
        apply wpUP_g2 rfl
        case hb => intro F hF; go_simp; exact hF
        case h1 => intro hb K hK; go_simp; exact hK
        apply wpUP_g2 rfl
        case hb => intro F hF; go_simp; exact hF
        case h1 => intro hb K hK; go_simp; exact ⟨_, AC.out, hK⟩
        apply wpUP_g2 rfl
        case hb => intro F hF; go_simp; exact hF
        case h1 => intro hb K hK; go_simp; exact ⟨_, WK.out, hK⟩
        iterate 5 (refine wpUP_q rfl (fun K hK => ?_); go_simp; refine hK _ ?_; clear hK K)
        clear fe fb1 hne hy
        refine wpUP_one rfl ?_
        intro wa hua
        go_wp2_with fail
        refine ⟨(Below.refl _ _).alloc (Nat.le_refl _) _, ?_⟩
        have hblk := Blk.new wa 81 [.int .i64 1, .bool false, .int .i64 7, .bool (y && wk), .int .i64 7, .bool okb]
        have hub : Up w2 (wa.alloc (.cells #[.int .i64 1, .bool false, .int .i64 7, .bool (y && wk), .int .i64 7, .bool okb] 81)) := Up.trans hua ((Below.refl _ _).alloc (Nat.le_refl _) _)
        have HBK := Troupe.hid hblk
        have HU2 := Troupe.hid hub
        clear hblk hub hua
        generalize wa.alloc (.cells #[.int .i64 1, .bool false, .int .i64 7, .bool (y && wk), .int .i64 7, .bool okb] 81) = wb at *
        generalize wa.heap.size = gr at *
        refine wpUP_one rfl ?_
        intro wd hud
        have BR := Troupe.hid (BRK.out gr wd _ _ _ (HBK.out.below hud HBK.out.lt))
        have HU3 := Troupe.hid (HU2.out.trans hud)
        clear hud
        go_wp2_with fail
        refine BR.out.mono ?_
        rintro en we ⟨rfl, hue⟩
        have UA4 := Troupe.hid (HU3.out.trans hue)
        go_wp2_with fail
        refine ⟨hue, ?_⟩
        have hne4 := UW.inh we
        clear hue
        refine wpUP_q rfl (fun K hK => ?_); go_simp; refine hK _ ?_; clear hK K
        refine wpUP_done ?_
        intro w6 huf
        have UA := Troupe.hid (UA4.out.trans huf)
        clear huf hne4
        go_wp2_with fail
        go_meet
        case rel => exact ⟨by simp, UA.out⟩
      | false =>
        refine region_up (.q 0 (.q 1 (.q 2 (.q 3 (.q 4 (.q 5 (.q 6 (.q 7 (.q 8 (.q 9 (.q 10 (.q 11 (.q 12 (.q 13 (.q 14 (.q 15 (.q 16 (.q 17 (.q 18 (.q 19 (.q 20 (.q 21 (.q 22 (.q 23 (.q 24 (.q 25 (.q 26 (.q 27 (.q 28 (.q 29 (.q 30 (.q 31 (.q 32 (.q 33 (.q 34 (.one 35 (.one 36 (.q 37 .done)))))))))))))))))))))))))))))))))))))) (by kernel_rfl) (by kernel_rfl) (fun _ _ d _ _ h => by cases d <;> exact h) ?_
        iterate 25 (refine wpUP_q rfl (fun K hK => ?_); go_simp; refine hK _ ?_; clear hK K)
        apply wpUP_g2 rfl
        case hb => intro F hF; go_simp; exact hF
        case h1 => intro hb K hK; go_simp; exact hK
        apply wpUP_g2 rfl
        case hb => intro F hF; go_simp; exact hF
        case h1 => intro hb K hK; go_simp; exact hK
        apply wpUP_g2 rfl
        case hb => intro F hF; go_simp; exact hF
        case h1 => intro hb K hK; go_simp; exact hK
        apply wpUP_g2 rfl
        case hb => intro F hF; go_simp; exact hF
        case h1 => intro hb K hK; go_simp; exact ⟨_, AC.out, hK⟩
        apply wpUP_g2 rfl
        case hb => intro F hF; go_simp; exact hF
        case h1 => intro hb K hK; go_simp; exact ⟨_, WK.out, hK⟩
        iterate 5 (refine wpUP_q rfl (fun K hK => ?_); go_simp; refine hK _ ?_; clear hK K)
        clear fe fb1 hne hy
        refine wpUP_one rfl ?_
        intro wa hua
        go_wp2_with fail
        refine ⟨(Below.refl _ _).alloc (Nat.le_refl _) _, ?_⟩
        have hblk := Blk.new wa 81 [.int .i64 1, .bool true, .int .i64 7, .bool (y && wk), .int .i64 7, .bool okb]
        have hub : Up w2 (wa.alloc (.cells #[.int .i64 1, .bool true, .int .i64 7, .bool (y && wk), .int .i64 7, .bool okb] 81)) := Up.trans hua ((Below.refl _ _).alloc (Nat.le_refl _) _)
        have HBK := Troupe.hid hblk
        have HU2 := Troupe.hid hub
        clear hblk hub hua
        generalize wa.alloc (.cells #[.int .i64 1, .bool true, .int .i64 7, .bool (y && wk), .int .i64 7, .bool okb] 81) = wb at *
        generalize wa.heap.size = gr at *
        refine wpUP_one rfl ?_
        intro wd hud
        have BR := Troupe.hid (BRK.out gr wd _ _ _ (HBK.out.below hud HBK.out.lt))
        have HU3 := Troupe.hid (HU2.out.trans hud)
        clear hud
        go_wp2_with fail
        refine BR.out.mono ?_
        rintro en we ⟨rfl, hue⟩
        have UA4 := Troupe.hid (HU3.out.trans hue)
        go_wp2_with fail
        refine ⟨hue, ?_⟩
        have hne4 := UW.inh we
        clear hue
        refine wpUP_q rfl (fun K hK => ?_); go_simp; refine hK _ ?_; clear hK K
        refine wpUP_done ?_
        intro w6 huf
        have UA := Troupe.hid (UA4.out.trans huf)
        clear huf hne4
        go_wp2_with fail
        go_meet
        case rel => exact ⟨by simp, UA.out⟩
  case rest =>
  obtain ⟨rfl, hwc⟩ := hcut
  obtain ⟨w3, rfl⟩ : ∃ w3 : World, w3 = wc := ⟨_, rfl⟩
  have H3 := Troupe.hid (H2.out.below hwc)
  have K3 := Troupe.hid (K2.out.below hwc K2.out.lt)
  have B3 := Troupe.hid (B2.out.trans (hwc.mono hz2))
  have hz3 : w.heap.size ≤ w3.heap.size := B3.out.size
  have HB3 := Troupe.hid (HB2.out.below hwc HB2.out.lt)
  have HO3 := Troupe.hid (HO2.out.below hwc)
  clear hwc H2 K2 B2 HB2 HO2 hr2 hy
  obtain ⟨nb, hnb⟩ : ∃ n, brokenV [⟨1, (f == r2) && (!f || rt)⟩, ⟨7, f || (y && wk)⟩, ⟨7, okb⟩] = n := ⟨_, rfl⟩
  rw [hnb]
  have SP : Hid (spawnedV ks bk ⟨kd, actor, id', src, dst, name, n, why, timed⟩ = if nb = 0 then (0, { bk with acs := bk.acs ++ [⟨src, foundV ks name, ((foundV ks name).sts.head?.map (·.name)).getD noS, 1, none, ⟨false, [], noS, false, noS⟩, noS, false, 0⟩] }) else (nb, bk)) := by
    unfold Hid spawnedV
    dsimp only
    have h1 : (ks.head?.any fun k => name.toList == k.name.toList) = r3 := by
      have h2 : ks.head? = some k0 := by rw [List.head?_eq_getElem?]; exact HK0.out
      rw [h2]; exact HR3.out
    have h4 : (r1 && r2 && r3) = rt := by rw [← HRT.out, HR1.out, HR2.out, HR3.out]
    rw [h1, HFE.out, HR1.out, HR2.out, h4, ← H3.out.la, HLA.out, HY.out, HWK.out, HOKB.out, hnb]
  have HNB := Troupe.hid hnb
  clear hnb
  by_cases h0 : nb = 0
  · subst h0
    have FIN : Hid (spawnedV ks bk ⟨kd, actor, id', src, dst, name, n, why, timed⟩ = (0, { bk with acs := bk.acs ++ [⟨src, foundV ks name, ((foundV ks name).sts.head?.map (·.name)).getD noS, 1, none, ⟨false, [], noS, false, noS⟩, noS, false, 0⟩] })) := SP.out.trans (if_pos rfl)
    have hb3 := broken3 _ _ _ HNB.out
    have HACT : Hid (actor = (la : Int) + 1) := by
      obtain ⟨h1, h2, -⟩ := hb3
      cases f with
      | true =>
        have h3 : rt = true := by simpa using (Bool.and_eq_true _ _ ▸ h1).2
        have h4 : (la : Int) = 0 := eq_of_beq HFL2.out
        have h5 := HRT.out
        rw [h3] at h5
        have h6 : actor = 1 := eq_of_beq (by have := h5; simp only [Bool.and_eq_true] at this; exact this.1.1)
        unfold Hid; omega
      | false =>
        have h3 : y = true := by simp at h2; exact h2.1
        rw [h3] at HY
        exact eq_of_beq HY.out
    obtain rfl : okb = true := hb3.2.2
    clear hb3 HNB
    obtain ⟨kf, hkf⟩ := Option.isSome_iff_exists.1 HOKB.out
    have hfv : foundV ks name = kf := by unfold foundV; rw [hkf]; rfl
    have hmem : kf ∈ ks := List.mem_of_find?_eq_some hkf
    have hne0 : kf.sts ≠ [] := HST.out kf hmem
    rw [hfv] at FIN HSK
    obtain ⟨s0, hs0⟩ : ∃ s0, kf.sts[0]? = some s0 := ⟨_, List.getElem?_eq_getElem (List.length_pos_iff.2 hne0)⟩
    obtain ⟨s', hs', hss⟩ := HSK.out.sts.at_ hs0
    have HNAME : Hid ((kf.sts.head?.map (·.name)).getD noS = s'.name) := by
      unfold Hid
      rw [List.head?_eq_getElem?, hs0, hss.name]; rfl
    have HKFI : Hid (kf.sts ≠ [] ∧ ∃ w0 B, KfIn w0 B kf) := ⟨hne0, w, w.heap.size, HKI.out kf hmem⟩
    have hsl : 0 < k'.sts.length := (List.getElem?_eq_some_iff.1 hs').1
    rcases own_blk HO3.out.sts with ⟨-, h1, -⟩ | ⟨gS, csS, hA, hbS, -, -, -, -, htS⟩
    · omega
    have hcS : csS[0]? = some (.string s'.name) := by
      have h1 : (csS.take (k'.sts.length * 2))[0]? = some (.string s'.name) := by
        rw [htS]
        have := flat_at St.cells 2 (fun _ => rfl) k'.sts 0 s' hs' 0 (by decide)
        simpa [St.cells, flatS] using this
      rw [List.getElem?_take] at h1
      split at h1
      · exact h1
      · cases h1
    have HBS := Troupe.hid hbS
    have HCS := Troupe.hid hcS
    have HAE := Troupe.hid hA
    clear hkf hfv hmem hne0 hs0 hs' hss hbS htS hcS
    go_upto_region 6 with (fail)
    let S0 : World → Prop := fun w' => Frm (fun k => (Value.slice Aa ag.length ca).ownBlock = some k) w3 w'
    have hne : Nonempty (SW S0) := ⟨⟨w3, Frm.refl _ _⟩⟩
    have HNR : Hid (∀ (g : Nat) (t : TypeId) (cs : List Value), t ≠ 76 → Blk w3 g t cs → ¬ (Value.slice Aa ag.length ca).ownBlock = some g) := by
      intro g t cs ht hb e
      obtain ⟨cs', hb'⟩ := own_at H3.out.oa e
      exact hb.ne hb' ht rfl
    have fe : ∀ (x : SW S0) (q : Nat), x.w.cell? ⟨w.heap.size, q, none⟩ = (Ev.cells ⟨kd, actor, id', src, dst, name, n, why, timed⟩)[q]? := fun x => (K3.out.frm x.h (HNR.out _ _ _ (by decide) K3.out)).cell
    have fb1 : ∀ x : SW S0, x.w.cell? ⟨gb, 1, none⟩ = some (.slice Aa la ca) := fun x => by rw [← HLA.out]; exact (H3.out.blk.frm x.h (HNR.out _ _ _ (by decide) H3.out.blk)).cell 1
    have fk : ∀ (x : SW S0) (q : Nat), x.w.cell? ⟨gk, q, none⟩ = (Kf.cells k')[q]? := fun x => (HB3.out.frm x.h (HNR.out _ _ _ (by decide) HB3.out)).cell
    have fS : ∀ x : SW S0, x.w.cell? ⟨gS, 0, none⟩ = some (.string s'.name) := fun x => ((HBS.out.frm x.h (HNR.out _ _ _ (by decide) HBS.out)).cell 0).trans HCS.out
    dsimp only [Ev.cells] at fe
    dsimp only [Kf.cells] at fk
    refine region_plan (S := Cls S0) (.read 0 (.read 1 (.read 2 (.read 3 (.read 4 (.read 5 (.read 6 (.read 7 (.read 8 (.read 9 (.read 10 (.read 11 (.read 12 (.read 13 (.read 14 (.read 15 (.one 16 (.one 17 (.one 18 .tail))))))))))))))))))) 19 (by kernel_rfl) (by kernel_rfl) (fun _ _ d _ _ h => by cases d <;> exact h) ?_
    intro w4 hh o1' o2' o3'
    have F4 := Troupe.hid ((Frm.of_heap (S := fun _ => False) hh o1' o2' o3').below (Nat.le_refl w3.heap.size) (fun _ h => h.elim))
    have H4 := Troupe.hid (H3.out.below F4.out)
    refine ⟨Cls.of (frm_belowS F4.out), ?_⟩
    clear hh o1' o2' o3'
    iterate 16 (refine wpPlan_read rfl (fun K hK => ?_); go_simp; refine hK _ ?_; clear hK K)
    have HA5 := Troupe.hid (Blk.new w4 90 [.int .i64 actor, .int .i64 src, .string k'.name, .int .i64 k'.limit, .int .i64 k'.within, .slice k'.Ac k'.cases.length k'.cc, .slice (some ⟨gS, 0, none⟩) k'.sts.length k'.cap, .string s'.name, .int .i64 1, .pointer none, .bool false, .slice none 0 0, .string ⟨#[]⟩, .bool false, .string ⟨#[]⟩, .string ⟨#[]⟩, .bool false, .int .i64 0])
    have FY : Below w4.heap.size w4 (w4.alloc (.cells #[.int .i64 actor, .int .i64 src, .string k'.name, .int .i64 k'.limit, .int .i64 k'.within, .slice k'.Ac k'.cases.length k'.cc, .slice (some ⟨gS, 0, none⟩) k'.sts.length k'.cap, .string s'.name, .int .i64 1, .pointer none, .bool false, .slice none 0 0, .string ⟨#[]⟩, .bool false, .string ⟨#[]⟩, .string ⟨#[]⟩, .bool false, .int .i64 0] 90)) := (Below.refl _ _).alloc (Nat.le_refl _) _
    have F5 := Troupe.hid (F4.out.trans (FY.mono F4.out.size))
    have H5 := Troupe.hid (H4.out.below FY)
    have hB5 : base ≤ w4.heap.size := by have h1 := F4.out.size; omega
    have hN5 : Hid (w4.heap.size ∉ ag) := fun hm => by
      obtain ⟨i, hi⟩ := List.getElem?_of_mem hm
      obtain ⟨x, hx⟩ : ∃ x, bk.acs[i]? = some x := ⟨_, List.getElem?_eq_getElem (by have h1 := (List.getElem?_eq_some_iff.1 hi).1; have h2 := H4.out.la; omega)⟩
      obtain ⟨_, _, _, _, h1, -⟩ := H4.out.ac i x _ hx hi
      have := h1.lt
      omega
    have HO5 := Troupe.hid ((HO3.out.below F4.out).below FY)
    clear FY
    refine wpPlan_one rfl ?_
    go_wp2_with fail
    refine ⟨Cls.of (frm_belowS F5.out), ?_⟩
    generalize w4.alloc (.cells #[.int .i64 actor, .int .i64 src, .string k'.name, .int .i64 k'.limit, .int .i64 k'.within, .slice k'.Ac k'.cases.length k'.cc, .slice (some ⟨gS, 0, none⟩) k'.sts.length k'.cap, .string s'.name, .int .i64 1, .pointer none, .bool false, .slice none 0 0, .string ⟨#[]⟩, .bool false, .string ⟨#[]⟩, .string ⟨#[]⟩, .bool false, .int .i64 0] 90) = w5 at *
    generalize w4.heap.size = gn at *
    have FZ : Below w5.heap.size w5 (w5.alloc (.cells #[.pointer (some ⟨gn, 0, none⟩)] 76)) := (Below.refl _ _).alloc (Nat.le_refl _) _
    have F6 := Troupe.hid (F5.out.trans (FZ.mono F5.out.size))
    have H6 := Troupe.hid (H5.out.below FZ)
    have HA6 := Troupe.hid (HA5.out.below FZ HA5.out.lt)
    have HO6 := Troupe.hid (HO5.out.below FZ)
    have HC6 := Troupe.hid (((Blk.new w5 76 [.pointer (some ⟨gn, 0, none⟩)]).blk_cells : Cells (w5.alloc (.cells #[.pointer (some ⟨gn, 0, none⟩)] 76)) (w5.heap.size + 1) (some ⟨w5.heap.size, 0, none⟩) [.pointer (some ⟨gn, 0, none⟩)]))
    clear FZ
    refine wpPlan_one rfl ?_
    go_wp2_with fail
    refine ⟨Cls.of (frm_belowS F6.out), ?_⟩
    generalize w5.alloc (.cells #[.pointer (some ⟨gn, 0, none⟩)] 76) = w6 at *
    generalize w5.heap.size = g7 at *
    obtain rfl := HLA.out
    have hb6 : base ≤ w6.heap.size := by have h1 := F6.out.size; omega
    refine wpPlan_one rfl ?_
    refine wpList_app rfl (.tmp 90) (.tmp 103) 46 rfl base 76 info76 Try.underlying46 rfl (by decide) (.slice Aa ag.length ca) ag.length (flatP ag) rfl H6.out.oa (g7 + 1) (some ⟨g7, 0, none⟩) 1 1 [.pointer (some ⟨gn, 0, none⟩)] rfl rfl HC6.out (by simp) (by intro u hu; simp at hu; subst hu; rfl) (by omega) (by unfold maxLen; omega) hb6 ?_
    intro v' w7 hA7
    obtain ⟨Aa', ca', rfl, hADD⟩ := BookAt.addA (a := ⟨src, kf, s'.name, 1, none, ⟨false, [], noS, false, noS⟩, noS, false, 0⟩) H6.out (gn := gn) (by
      refine ⟨k', none, 0, 0, ?_, HSK.out, HO6.out.base hw⟩
      have h1 := HA6.out
      rw [HACT.out, ← HAE.out] at h1
      exact h1) hB5 hN5.out rfl HKFI.out hA7
    have ADD := Troupe.hid hADD
    have F7 : Frm (fun k => (Value.slice Aa ag.length ca).ownBlock = some k) w3 w7 := (frm_belowS (S := fun k => (Value.slice Aa ag.length ca).ownBlock = some k) F6.out).trans hA7.frm (fun _ _ h => h)
    have G7 := Troupe.hid (H6.out.blk.frm hA7.frm (fun e => by
      obtain ⟨cs', hb'⟩ := own_at H6.out.oa e
      exact H6.out.blk.ne hb' (by decide) rfl))
    have BA : Hid (Below base w6 w7) := Frm.below hA7.frm hb6 (fun k hk => own_ge H6.out.oa hk)
    have KE : Hid (K52 w w7) := (K52.of (B3.out.trans (F6.out.mono hz3))).row H6.out.oa (by decide) hA7.frm
    have FE : Hid (Below base w w7) := (((B3.out.mono hw).trans (F6.out.mono (Nat.le_trans hw hz3)))).trans BA.out
    have e7 := G7.out.cell
    have z7 := G7.out.frozen
    clear hA7 hADD
    refine ⟨Cls.of F7, ?_⟩
    clear F7 fe fb1 fk fS hne hA
    refine wpPlan_tail ?_
    simp only [List.drop_succ_cons, List.drop_zero]
    go_wp2_with fail
    go_ret
    rw [HNAME.out] at FIN
    exact Ruled.same' FIN.out ADD.out ⟨FE.out.setCell H6.out.hb _, KE.out.set G7.out (by decide) (Frm.one w7 ⟨gb, 1, none⟩ _)⟩
  · have FIN : Hid (spawnedV ks bk ⟨kd, actor, id', src, dst, name, n, why, timed⟩ = (nb, bk)) := SP.out.trans (if_neg h0)
    have h0' : (nb == 0) = false := by rw [beq_eq_false_iff_ne]; exact h0
    clear h0
    go_wp2_with fail
    go_ret
    exact Ruled.same FIN.out H3.out B3.out hw
end Go.Proofs.Ytkjjhndccelbcaa
