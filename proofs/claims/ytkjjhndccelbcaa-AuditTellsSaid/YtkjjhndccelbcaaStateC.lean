/- check's state, by contract. -/
import Derived.Test.YtkjjhndccelbcaaRowC
namespace Go.Proofs.Ytkjjhndccelbcaa
open Go.RowKit Go.Maps Go.Troupe
attribute [local go_sem] reads readAt readUpon Cls quietU pick_and' pick_or' pick_or'' pick_and2 pick_and3 pick_and4 pick_and4' pick_or2 pick_andn pick_andn'
def stOwn (sts : List St) (i : Nat) (s : St) : Int := firstV [⟨!lexV s.name, 43⟩, ⟨(sts.take i).any (nameS s.name), 41⟩, ⟨decide ((16 : Int) < (s.rows.length : Int)), 40⟩]
def stateB (ks : List Kf) (sts : List St) (i : Nat) : Bool := match sts[i]? with
  | some s => withinV (stOwn sts i s) s.rows.length (rowB ks sts s.rows)
  | none => false
theorem ent70 : ∀ (args : Array Value) (w' : World), (callFunc 70 args).run Try.prog w' = .ok (.enter 70 args) w' := fun args w' => by kernel_rfl
theorem ent71 : ∀ (args : Array Value) (w' : World), (callFunc 71 args).run Try.prog w' = .ok (.enter 71 args) w' := fun args w' => by kernel_rfl
theorem close70_any (x : St) (want : ByteArray) (g : Nat) (w : World) (h : w.cell? ⟨g, 0, none⟩ = some (.string want)) :
    Calls Try.prog 70 #[.agg #[.string x.name, .slice x.A x.rows.length x.cap], .pointer (some ⟨g, 0, none⟩)] w fun e w' => e = .returned (.bool (nameS want x)) ∧ Below w.heap.size w w' := by
  unfold nameS
  have hgl := block_lt_of_cell h
  have h' : (w.alloc (.cells #[.string x.name, .slice x.A x.rows.length x.cap] 63)).cell? ⟨g, 0, none⟩ = some (.string want) := (World.cell?_of_block (Below.heap_alloc _ _ _ hgl)).trans h
  clear h
  go_enter Try.func70, Try.ntmps70
  go_wp2
  go_ret
  exact ⟨rfl, (Below.refl _ _).alloc (Nat.le_refl _) _⟩
set_option maxRecDepth 100000 in
set_option maxHeartbeats 1000000 in
theorem close71_any (Ak : Option Addr) (ck : Nat) (ks : List Kf) (k : Kf) (s : St) (gp gk gs i : Nat) (w : World) (hp : Blk w gp 24 [.slice Ak ks.length ck]) (hkb : Blk w gk 67 [.string k.name, .int .i64 k.limit, .int .i64 k.within, .slice k.Ac k.cases.length k.cc, .slice k.A k.sts.length k.cap]) (hsb : Blk w gs 63 [.string s.name, .slice s.A s.rows.length s.cap])
    (hc : Cells w w.heap.size Ak (flatK ks)) (hkl : ks.length ≤ 140737488355328) (hk : KfIn w w.heap.size k) (hs : StF w w.heap.size s) (hsc : s.rows.length ≤ s.cap) (hi : i < s.rows.length) :
    Calls Try.prog 71 #[.int .i64 i, .pointer (some ⟨gp, 0, none⟩), .pointer (some ⟨gk, 0, none⟩), .pointer (some ⟨gs, 0, none⟩)] w (Badly (rowB ks k.sts s.rows i) 1 w) := by
  have CR := Troupe.hid (checkRow_any Ak ck ks k s i w hc hkl hk hs hsc hi)
  have e1 := hp.cell
  have e2 := hkb.cell
  have e3 := hsb.cell
  clear hp hkb hsb hc hkl hk hs hsc hi
  go_enter Try.func71, Try.ntmps71
  go_wp2_with fail
  refine CR.out.mono ?_
  rintro en w7 ⟨v, rfl, hbad, hb7⟩
  have HBD := Troupe.hid hbad
  have B7 := Troupe.hid hb7
  clear hbad hb7
  go_wp2_with fail
  go_ret
  exact ⟨_, rfl, HBD.out, B7.out⟩
theorem flatS_take (l : List St) (i : Nat) : (flatS l).take (i * 2) = flatS (l.take i) := by
  induction l generalizing i with
  | nil => simp [flatS]
  | cons x l ih =>
    cases i with
    | zero => simp [flatS]
    | succ i =>
      have h := ih i
      unfold flatS at h ⊢
      rw [List.take_succ_cons, List.flatMap_cons, List.flatMap_cons, ← h, show (i + 1) * 2 = i * 2 + 1 + 1 by omega]
      simp [St.cells]
set_option maxRecDepth 100000 in
set_option maxHeartbeats 4000000 in
theorem checkState_any (Ak : Option Addr) (ck : Nat) (ks : List Kf) (k : Kf) (i : Nat) (w : World) (hc : Cells w w.heap.size Ak (flatK ks)) (hkl : ks.length ≤ 140737488355328) (hk : KfIn w w.heap.size k) (hkc : k.sts.length ≤ k.cap) (hsc : ∀ s ∈ k.sts, s.rows.length ≤ s.cap) (hi : i < k.sts.length) :
    Calls Try.prog 54 #[.agg #[.slice Ak ks.length ck], .agg #[.string k.name, .int .i64 k.limit, .int .i64 k.within, .slice k.Ac k.cases.length k.cc, .slice k.A k.sts.length k.cap], .int .i64 i] w (Badly (stateB ks k.sts i) 2 w) := by
  obtain ⟨s, hr⟩ : ∃ s, k.sts[i]? = some s := ⟨_, List.getElem?_eq_getElem hi⟩
  obtain ⟨wa, hwa⟩ : ∃ wa, wa = (w.alloc (.cells #[.slice Ak ks.length ck] 24)).alloc (.cells #[.string k.name, .int .i64 k.limit, .int .i64 k.within, .slice k.Ac k.cases.length k.cc, .slice k.A k.sts.length k.cap] 67) := ⟨_, rfl⟩
  have a0 : Below w.heap.size w wa := by rw [hwa]; exact ((Below.refl _ w).alloc (Nat.le_refl _) _).alloc (by simp) _
  have k0 : Blk wa w.heap.size 24 [.slice Ak ks.length ck] := by rw [hwa]; exact (Blk.new w 24 [.slice Ak ks.length ck]).alloc _
  have k1 : Blk wa (w.heap.size + 1) 67 [.string k.name, .int .i64 k.limit, .int .i64 k.within, .slice k.Ac k.cases.length k.cc, .slice k.A k.sts.length k.cap] := by rw [hwa]; simpa using Blk.new (w.alloc (.cells #[.slice Ak ks.length ck] 24)) 67 [.string k.name, .int .i64 k.limit, .int .i64 k.within, .slice k.Ac k.cases.length k.cc, .slice k.A k.sts.length k.cap]
  obtain ⟨b, off, hA, hb0, h1⟩ := cells_at (sz := 2) (fun _ => rfl) (by decide) hk.2.1 hr
  have hmem := List.mem_of_getElem? hr
  have HSF := Troupe.hid (hk.2.2.2.1 s hmem)
  have HSC := Troupe.hid (hsc s hmem)
  have hel : s.rows.length ≤ 2513169434916 := by have := HSF.out.2.2.2; omega
  have hsl : k.sts.length ≤ 3518437208883 := by have := hk.2.2.2.2; omega
  have ROW : Hid (stateB ks k.sts i = withinV (stOwn k.sts i s) s.rows.length (rowB ks k.sts s.rows)) := by unfold Hid stateB; rw [hr]
  have BW : Hid (∀ q v, q < 2 → (St.cells s)[q]? = some v → wa.cell? ⟨b, off + i * 2 + q, none⟩ = some v) := fun q v hq hv =>
    (a0.cell (p := ⟨b, off + i * 2 + q, none⟩) hb0).trans (h1 q hq v hv)
  obtain ⟨sA, hsA⟩ : ∃ sA, k.A = sA := ⟨_, rfl⟩
  rw [hsA] at hA
  subst hA
  obtain ⟨sn, hsn⟩ : ∃ n, k.sts.length = n := ⟨_, rfl⟩
  have HSN := Troupe.hid hsn
  have hin : i < sn := by omega
  have hsn2 : sn ≤ 140737488355328 := by omega
  have hsc2 : i ≤ k.cap := by omega
  have HSA := Troupe.hid hsA
  have HRC := Troupe.hid hk.2.1
  have A0 := Troupe.hid a0
  have K0 := Troupe.hid k0
  have K1 := Troupe.hid k1
  have HWA := Troupe.hid hwa
  have HC := Troupe.hid hc
  have HK := Troupe.hid hk
  have HKL := Troupe.hid hkl
  clear hwa a0 k0 k1 hc hk hkl h1 hr hsc hkc hsA hsn hmem
  go_enter Try.func54, Try.ntmps54
  go_upto_region 1 with (fail)
  rw [← HWA.out]
  have s1 : wa.cell? ⟨w.heap.size + 1, 4, none⟩ = some (.slice (some ⟨b, off, none⟩) sn k.cap) := by rw [← HSA.out, ← HSN.out]; exact K1.out.cell 4
  have r0 : wa.cell? ⟨b, off + i * 2, none⟩ = _ := BW.out 0 _ (by decide) rfl
  have r1 := BW.out 1 _ (by decide) rfl
  go_upto_region 2 with (fail)
  clear s1 r0 r1
  have FA : Below wa.heap.size wa (wa.alloc (.cells #[.string s.name, .slice s.A s.rows.length s.cap] 63)) := (Below.refl _ _).alloc (Nat.le_refl _) _
  have B0 := Troupe.hid (A0.out.trans (FA.mono A0.out.size))
  have HB0 := Troupe.hid (K0.out.below FA K0.out.lt)
  have HB1 := Troupe.hid (K1.out.below FA K1.out.lt)
  have HB3 := Troupe.hid (Blk.new wa 63 [.string s.name, .slice s.A s.rows.length s.cap])
  clear FA K0 K1
  generalize wa.alloc (.cells #[.string s.name, .slice s.A s.rows.length s.cap] 63) = w1 at *
  obtain ⟨g3, hg3⟩ : ∃ g3, wa.heap.size = g3 := ⟨_, rfl⟩
  rw [hg3] at HB3 ⊢
  clear hg3
  have hne := UW.inh w1
  have fr : ∀ (y : UW w1) (q : Nat), y.w.cell? ⟨g3, q, none⟩ = ([.string s.name, .slice s.A s.rows.length s.cap] : List Value)[q]? := fun y => (HB3.out.below y.h HB3.out.lt).cell
  have fs : ∀ (y : UW w1), y.w.cell? ⟨w.heap.size + 1, 4, none⟩ = some (.slice (some ⟨b, off, none⟩) sn k.cap) := fun y => by rw [← HSA.out, ← HSN.out]; exact (HB1.out.below y.h HB1.out.lt).cell 4
  obtain ⟨tw, htw⟩ : ∃ b, (k.sts.take i).any (nameS s.name) = b := ⟨_, rfl⟩
  have HTW := Troupe.hid htw
  have NM : Hid (∀ y : UW w1, Calls Try.prog 50 #[.string s.name] y.w fun en w' => en = .returned (.bool (lexV s.name)) ∧ Up y.w w') := fun y => (lex_any s.name y.w).mono fun _ _ ⟨h1, h2⟩ => ⟨h1, h2 ▸ Up.refl _⟩
  have HRR : Hid (∀ y : UW w1, Calls Try.prog 69 #[.slice (some ⟨b, off, none⟩) i k.cap, .func (.func 70) #[] #[.pointer (some ⟨g3, 0, none⟩)]] y.w fun en w' => en = .returned (.bool tw) ∧ Up y.w w') := fun y => by
    rw [← HTW.out]
    have hb1 : Below w.heap.size w y.w := B0.out.trans (y.h.mono B0.out.size)
    have hcc : Cells w w.heap.size (some ⟨b, off, none⟩) (flatS (k.sts.take i)) := by
      have h2 := HRC.out.take (i * 2)
      have h3 : (flatS k.sts).take (i * 2) = flatS (k.sts.take i) := flatS_take k.sts i
      rw [h3, HSA.out] at h2
      exact h2
    exact hasS_gen 70 [.pointer (some ⟨g3, 0, none⟩)] (nameS s.name) (some ⟨b, off, none⟩) i k.cap w.heap.size (k.sts.take i) y.w (by rw [List.length_take]; have := HSN.out; omega) (by unfold maxLen; omega) (hcc.below hb1) hb1.size ent70 (fun x _ w' hb => close70_any x s.name _ w' ((HB3.out.below (Up.trans y.h hb) HB3.out.lt).cell 0))
  clear htw
  obtain ⟨nx, hnx⟩ : ∃ b, (!lexV s.name) = b := ⟨_, rfl⟩
  have Hnx := Troupe.hid hnx
  obtain ⟨l16, hl16⟩ : ∃ b, decide ((16 : Int) < (s.rows.length : Int)) = b := ⟨_, rfl⟩
  have Hl16 := Troupe.hid hl16
  have FIN : Hid (stOwn k.sts i s = firstV [⟨nx, 43⟩, ⟨tw, 41⟩, ⟨l16, 40⟩]) := by
    unfold Hid stOwn
    rw [Hnx.out, HTW.out, Hl16.out]
  refine region_upF (.q 0 (.q 1 (.q 2 (.q 3 (.q 4 (.q 5 (.q 6 (.q 7 (.q 8 (.q 9 (.q 10 (.q 11 (.q 12 (.q 13 (.q 14 (.q 15 (.q 16 (.one 17 (.one 18 (.q 19 .done)))))))))))))))))))) [⟨some 14, [7], []⟩, ⟨some 15, [14], [0]⟩, ⟨some 16, [15], [1]⟩, ⟨some 17, [16], [2]⟩, ⟨some 18, [17], [3]⟩, ⟨some 19, [4], []⟩, ⟨some 20, [19], [5]⟩, ⟨some 21, [2], []⟩, ⟨some 22, [20, 21], [6, 7]⟩, ⟨some 23, [7], []⟩, ⟨some 24, [22, 23], [8, 9, 2]⟩, ⟨some 25, [24], [10]⟩, ⟨some 26, [7], []⟩, ⟨some 27, [26], [12]⟩, ⟨some 28, [27], [13]⟩, ⟨some 29, [28], [14]⟩, ⟨some 30, [29], [15]⟩, ⟨some 31, [18, 25, 30], [4, 11, 16]⟩, ⟨some 32, [31], [17, 10]⟩, ⟨some 8, [32], [18, 18, 0, 1, 2, 3, 4, 5, 6, 7, 8, 9, 10, 11, 12, 13, 14, 15, 16, 17, 18]⟩] (by kernel_rfl) (by kernel_rfl) (by kernel_rfl) (by kernel_rfl) (fun _ _ d _ _ h => by cases d <;> exact h) ?_
  iterate 2 (refine wpUP_q rfl (fun K hK => ?_); go_simp; refine hK _ ?_; clear hK K)
  refine wpUP_q rfl (fun K hK => ?_)
  go_simp
  refine ⟨_, NM.out, hK _ ?_⟩
  clear hK K
  iterate 7 (refine wpUP_q rfl (fun K hK => ?_); go_simp; refine hK _ ?_; clear hK K)
  refine wpUP_q rfl (fun K hK => ?_)
  go_simp
  refine ⟨_, HRR.out, hK _ ?_⟩
  clear hK K
  iterate 6 (refine wpUP_q rfl (fun K hK => ?_); go_simp; refine hK _ ?_; clear hK K)
  clear fr fs hne hnx hl16
  refine wpUP_one rfl ?_
  intro wx hux
  go_wp2_with fail
  refine ⟨(Below.refl _ _).alloc (Nat.le_refl _) _, ?_⟩
  have hblk := Blk.new wx 71 [.bool nx, .int .i64 43, .bool tw, .int .i64 41, .bool l16, .int .i64 40]
  have UV : Hid (Up w1 (wx.alloc (.cells #[.bool nx, .int .i64 43, .bool tw, .int .i64 41, .bool l16, .int .i64 40] 71))) := Up.trans hux ((Below.refl _ _).alloc (Nat.le_refl _) _)
  have HBV := Troupe.hid hblk
  clear hblk hux
  generalize wx.alloc (.cells #[.bool nx, .int .i64 43, .bool tw, .int .i64 41, .bool l16, .int .i64 40] 71) = wv at *
  generalize wx.heap.size = gv at *
  refine wpUP_one rfl ?_
  intro wd hud
  have FR := Troupe.hid (first_any (some ⟨gv, 0, none⟩) 3 3 wd.heap.size [⟨nx, 43⟩, ⟨tw, 41⟩, ⟨l16, 40⟩] wd rfl (by unfold maxLen; omega) ((HBV.out.below hud HBV.out.lt).blk_cells.mono (HBV.out.below hud HBV.out.lt).lt) (Nat.le_refl _))
  have UD := Troupe.hid (UV.out.trans hud)
  clear hud
  go_wp2_with fail
  refine FR.out.mono ?_
  rintro en we ⟨rfl, hue⟩
  have UE := Troupe.hid (UD.out.trans hue)
  go_wp2_with fail
  refine ⟨hue, ?_⟩
  have hne := UW.inh we
  clear hue
  refine wpUP_q rfl (fun K hK => ?_); go_simp; refine hK _ ?_; clear hK K
  refine wpUP_done ?_
  intro w6 huf
  have UF := Troupe.hid (UE.out.trans huf)
  clear huf hne
  have hw6 : Below w.heap.size w w6 := B0.out.trans (UF.out.mono B0.out.size)
  have B6 := Troupe.hid hw6
  have P6 := Troupe.hid (HB0.out.below UF.out HB0.out.lt)
  have KK6 := Troupe.hid (HB1.out.below UF.out HB1.out.lt)
  have R6 := Troupe.hid (HB3.out.below UF.out HB3.out.lt)
  obtain ⟨own, hown⟩ : ∃ n, firstV [⟨nx, 43⟩, ⟨tw, 41⟩, ⟨l16, 40⟩] = n := ⟨_, rfl⟩
  rw [hown] at FIN ⊢
  have WI : Hid (Calls Try.prog 32 #[.int .i64 own, .int .i64 s.rows.length, .func (.func 71) #[] #[.pointer (some ⟨w.heap.size, 0, none⟩), .pointer (some ⟨w.heap.size + 1, 0, none⟩), .pointer (some ⟨g3, 0, none⟩)]] w6 (Badly (stateB ks k.sts i) 2 w6)) := by
    rw [ROW.out, FIN.out]
    exact within_gen 71 [.pointer (some ⟨w.heap.size, 0, none⟩), .pointer (some ⟨w.heap.size + 1, 0, none⟩), .pointer (some ⟨g3, 0, none⟩)] (rowB ks k.sts s.rows) own s.rows.length 1 w6 (by omega) (by omega) ent71 (fun j hj w' hb => by
      have hb' : Below w.heap.size w w' := B6.out.trans (hb.mono B6.out.size)
      exact close71_any Ak ck ks k s w.heap.size (w.heap.size + 1) g3 j w' (P6.out.below hb P6.out.lt) (KK6.out.below hb KK6.out.lt) (R6.out.below hb R6.out.lt) ((HC.out.below hb').mono hb'.size) HKL.out ((HK.out.below hb').mono hb'.size) ((HSF.out.below hb').mono hb'.size) HSC.out hj)
  have r6 := R6.out.cell
  clear hown hw6
  go_wp2_with fail
  refine WI.out.mono ?_
  rintro en w7 ⟨v, rfl, hbad, hb7⟩
  have HBD := Troupe.hid (hbad.base B6.out.size)
  have B7 := Troupe.hid (B6.out.trans (hb7.mono B6.out.size))
  clear hbad hb7
  go_wp2_with fail
  go_ret
  exact ⟨_, rfl, HBD.out, B7.out⟩
end Go.Proofs.Ytkjjhndccelbcaa
