/- check's effect, by contract. -/
import Derived.Test.YtkjjhndccelbcaaParts
import Derived.Test.YtkjjhndccelbcaaUpF
namespace Go.Proofs.Ytkjjhndccelbcaa
open Go.RowKit Go.Maps Go.Troupe
attribute [local go_sem] reads readAt readUpon Cls quietU pick_and' pick_or' pick_or'' pick_and2 pick_and3 pick_and4 pick_and4' pick_or2 pick_andn pick_andn'
def refWords : List ByteArray := [⟨#[115, 101, 108, 102]⟩, ⟨#[115, 101, 110, 100, 101, 114]⟩, ⟨#[112, 97, 114, 101, 110, 116]⟩, ⟨#[97]⟩, ⟨#[98]⟩, ⟨#[99]⟩, ⟨#[100]⟩]
def slotWords : List ByteArray := [⟨#[97]⟩, ⟨#[98]⟩, ⟨#[99]⟩, ⟨#[100]⟩]
def nameK (want : ByteArray) (x : Kf) : Bool := x.name.toList == want.toList
def nameS (want : ByteArray) (x : St) : Bool := x.name.toList == want.toList
theorem close95_any (x : Kf) (want : ByteArray) (g : Nat) (w : World) (h : w.cell? ⟨g, 3, none⟩ = some (.string want)) :
    Calls Try.prog 95 #[.agg #[.string x.name, .int .i64 x.limit, .int .i64 x.within, .slice x.Ac x.cases.length x.cc, .slice x.A x.sts.length x.cap], .pointer (some ⟨g, 0, none⟩)] w fun e w' => e = .returned (.bool (nameK want x)) ∧ Below w.heap.size w w' := by
  unfold nameK
  have hgl := block_lt_of_cell h
  have h' : (w.alloc (.cells #[.string x.name, .int .i64 x.limit, .int .i64 x.within, .slice x.Ac x.cases.length x.cc, .slice x.A x.sts.length x.cap] 67)).cell? ⟨g, 3, none⟩ = some (.string want) := (World.cell?_of_block (Below.heap_alloc _ _ _ hgl)).trans h
  clear h
  go_enter Try.func95, Try.ntmps95
  go_wp2
  go_ret
  exact ⟨rfl, (Below.refl _ _).alloc (Nat.le_refl _) _⟩
theorem close96_any (x : St) (want : ByteArray) (g : Nat) (w : World) (h : w.cell? ⟨g, 3, none⟩ = some (.string want)) :
    Calls Try.prog 96 #[.agg #[.string x.name, .slice x.A x.rows.length x.cap], .pointer (some ⟨g, 0, none⟩)] w fun e w' => e = .returned (.bool (nameS want x)) ∧ Below w.heap.size w w' := by
  unfold nameS
  have hgl := block_lt_of_cell h
  have h' : (w.alloc (.cells #[.string x.name, .slice x.A x.rows.length x.cap] 63)).cell? ⟨g, 3, none⟩ = some (.string want) := (World.cell?_of_block (Below.heap_alloc _ _ _ hgl)).trans h
  clear h
  go_enter Try.func96, Try.ntmps96
  go_wp2
  go_ret
  exact ⟨rfl, (Below.refl _ _).alloc (Nat.le_refl _) _⟩
theorem ent95 : ∀ (args : Array Value) (w' : World), (callFunc 95 args).run Try.prog w' = .ok (.enter 95 args) w' := fun args w' => by kernel_rfl
theorem ent96 : ∀ (args : Array Value) (w' : World), (callFunc 96 args).run Try.prog w' = .ok (.enter 96 args) w' := fun args w' => by kernel_rfl
def effV (ks : List Kf) (sts : List St) (e : Eff) (last : Bool) : Int := firstV [
  ⟨decide (e.d < 1) || decide (12 < e.d), 43⟩,
  ⟨(refV e.d && !refWords.any (eqS e.ref)) || (!refV e.d && !e.ref.toList.isEmpty), 43⟩,
  ⟨(slotV e.d && !slotWords.any (eqS e.slot)) || (!slotV e.d && !e.slot.toList.isEmpty), 43⟩,
  ⟨(nameW e.d && !lexV e.name) || (!nameW e.d && !e.name.toList.isEmpty), 43⟩,
  ⟨(delayV e.d && (decide (e.delay < 1) || decide (4095 < e.delay))) || (!delayV e.d && e.delay != 0), 43⟩,
  ⟨(decide (e.v < 0) || decide (2 < e.v)) || (!valueW e.d && e.v != 0), 43⟩,
  ⟨(decide (e.n < 0) || decide (255 < e.n)) || (!(e.v == 2) && e.n != 0), 43⟩,
  ⟨(e.d == 2 && !ks.any (nameK e.name)) || (e.d == 3 && !sts.any (nameS e.name)), 42⟩,
  ⟨(e.d == 11 || e.d == 12) && !last, 44⟩]
set_option pp.deepTerms true in
set_option pp.maxSteps 1000000 in
set_option maxRecDepth 100000 in
set_option maxHeartbeats 16000000 in
theorem effect_any (Ak : Option Addr) (ck : Nat) (ks : List Kf) (k : Kf) (e : Eff) (last : Bool) (w : World) (hc : Cells w w.heap.size Ak (flatK ks)) (hkl : ks.length ≤ 140737488355328) (hk : KfIn w w.heap.size k) :
    Calls Try.prog 91 #[.agg #[.slice Ak ks.length ck], .agg #[.string k.name, .int .i64 k.limit, .int .i64 k.within, .slice k.Ac k.cases.length k.cc, .slice k.A k.sts.length k.cap], .agg #[.int .i64 e.d, .string e.ref, .string e.slot, .string e.name, .int .i64 e.v, .int .i64 e.n, .int .i64 e.delay], .bool last] w fun en w' => en = .returned (.int .i64 (effV ks k.sts e last)) ∧ Below w.heap.size w w' := by
  obtain ⟨wb0, hwb⟩ : ∃ wb0, wb0 = ((w.alloc (.cells #[.slice Ak ks.length ck] 24)).alloc (.cells #[.string k.name, .int .i64 k.limit, .int .i64 k.within, .slice k.Ac k.cases.length k.cc, .slice k.A k.sts.length k.cap] 67)).alloc (.cells #[.int .i64 e.d, .string e.ref, .string e.slot, .string e.name, .int .i64 e.v, .int .i64 e.n, .int .i64 e.delay] 57) := ⟨_, rfl⟩
  have b0 : Below w.heap.size w wb0 := by rw [hwb]; exact (((Below.refl _ w).alloc (Nat.le_refl _) _).alloc (by simp) _).alloc (by simp; omega) _
  have k0 : Blk wb0 w.heap.size 24 [.slice Ak ks.length ck] := by rw [hwb]; exact ((Blk.new w 24 [.slice Ak ks.length ck]).alloc _).alloc _
  have k1 : Blk wb0 (w.heap.size + 1) 67 [.string k.name, .int .i64 k.limit, .int .i64 k.within, .slice k.Ac k.cases.length k.cc, .slice k.A k.sts.length k.cap] := by rw [hwb]; simpa using (Blk.new (w.alloc (.cells #[.slice Ak ks.length ck] 24)) 67 [.string k.name, .int .i64 k.limit, .int .i64 k.within, .slice k.Ac k.cases.length k.cc, .slice k.A k.sts.length k.cap]).alloc (.cells #[.int .i64 e.d, .string e.ref, .string e.slot, .string e.name, .int .i64 e.v, .int .i64 e.n, .int .i64 e.delay] 57)
  have k2 : Blk wb0 (w.heap.size + 1 + 1) 57 [.int .i64 e.d, .string e.ref, .string e.slot, .string e.name, .int .i64 e.v, .int .i64 e.n, .int .i64 e.delay] := by rw [hwb]; simpa using Blk.new ((w.alloc (.cells #[.slice Ak ks.length ck] 24)).alloc (.cells #[.string k.name, .int .i64 k.limit, .int .i64 k.within, .slice k.Ac k.cases.length k.cc, .slice k.A k.sts.length k.cap] 67)) 57 [.int .i64 e.d, .string e.ref, .string e.slot, .string e.name, .int .i64 e.v, .int .i64 e.n, .int .i64 e.delay]
  have HC := Troupe.hid hc
  have HKF := Troupe.hid hk
  have HKL := Troupe.hid hkl
  obtain ⟨r, hr⟩ : ∃ b, refV e.d = b := ⟨_, rfl⟩
  obtain ⟨s, hs⟩ : ∃ b, slotV e.d = b := ⟨_, rfl⟩
  obtain ⟨nm, hnm⟩ : ∃ b, nameW e.d = b := ⟨_, rfl⟩
  obtain ⟨vl, hvl⟩ : ∃ b, valueW e.d = b := ⟨_, rfl⟩
  obtain ⟨dl, hdl⟩ : ∃ b, delayV e.d = b := ⟨_, rfl⟩
  have PT : Hid (Calls Try.prog 94 #[.int .i64 e.d] wb0 fun en w' => en = .returned (.tuple #[.bool r, .bool s, .bool nm, .bool vl, .bool dl]) ∧ wb0 = w') := by
    rw [← hr, ← hs, ← hnm, ← hvl, ← hdl]; exact parts_any e.d wb0
  have HR := Troupe.hid hr
  have HS := Troupe.hid hs
  have HNM := Troupe.hid hnm
  have HVL := Troupe.hid hvl
  have HDL := Troupe.hid hdl
  have B0 := Troupe.hid b0
  have K0 := Troupe.hid k0
  have K1 := Troupe.hid k1
  have K2 := Troupe.hid k2
  have HWB := Troupe.hid hwb
  have e2 := k2.cell
  have e0 := k0.cell
  obtain ⟨kn, hkn⟩ : ∃ b, ks.any (nameK e.name) = b := ⟨_, rfl⟩
  have HKN := Troupe.hid hkn
  obtain ⟨st, hst⟩ : ∃ b, k.sts.any (nameS e.name) = b := ⟨_, rfl⟩
  have HSTT := Troupe.hid hst
  have HasK : Hid (Calls Try.prog 51 #[.slice Ak ks.length ck, .func (.func 95) #[] #[.pointer (some ⟨w.heap.size + 1 + 1, 0, none⟩)]] wb0 fun en w' => en = .returned (.bool kn) ∧ Below wb0.heap.size wb0 w') := by
    rw [← hkn]
    exact hasK_gen 95 [.pointer (some ⟨w.heap.size + 1 + 1, 0, none⟩)] (nameK e.name) Ak ks.length ck w.heap.size ks wb0 rfl (by unfold maxLen; omega) (HC.out.below B0.out) B0.out.size ent95 (fun x _ w' hb => close95_any x e.name _ w' ((K2.out.below hb K2.out.lt).cell 3))
  have HasS : Hid (∀ w1, Below wb0.heap.size wb0 w1 → Calls Try.prog 69 #[.slice k.A k.sts.length k.cap, .func (.func 96) #[] #[.pointer (some ⟨w.heap.size + 1 + 1, 0, none⟩)]] w1 fun en w' => en = .returned (.bool st) ∧ Below w1.heap.size w1 w') := fun w1 h1 => by
    rw [← hst]
    exact hasS_gen 96 [.pointer (some ⟨w.heap.size + 1 + 1, 0, none⟩)] (nameS e.name) k.A k.sts.length k.cap w.heap.size k.sts w1 rfl (by have := HKF.out.2.2.2.2; unfold maxLen; omega) (HKF.out.2.1.below (B0.out.trans (h1.mono B0.out.size))) (Nat.le_trans B0.out.size h1.size) ent96 (fun x _ w' hb => close96_any x e.name _ w' ((K2.out.below (h1.trans (hb.mono h1.size)) K2.out.lt).cell 3))
  clear hc hk hkl hr hs hnm hvl hdl b0 k0 k1 k2 hwb hkn hst
  go_enter Try.func91, Try.ntmps91
  go_upto_region 1 with (fail)
  rw [← HWB.out]
  go_wp2_with fail
  refine PT.out.mono ?_
  rintro en w1 ⟨rfl, rfl⟩
  go_wp2_with fail
  refine HasK.out.mono ?_
  rintro en w2 ⟨rfl, hb2⟩
  have B2 := Troupe.hid hb2
  have f1 := (K1.out.below hb2 K1.out.lt).cell
  clear hb2 e0 e2
  go_wp2_with fail
  refine (HasS.out w2 B2.out).mono ?_
  rintro en w3 ⟨rfl, hb3⟩
  have B23 := Troupe.hid (B2.out.trans (hb3.mono B2.out.size))
  have B3 := Troupe.hid (B0.out.trans (B23.out.mono B0.out.size))
  have HK2 : Hid (Blk w3 (w.heap.size + 1 + 1) 57 (Eff.cells e)) := K2.out.below B23.out K2.out.lt
  have e3 := HK2.out.cell
  dsimp only [Eff.cells] at e3
  clear hb3 f1
  go_upto_region 5 with (fail)
  clear e3
  have hne := UW.inh w3
  have fe : ∀ (x : UW w3) (i : Nat), x.w.cell? ⟨w.heap.size + 1 + 1, i, none⟩ = (Eff.cells e)[i]? := fun x => (HK2.out.below x.h HK2.out.lt).cell
  dsimp only [Eff.cells] at fe
  cases r with
  | true =>
    cases s with
    | true =>
      obtain ⟨x1, hx1⟩ : ∃ b, decide (e.d < 1) = b := ⟨_, rfl⟩
      have Hx1 := Troupe.hid hx1
      obtain ⟨x2, hx2⟩ : ∃ b, decide (12 < e.d) = b := ⟨_, rfl⟩
      have Hx2 := Troupe.hid hx2
      obtain ⟨c1, hc1⟩ : ∃ b, (x1 || x2) = b := ⟨_, rfl⟩
      have Hc1 := Troupe.hid hc1
      obtain ⟨X1, hX1⟩ : ∃ b, refWords.any (eqS e.ref) = b := ⟨_, rfl⟩
      have HX1 := Troupe.hid hX1
      obtain ⟨y2, hy2⟩ : ∃ b, (!e.ref.toList.isEmpty) = b := ⟨_, rfl⟩
      have Hy2 := Troupe.hid hy2
      obtain ⟨c2, hc2⟩ : ∃ b, (!X1) = b := ⟨_, rfl⟩
      have Hc2 := Troupe.hid hc2
      obtain ⟨X2, hX2⟩ : ∃ b, slotWords.any (eqS e.slot) = b := ⟨_, rfl⟩
      have HX2 := Troupe.hid hX2
      obtain ⟨y4, hy4⟩ : ∃ b, (!e.slot.toList.isEmpty) = b := ⟨_, rfl⟩
      have Hy4 := Troupe.hid hy4
      obtain ⟨c4, hc4⟩ : ∃ b, (!X2) = b := ⟨_, rfl⟩
      have Hc4 := Troupe.hid hc4
      obtain ⟨X3, hX3⟩ : ∃ b, lexV e.name = b := ⟨_, rfl⟩
      have HX3 := Troupe.hid hX3
      obtain ⟨c6, hc6⟩ : ∃ b, (nm && !X3) = b := ⟨_, rfl⟩
      have Hc6 := Troupe.hid hc6
      obtain ⟨y6, hy6⟩ : ∃ b, (!e.name.toList.isEmpty) = b := ⟨_, rfl⟩
      have Hy6 := Troupe.hid hy6
      obtain ⟨c7, hc7⟩ : ∃ b, (c6 || (!nm && y6)) = b := ⟨_, rfl⟩
      have Hc7 := Troupe.hid hc7
      obtain ⟨x3, hx3⟩ : ∃ b, decide (e.delay < 1) = b := ⟨_, rfl⟩
      have Hx3 := Troupe.hid hx3
      obtain ⟨x4, hx4⟩ : ∃ b, decide (4095 < e.delay) = b := ⟨_, rfl⟩
      have Hx4 := Troupe.hid hx4
      obtain ⟨c8, hc8⟩ : ∃ b, (x3 || x4) = b := ⟨_, rfl⟩
      have Hc8 := Troupe.hid hc8
      obtain ⟨c9, hc9⟩ : ∃ b, (dl && c8) = b := ⟨_, rfl⟩
      have Hc9 := Troupe.hid hc9
      obtain ⟨y9, hy9⟩ : ∃ b, (e.delay != 0) = b := ⟨_, rfl⟩
      have Hy9 := Troupe.hid hy9
      obtain ⟨c10, hc10⟩ : ∃ b, (c9 || (!dl && y9)) = b := ⟨_, rfl⟩
      have Hc10 := Troupe.hid hc10
      obtain ⟨x5, hx5⟩ : ∃ b, decide (e.v < 0) = b := ⟨_, rfl⟩
      have Hx5 := Troupe.hid hx5
      obtain ⟨x6, hx6⟩ : ∃ b, decide (2 < e.v) = b := ⟨_, rfl⟩
      have Hx6 := Troupe.hid hx6
      obtain ⟨c11, hc11⟩ : ∃ b, (x5 || x6) = b := ⟨_, rfl⟩
      have Hc11 := Troupe.hid hc11
      obtain ⟨y11, hy11⟩ : ∃ b, (e.v != 0) = b := ⟨_, rfl⟩
      have Hy11 := Troupe.hid hy11
      obtain ⟨c12, hc12⟩ : ∃ b, (c11 || (!vl && y11)) = b := ⟨_, rfl⟩
      have Hc12 := Troupe.hid hc12
      obtain ⟨x7, hx7⟩ : ∃ b, decide (e.n < 0) = b := ⟨_, rfl⟩
      have Hx7 := Troupe.hid hx7
      obtain ⟨x8, hx8⟩ : ∃ b, decide (255 < e.n) = b := ⟨_, rfl⟩
      have Hx8 := Troupe.hid hx8
      obtain ⟨c13, hc13⟩ : ∃ b, (x7 || x8) = b := ⟨_, rfl⟩
      have Hc13 := Troupe.hid hc13
      obtain ⟨hs, hhs⟩ : ∃ b, (e.v == 2) = b := ⟨_, rfl⟩
      have Hhs := Troupe.hid hhs
      obtain ⟨y13, hy13⟩ : ∃ b, (e.n != 0) = b := ⟨_, rfl⟩
      have Hy13 := Troupe.hid hy13
      obtain ⟨c14, hc14⟩ : ∃ b, (c13 || (!hs && y13)) = b := ⟨_, rfl⟩
      have Hc14 := Troupe.hid hc14
      obtain ⟨z1, hz1⟩ : ∃ b, (e.d == 2) = b := ⟨_, rfl⟩
      have Hz1 := Troupe.hid hz1
      obtain ⟨c15, hc15⟩ : ∃ b, (z1 && !kn) = b := ⟨_, rfl⟩
      have Hc15 := Troupe.hid hc15
      obtain ⟨z2, hz2⟩ : ∃ b, (e.d == 3) = b := ⟨_, rfl⟩
      have Hz2 := Troupe.hid hz2
      obtain ⟨c16, hc16⟩ : ∃ b, (c15 || (z2 && !st)) = b := ⟨_, rfl⟩
      have Hc16 := Troupe.hid hc16
      obtain ⟨z3, hz3⟩ : ∃ b, (e.d == 11) = b := ⟨_, rfl⟩
      have Hz3 := Troupe.hid hz3
      obtain ⟨z4, hz4⟩ : ∃ b, (e.d == 12) = b := ⟨_, rfl⟩
      have Hz4 := Troupe.hid hz4
      obtain ⟨c17, hc17⟩ : ∃ b, (z3 || z4) = b := ⟨_, rfl⟩
      have Hc17 := Troupe.hid hc17
      obtain ⟨c18, hc18⟩ : ∃ b, (c17 && !last) = b := ⟨_, rfl⟩
      have Hc18 := Troupe.hid hc18
      clear hX1 hX2 hX3
      have FIN : Hid (effV ks k.sts e last = firstV [⟨c1, 43⟩, ⟨c2, 43⟩, ⟨c4, 43⟩, ⟨c7, 43⟩, ⟨c10, 43⟩, ⟨c12, 43⟩, ⟨c14, 43⟩, ⟨c16, 42⟩, ⟨c18, 44⟩]) := by
        unfold Hid effV
        rw [HR.out, HS.out, HNM.out, HVL.out, HDL.out, HKN.out, HSTT.out]
        simp only [Bool.true_and, Bool.not_true, Bool.false_and, Bool.or_false]
        rw [Hx1.out, Hx2.out, Hc1.out, HX1.out, Hc2.out, HX2.out, Hc4.out, HX3.out, Hc6.out, Hy6.out, Hc7.out, Hx3.out, Hx4.out, Hc8.out, Hc9.out, Hy9.out, Hc10.out, Hx5.out, Hx6.out, Hc11.out, Hy11.out, Hc12.out, Hx7.out, Hx8.out, Hc13.out, Hhs.out, Hy13.out, Hc14.out, Hz1.out, Hc15.out, Hz2.out, Hc16.out, Hz3.out, Hz4.out, Hc17.out, Hc18.out]
      refine region_upF (.q 0 (.q 1 (.q 2 (.q 3 (.q 4 (.q 5 (.q 6 (.q 7 (.q 8 (.q 9 (.q 10 (.q 12 (.q 13 (.q 27 (.q 45 (.q 62 (.q 83 (.q 84 (.q 85 (.q 101 (.q 102 (.q 103 (.q 119 (.q 120 (.q 121 (.q 136 (.q 137 (.q 138 (.one 11 (.q 14 (.q 15 (.q 16 (.q 17 (.q 18 (.q 19 (.q 20 (.q 21 (.q 22 (.q 23 (.q 24 (.q 25 (.q 26 (.q 28 (.q 30 (.q 31 (.one 29 (.q 32 (.q 33 (.q 34 (.q 35 (.q 36 (.q 37 (.q 38 (.q 39 (.q 40 (.q 41 (.q 42 (.q 43 (.q 44 (.q 46 (.q 47 (.q 48 (.q 49 (.q 50 (.q 51 (.q 52 (.q 53 (.q 54 (.q 55 (.q 56 (.q 57 (.q 58 (.q 59 (.q 60 (.q 61 (.q 63 (.q 64 (.q 65 (.q 66 (.q 67 (.q 68 (.q 69 (.q 70 (.q 71 (.q 72 (.q 73 (.q 74 (.q 75 (.q 76 (.q 77 (.q 78 (.q 79 (.q 80 (.q 81 (.q 82 (.q 86 (.q 87 (.q 88 (.q 89 (.q 90 (.q 91 (.q 92 (.q 93 (.q 94 (.q 95 (.q 96 (.q 97 (.q 98 (.q 99 (.q 100 (.q 104 (.q 105 (.q 106 (.q 107 (.q 108 (.q 109 (.q 110 (.q 111 (.q 112 (.q 113 (.q 114 (.q 115 (.q 116 (.q 117 (.q 118 (.q 122 (.q 123 (.q 124 (.q 125 (.q 126 (.q 127 (.q 128 (.q 129 (.q 130 (.q 131 (.q 132 (.q 133 (.q 134 (.q 135 (.q 139 (.q 140 (.q 141 (.q 142 (.q 143 (.q 144 (.q 145 (.q 146 (.q 147 (.q 148 (.one 149 (.one 150 (.q 151 .done)))))))))))))))))))))))))))))))))))))))))))))))))))))))))))))))))))))))))))))))))))))))))))))))))))))))))))))))))))))))))))))))))))))))))))))))))))))))) [⟨some 37, [6], []⟩, ⟨some 38, [37], [0]⟩, ⟨some 39, [38], [1]⟩, ⟨some 40, [39], [2]⟩, ⟨some 41, [6, 40], [3]⟩, ⟨some 42, [41, 40], [4, 3]⟩, ⟨some 43, [42, 40], [5, 3]⟩, ⟨some 44, [40, 43], [3, 6]⟩, ⟨some 45, [44], [7]⟩, ⟨some 46, [9], []⟩, ⟨some 47, [46], [9, 3]⟩, ⟨some 48, [47], [10]⟩, ⟨some 49, [6, 47], [10]⟩, ⟨some 50, [49, 47], [12, 10]⟩, ⟨some 51, [48, 50, 47], [11, 13, 10, 10]⟩, ⟨some 52, [51, 47], [14, 10]⟩, ⟨some 53, [47, 52], [10, 15]⟩, ⟨some 54, [53], [16, 14]⟩, ⟨some 55, [9, 54], [17]⟩, ⟨some 56, [55, 54], [18, 17]⟩, ⟨some 57, [56, 54], [19, 17, 17]⟩, ⟨some 58, [6, 57], [20]⟩, ⟨some 59, [58, 57], [21, 20]⟩, ⟨some 60, [59, 57], [22, 20]⟩, ⟨some 61, [57, 60, 54], [20, 23, 17]⟩, ⟨some 62, [54, 61], [17, 24]⟩, ⟨some 63, [62], [25]⟩, ⟨some 64, [10], []⟩, ⟨some 65, [64], [27, 20]⟩, ⟨some 66, [65], [28]⟩, ⟨some 67, [6, 65], [28]⟩, ⟨some 68, [67, 65], [30, 28]⟩, ⟨some 69, [66, 68, 65], [29, 31, 28, 28]⟩, ⟨some 70, [69, 65], [32, 28]⟩, ⟨some 71, [65, 70], [28, 33]⟩, ⟨some 72, [71], [34, 32]⟩, ⟨some 73, [10, 72], [35]⟩, ⟨some 74, [73, 72], [36, 35]⟩, ⟨some 75, [74, 72], [37, 35, 35]⟩, ⟨some 76, [6, 75], [38]⟩, ⟨some 77, [76, 75], [39, 38]⟩, ⟨some 78, [77, 75], [40, 38]⟩, ⟨some 79, [75, 78, 72], [38, 41, 35]⟩, ⟨some 80, [72, 79], [35, 42]⟩, ⟨some 81, [80], [43]⟩, ⟨some 82, [11], []⟩, ⟨some 83, [82], [45, 38]⟩, ⟨some 84, [6, 83], [46]⟩, ⟨some 85, [84, 83], [47, 46]⟩, ⟨some 86, [85, 83], [48, 46, 46]⟩, ⟨some 87, [86, 83], [49, 46]⟩, ⟨some 88, [83, 87], [46, 50]⟩, ⟨some 89, [88], [51, 49]⟩, ⟨some 90, [11, 89], [52]⟩, ⟨some 91, [90, 89], [53, 52]⟩, ⟨some 92, [91, 89], [54, 52, 52]⟩, ⟨some 93, [6, 92], [55]⟩, ⟨some 94, [93, 92], [56, 55]⟩, ⟨some 95, [94, 92], [57, 55]⟩, ⟨some 96, [92, 95, 89], [55, 58, 52]⟩, ⟨some 97, [89, 96], [52, 59]⟩, ⟨some 98, [97], [60]⟩, ⟨some 99, [13], []⟩, ⟨some 100, [99], [62, 55]⟩, ⟨some 101, [6, 100], [63]⟩, ⟨some 102, [101, 100], [64, 63]⟩, ⟨some 103, [102, 100], [65, 63]⟩, ⟨some 104, [103, 100], [66, 63, 63]⟩, ⟨some 105, [6, 104], [67]⟩, ⟨some 106, [105, 104], [68, 67]⟩, ⟨some 107, [106, 104], [69, 67]⟩, ⟨some 108, [104, 107, 100], [67, 70, 63]⟩, ⟨some 109, [100, 108], [63, 71]⟩, ⟨some 110, [109], [72, 67]⟩, ⟨some 111, [13, 110], [73]⟩, ⟨some 112, [111, 110], [74, 73]⟩, ⟨some 113, [112, 110], [75, 73, 73]⟩, ⟨some 114, [6, 113], [76]⟩, ⟨some 115, [114, 113], [77, 76]⟩, ⟨some 116, [115, 113], [78, 76]⟩, ⟨some 117, [113, 116, 110], [76, 79, 73]⟩, ⟨some 118, [110, 117], [73, 80]⟩, ⟨some 119, [118], [81]⟩, ⟨some 120, [6], []⟩, ⟨some 121, [120], [83]⟩, ⟨some 122, [121], [84]⟩, ⟨some 123, [122], [85, 76]⟩, ⟨some 124, [6, 123], [86]⟩, ⟨some 125, [124, 123], [87, 86]⟩, ⟨some 126, [125, 123], [88, 86]⟩, ⟨some 127, [123, 126], [86, 89]⟩, ⟨some 128, [127], [90, 86]⟩, ⟨some 129, [12, 128], [91]⟩, ⟨some 130, [129, 128], [92, 91]⟩, ⟨some 131, [130, 128], [93, 91, 91]⟩, ⟨some 132, [6, 131], [94]⟩, ⟨some 133, [132, 131], [95, 94]⟩, ⟨some 134, [133, 131], [96, 94]⟩, ⟨some 135, [131, 134, 128], [94, 97, 91]⟩, ⟨some 136, [128, 135], [91, 98]⟩, ⟨some 137, [136], [99]⟩, ⟨some 138, [6], []⟩, ⟨some 139, [138], [101]⟩, ⟨some 140, [139], [102]⟩, ⟨some 141, [140], [103, 94]⟩, ⟨some 142, [6, 141], [104]⟩, ⟨some 143, [142, 141], [105, 104]⟩, ⟨some 144, [143, 141], [106, 104]⟩, ⟨some 145, [141, 144], [104, 107]⟩, ⟨some 146, [145], [108, 104]⟩, ⟨some 147, [16, 146], [109]⟩, ⟨some 148, [147, 146], [110, 109]⟩, ⟨some 149, [148, 146], [111, 109, 109]⟩, ⟨some 150, [6, 149], [112]⟩, ⟨some 151, [150, 149], [113, 112]⟩, ⟨some 152, [151, 149], [114, 112]⟩, ⟨some 153, [149, 152, 146], [112, 115, 109]⟩, ⟨some 154, [146, 153], [109, 116]⟩, ⟨some 155, [154], [117]⟩, ⟨some 156, [6], []⟩, ⟨some 157, [156], [119]⟩, ⟨some 158, [157], [120]⟩, ⟨some 159, [158], [121, 112]⟩, ⟨some 160, [14, 159], [122]⟩, ⟨some 161, [160, 159], [123, 122]⟩, ⟨some 162, [159, 161], [122, 124]⟩, ⟨some 163, [162], [125, 122]⟩, ⟨some 164, [6, 163], [126]⟩, ⟨some 165, [164, 163], [127, 126]⟩, ⟨some 166, [165, 163], [128, 126]⟩, ⟨some 167, [166, 163], [129, 126, 126]⟩, ⟨some 168, [15, 167], [130]⟩, ⟨some 169, [168, 167], [131, 130]⟩, ⟨some 170, [167, 169, 163], [130, 132, 126]⟩, ⟨some 171, [163, 170], [126, 133]⟩, ⟨some 172, [171], [134]⟩, ⟨some 173, [6], []⟩, ⟨some 174, [173], [136]⟩, ⟨some 175, [174], [137]⟩, ⟨some 176, [175], [138, 130]⟩, ⟨some 177, [6, 176], [139]⟩, ⟨some 178, [177, 176], [140, 139]⟩, ⟨some 179, [178, 176], [141, 139]⟩, ⟨some 180, [176, 179], [139, 142]⟩, ⟨some 181, [180], [143, 139]⟩, ⟨some 182, [3, 181], [144]⟩, ⟨some 183, [182, 181], [145, 144]⟩, ⟨some 184, [181, 183], [144, 146]⟩, ⟨some 185, [184], [147]⟩, ⟨some 186, [45, 63, 81, 98, 119, 137, 155, 172, 185], [8, 26, 44, 61, 82, 100, 118, 135, 148]⟩, ⟨some 187, [186], [149, 144]⟩, ⟨some 8, [187], [150, 150, 0, 1, 2, 3, 4, 5, 6, 7, 8, 9, 10, 11, 12, 13, 14, 15, 16, 17, 18, 19, 20, 21, 22, 23, 24, 25, 26, 27, 28, 29, 30, 31, 32, 33, 34, 35, 36, 37, 38, 39, 40, 41, 42, 43, 44, 45, 46, 47, 48, 49, 50, 51, 52, 53, 54, 55, 56, 57, 58, 59, 60, 61, 62, 63, 64, 65, 66, 67, 68, 69, 70, 71, 72, 73, 74, 75, 76, 77, 78, 79, 80, 81, 82, 83, 84, 85, 86, 87, 88, 89, 90, 91, 92, 93, 94, 95, 96, 97, 98, 99, 100, 101, 102, 103, 104, 105, 106, 107, 108, 109, 110, 111, 112, 113, 114, 115, 116, 117, 118, 119, 120, 121, 122, 123, 124, 125, 126, 127, 128, 129, 130, 131, 132, 133, 134, 135, 136, 137, 138, 139, 140, 141, 142, 143, 144, 145, 146, 147, 148, 149, 150]⟩] (by kernel_rfl) (by kernel_rfl) (by kernel_rfl) (by kernel_rfl) (fun _ _ d _ _ h => by cases d <;> exact h) ?_
      iterate 4 (refine wpUP_q rfl (fun K hK => ?_); go_simp; refine hK _ ?_; clear hK K)
      apply wpUP_g2 rfl
      case hb => intro F hF; go_simp; exact hF
      case h1 => intro hb K hK; (try simp only [Bool.not_eq_true'] at hb); go_simp; exact hK
      apply wpUP_g2 rfl
      case hb => intro F hF; go_simp; exact hF
      case h1 => intro hb K hK; (try simp only [Bool.not_eq_true'] at hb); go_simp; exact hK
      apply wpUP_g2 rfl
      case hb => intro F hF; go_simp; exact hF
      case h1 => intro hb K hK; (try simp only [Bool.not_eq_true'] at hb); go_simp; exact hK
      iterate 21 (refine wpUP_q rfl (fun K hK => ?_); go_simp; refine hK _ ?_; clear hK K)
      refine wpUP_one rfl ?_
      intro wx hux
      go_wp2_with fail
      refine ⟨(Below.refl _ _).alloc (Nat.le_refl _) _, ?_⟩
      have hblk := Blk.new wx 9 [.string ⟨#[115, 101, 108, 102]⟩, .string ⟨#[115, 101, 110, 100, 101, 114]⟩, .string ⟨#[112, 97, 114, 101, 110, 116]⟩, .string ⟨#[97]⟩, .string ⟨#[98]⟩, .string ⟨#[99]⟩, .string ⟨#[100]⟩]
      have UWB := Troupe.hid (Up.trans (id hux) ((Below.refl _ _).alloc (Nat.le_refl _) _ : Up wx (wx.alloc (.cells #[.string ⟨#[115, 101, 108, 102]⟩, .string ⟨#[115, 101, 110, 100, 101, 114]⟩, .string ⟨#[112, 97, 114, 101, 110, 116]⟩, .string ⟨#[97]⟩, .string ⟨#[98]⟩, .string ⟨#[99]⟩, .string ⟨#[100]⟩] 9))))
      have HBS := Troupe.hid hblk
      clear hblk hux fe hne
      generalize wx.alloc (.cells #[.string ⟨#[115, 101, 108, 102]⟩, .string ⟨#[115, 101, 110, 100, 101, 114]⟩, .string ⟨#[112, 97, 114, 101, 110, 116]⟩, .string ⟨#[97]⟩, .string ⟨#[98]⟩, .string ⟨#[99]⟩, .string ⟨#[100]⟩] 9) = wb at *
      generalize wx.heap.size = ga at *
      have hne := UW.inh wb
      have fe : ∀ (x : UW wb) (i : Nat), x.w.cell? ⟨w.heap.size + 1 + 1, i, none⟩ = (Eff.cells e)[i]? := fun x => (HK2.out.below (UWB.out.trans x.h) HK2.out.lt).cell
      dsimp only [Eff.cells] at fe
      have LX : Hid (∀ x : UW wb, Calls Try.prog 50 #[.string e.name] x.w fun en w' => en = .returned (.bool X3) ∧ Up x.w w') := fun x => (lex_any e.name x.w).mono fun _ _ ⟨h1, h2⟩ => ⟨by rw [h1, HX3.out], h2 ▸ Up.refl _⟩
      have HT : Hid (∀ x : UW wb, Calls Try.prog 97 #[.slice (some ⟨ga, 0, none⟩) 7 7, .string e.ref] x.w fun en w' => en = .returned (.bool X1) ∧ Up x.w w') := fun x => (hasT_any (some ⟨ga, 0, none⟩) 7 7 x.w.heap.size [⟨#[115, 101, 108, 102]⟩, ⟨#[115, 101, 110, 100, 101, 114]⟩, ⟨#[112, 97, 114, 101, 110, 116]⟩, ⟨#[97]⟩, ⟨#[98]⟩, ⟨#[99]⟩, ⟨#[100]⟩] e.ref x.w rfl (by unfold maxLen; omega) ((HBS.out.below x.h HBS.out.lt).blk_cells.mono (by have := (HBS.out.below x.h HBS.out.lt).lt; omega))).mono fun _ _ ⟨h1, h2⟩ => ⟨by rw [h1]; exact congrArg (fun b => Ending.returned (.bool b)) HX1.out, h2 ▸ Up.refl _⟩
      refine wpUP_q rfl (fun K hK => ?_)
      go_simp
      refine ⟨_, HT.out, hK _ ?_⟩
      clear hK K
      iterate 3 (refine wpUP_q rfl (fun K hK => ?_); go_simp; refine hK _ ?_; clear hK K)
      apply wpUP_g2 rfl
      case hb => intro F hF; go_simp; exact hF
      case h1 => intro hb K hK; (try simp only [Bool.not_eq_true'] at hb); go_simp; exact hK
      apply wpUP_g2 rfl
      case hb => intro F hF; go_simp; exact hF
      case h1 => intro hb K hK; (try simp only [Bool.not_eq_true'] at hb); go_simp; exact hK
      apply wpUP_g2 rfl
      case hb => intro F hF; go_simp; exact hF
      case h1 => intro hb K hK; (try simp only [Bool.not_eq_true'] at hb); go_simp; exact hK
      (try go_simp)
      apply wpUP_nF rfl rfl rfl rfl
      (try go_simp)
      apply wpUP_nF rfl rfl rfl rfl
      (try go_simp)
      apply wpUP_nF rfl rfl rfl rfl
      apply wpUP_g2 rfl
      case hb => intro F hF; go_simp; exact hF
      case h1 => intro hb K hK; (try simp only [Bool.not_eq_true'] at hb); go_simp; exact hK
      iterate 5 (refine wpUP_q rfl (fun K hK => ?_); go_simp; refine hK _ ?_; clear hK K)
      refine wpUP_one rfl ?_
      intro wx hux
      go_wp2_with fail
      refine ⟨(Below.refl _ _).alloc (Nat.le_refl _) _, ?_⟩
      have hblk := Blk.new wx 9 [.string ⟨#[97]⟩, .string ⟨#[98]⟩, .string ⟨#[99]⟩, .string ⟨#[100]⟩]
      have UWC := Troupe.hid (Up.trans (UWB.out.trans hux) ((Below.refl _ _).alloc (Nat.le_refl _) _ : Up wx (wx.alloc (.cells #[.string ⟨#[97]⟩, .string ⟨#[98]⟩, .string ⟨#[99]⟩, .string ⟨#[100]⟩] 9))))
      have HBS := Troupe.hid hblk
      clear hblk hux fe hne
      generalize wx.alloc (.cells #[.string ⟨#[97]⟩, .string ⟨#[98]⟩, .string ⟨#[99]⟩, .string ⟨#[100]⟩] 9) = wc at *
      generalize wx.heap.size = gb at *
      have hne := UW.inh wc
      have fe : ∀ (x : UW wc) (i : Nat), x.w.cell? ⟨w.heap.size + 1 + 1, i, none⟩ = (Eff.cells e)[i]? := fun x => (HK2.out.below (UWC.out.trans x.h) HK2.out.lt).cell
      dsimp only [Eff.cells] at fe
      have LX : Hid (∀ x : UW wc, Calls Try.prog 50 #[.string e.name] x.w fun en w' => en = .returned (.bool X3) ∧ Up x.w w') := fun x => (lex_any e.name x.w).mono fun _ _ ⟨h1, h2⟩ => ⟨by rw [h1, HX3.out], h2 ▸ Up.refl _⟩
      have HT : Hid (∀ x : UW wc, Calls Try.prog 97 #[.slice (some ⟨gb, 0, none⟩) 4 4, .string e.slot] x.w fun en w' => en = .returned (.bool X2) ∧ Up x.w w') := fun x => (hasT_any (some ⟨gb, 0, none⟩) 4 4 x.w.heap.size [⟨#[97]⟩, ⟨#[98]⟩, ⟨#[99]⟩, ⟨#[100]⟩] e.slot x.w rfl (by unfold maxLen; omega) ((HBS.out.below x.h HBS.out.lt).blk_cells.mono (by have := (HBS.out.below x.h HBS.out.lt).lt; omega))).mono fun _ _ ⟨h1, h2⟩ => ⟨by rw [h1]; exact congrArg (fun b => Ending.returned (.bool b)) HX2.out, h2 ▸ Up.refl _⟩
      refine wpUP_q rfl (fun K hK => ?_)
      go_simp
      refine ⟨_, HT.out, hK _ ?_⟩
      clear hK K
      iterate 3 (refine wpUP_q rfl (fun K hK => ?_); go_simp; refine hK _ ?_; clear hK K)
      apply wpUP_g2 rfl
      case hb => intro F hF; go_simp; exact hF
      case h1 => intro hb K hK; (try simp only [Bool.not_eq_true'] at hb); go_simp; exact hK
      apply wpUP_g2 rfl
      case hb => intro F hF; go_simp; exact hF
      case h1 => intro hb K hK; (try simp only [Bool.not_eq_true'] at hb); go_simp; exact hK
      apply wpUP_g2 rfl
      case hb => intro F hF; go_simp; exact hF
      case h1 => intro hb K hK; (try simp only [Bool.not_eq_true'] at hb); go_simp; exact hK
      (try go_simp)
      apply wpUP_nF rfl rfl rfl rfl
      (try go_simp)
      apply wpUP_nF rfl rfl rfl rfl
      (try go_simp)
      apply wpUP_nF rfl rfl rfl rfl
      apply wpUP_g2 rfl
      case hb => intro F hF; go_simp; exact hF
      case h1 => intro hb K hK; (try simp only [Bool.not_eq_true'] at hb); go_simp; exact hK
      iterate 3 (refine wpUP_q rfl (fun K hK => ?_); go_simp; refine hK _ ?_; clear hK K)
      apply wpUP_g2 rfl
      case hb => intro F hF; go_simp; exact hF
      case h1 => intro hb K hK; (try simp only [Bool.not_eq_true'] at hb); go_simp; exact hK
      apply wpUP_g2 rfl
      case hb => intro F hF; go_simp; exact hF
      case h1 => intro hb K hK; (try simp only [Bool.not_eq_true'] at hb); go_simp; exact hK
      apply wpUP_g2 rfl
      case hb => intro F hF; go_simp; exact hF
      case h1 => intro hb K hK; go_simp; exact ⟨_, LX.out, hK⟩
      apply wpUP_g2 rfl
      case hb => intro F hF; go_simp; exact hF
      case h1 => intro hb K hK; (try simp only [Bool.not_eq_true'] at hb); go_simp; exact hK
      iterate 2 (refine wpUP_q rfl (fun K hK => ?_); go_simp; refine hK _ ?_; clear hK K)
      apply wpUP_g2 rfl
      case hb => intro F hF; go_simp; exact hF
      case h1 => intro hb K hK; (try simp only [Bool.not_eq_true'] at hb); go_simp; exact hK
      apply wpUP_g2 rfl
      case hb => intro F hF; go_simp; exact hF
      case h1 => intro hb K hK; (try simp only [Bool.not_eq_true'] at hb); go_simp; exact hK
      apply wpUP_g2 rfl
      case hb => intro F hF; go_simp; exact hF
      case h1 => intro hb K hK; (try simp only [Bool.not_eq_true'] at hb); go_simp; exact hK
      (try go_simp)
      apply wpUP_gFt rfl rfl rfl rfl
      case h1 => intro hb K hK; simp only [Bool.and_eq_true, Bool.not_eq_true'] at hb; go_simp; exact hK
      (try go_simp)
      apply wpUP_gFt rfl rfl rfl rfl
      case h1 => intro hb K hK; simp only [Bool.and_eq_true, Bool.not_eq_true'] at hb; go_simp; exact hK
      (try go_simp)
      apply wpUP_gFt rfl rfl rfl rfl
      case h1 => intro hb K hK; simp only [Bool.and_eq_true, Bool.not_eq_true'] at hb; go_simp; exact hK
      apply wpUP_g2 rfl
      case hb => intro F hF; go_simp; exact hF
      case h1 => intro hb K hK; (try simp only [Bool.not_eq_true'] at hb); go_simp; exact hK
      iterate 3 (refine wpUP_q rfl (fun K hK => ?_); go_simp; refine hK _ ?_; clear hK K)
      apply wpUP_g2 rfl
      case hb => intro F hF; go_simp; exact hF
      case h1 => intro hb K hK; (try simp only [Bool.not_eq_true'] at hb); go_simp; exact hK
      apply wpUP_g2 rfl
      case hb => intro F hF; go_simp; exact hF
      case h1 => intro hb K hK; (try simp only [Bool.not_eq_true'] at hb); go_simp; exact hK
      apply wpUP_g2 rfl
      case hb => intro F hF; go_simp; exact hF
      case h1 => intro hb K hK; (try simp only [Bool.not_eq_true'] at hb); go_simp; exact hK
      apply wpUP_g2 rfl
      case hb => intro F hF; go_simp; exact hF
      case h1 => intro hb K hK; (try simp only [Bool.not_eq_true'] at hb); go_simp; exact hK
      (try go_simp)
      apply wpUP_gTf rfl rfl rfl rfl
      case h1 => intro hb K hK; simp only [Bool.and_eq_true, Bool.not_eq_true'] at hb; go_simp; exact hK
      (try go_simp)
      apply wpUP_gTf rfl rfl rfl rfl
      case h1 => intro hb K hK; simp only [Bool.and_eq_true, Bool.not_eq_true'] at hb; go_simp; exact hK
      (try go_simp)
      apply wpUP_gTf rfl rfl rfl rfl
      case h1 => intro hb K hK; simp only [Bool.and_eq_true, Bool.not_eq_true'] at hb; go_simp; exact hK
      apply wpUP_g2 rfl
      case hb => intro F hF; go_simp; exact hF
      case h1 => intro hb K hK; (try simp only [Bool.not_eq_true'] at hb); go_simp; exact hK
      iterate 2 (refine wpUP_q rfl (fun K hK => ?_); go_simp; refine hK _ ?_; clear hK K)
      apply wpUP_g2 rfl
      case hb => intro F hF; go_simp; exact hF
      case h1 => intro hb K hK; (try simp only [Bool.not_eq_true'] at hb); go_simp; exact hK
      apply wpUP_g2 rfl
      case hb => intro F hF; go_simp; exact hF
      case h1 => intro hb K hK; (try simp only [Bool.not_eq_true'] at hb); go_simp; exact hK
      apply wpUP_g2 rfl
      case hb => intro F hF; go_simp; exact hF
      case h1 => intro hb K hK; (try simp only [Bool.not_eq_true'] at hb); go_simp; exact hK
      (try go_simp)
      apply wpUP_gFt rfl rfl rfl rfl
      case h1 => intro hb K hK; simp only [Bool.and_eq_true, Bool.not_eq_true'] at hb; go_simp; exact hK
      (try go_simp)
      apply wpUP_gFt rfl rfl rfl rfl
      case h1 => intro hb K hK; simp only [Bool.and_eq_true, Bool.not_eq_true'] at hb; go_simp; exact hK
      (try go_simp)
      apply wpUP_gFt rfl rfl rfl rfl
      case h1 => intro hb K hK; simp only [Bool.and_eq_true, Bool.not_eq_true'] at hb; go_simp; exact hK
      apply wpUP_g2 rfl
      case hb => intro F hF; go_simp; exact hF
      case h1 => intro hb K hK; (try simp only [Bool.not_eq_true'] at hb); go_simp; exact hK
      iterate 3 (refine wpUP_q rfl (fun K hK => ?_); go_simp; refine hK _ ?_; clear hK K)
      apply wpUP_g2 rfl
      case hb => intro F hF; go_simp; exact hF
      case h1 => intro hb K hK; (try simp only [Bool.not_eq_true'] at hb); go_simp; exact hK
      apply wpUP_g2 rfl
      case hb => intro F hF; go_simp; exact hF
      case h1 => intro hb K hK; (try simp only [Bool.not_eq_true'] at hb); go_simp; exact hK
      apply wpUP_g2 rfl
      case hb => intro F hF; go_simp; exact hF
      case h1 => intro hb K hK; (try simp only [Bool.not_eq_true'] at hb); go_simp; exact hK
      iterate 2 (refine wpUP_q rfl (fun K hK => ?_); go_simp; refine hK _ ?_; clear hK K)
      apply wpUP_g2 rfl
      case hb => intro F hF; go_simp; exact hF
      case h1 => intro hb K hK; (try simp only [Bool.not_eq_true'] at hb); go_simp; exact hK
      apply wpUP_g2 rfl
      case hb => intro F hF; go_simp; exact hF
      case h1 => intro hb K hK; (try simp only [Bool.not_eq_true'] at hb); go_simp; exact hK
      apply wpUP_g2 rfl
      case hb => intro F hF; go_simp; exact hF
      case h1 => intro hb K hK; (try simp only [Bool.not_eq_true'] at hb); go_simp; exact hK
      (try go_simp)
      apply wpUP_gFt rfl rfl rfl rfl
      case h1 => intro hb K hK; simp only [Bool.and_eq_true, Bool.not_eq_true'] at hb; go_simp; exact hK
      (try go_simp)
      apply wpUP_gFt rfl rfl rfl rfl
      case h1 => intro hb K hK; simp only [Bool.and_eq_true, Bool.not_eq_true'] at hb; go_simp; exact hK
      (try go_simp)
      apply wpUP_gFt rfl rfl rfl rfl
      case h1 => intro hb K hK; simp only [Bool.and_eq_true, Bool.not_eq_true'] at hb; go_simp; exact hK
      apply wpUP_g2 rfl
      case hb => intro F hF; go_simp; exact hF
      case h1 => intro hb K hK; (try simp only [Bool.not_eq_true'] at hb); go_simp; exact hK
      iterate 3 (refine wpUP_q rfl (fun K hK => ?_); go_simp; refine hK _ ?_; clear hK K)
      apply wpUP_g2 rfl
      case hb => intro F hF; go_simp; exact hF
      case h1 => intro hb K hK; (try simp only [Bool.not_eq_true'] at hb); go_simp; exact hK
      apply wpUP_g2 rfl
      case hb => intro F hF; go_simp; exact hF
      case h1 => intro hb K hK; (try simp only [Bool.not_eq_true'] at hb); go_simp; exact hK
      apply wpUP_g2 rfl
      case hb => intro F hF; go_simp; exact hF
      case h1 => intro hb K hK; (try simp only [Bool.not_eq_true'] at hb); go_simp; exact hK
      iterate 2 (refine wpUP_q rfl (fun K hK => ?_); go_simp; refine hK _ ?_; clear hK K)
      apply wpUP_g2 rfl
      case hb => intro F hF; go_simp; exact hF
      case h1 => intro hb K hK; (try simp only [Bool.not_eq_true'] at hb); go_simp; exact hK
      apply wpUP_g2 rfl
      case hb => intro F hF; go_simp; exact hF
      case h1 => intro hb K hK; (try simp only [Bool.not_eq_true'] at hb); go_simp; exact hK
      apply wpUP_g2 rfl
      case hb => intro F hF; go_simp; exact hF
      case h1 => intro hb K hK; (try simp only [Bool.not_eq_true'] at hb); go_simp; exact hK
      (try go_simp)
      apply wpUP_gFt rfl rfl rfl rfl
      case h1 => intro hb K hK; simp only [Bool.and_eq_true, Bool.not_eq_true'] at hb; go_simp; exact hK
      (try go_simp)
      apply wpUP_gFt rfl rfl rfl rfl
      case h1 => intro hb K hK; simp only [Bool.and_eq_true, Bool.not_eq_true'] at hb; go_simp; exact hK
      (try go_simp)
      apply wpUP_gFt rfl rfl rfl rfl
      case h1 => intro hb K hK; simp only [Bool.and_eq_true, Bool.not_eq_true'] at hb; go_simp; exact hK
      apply wpUP_g2 rfl
      case hb => intro F hF; go_simp; exact hF
      case h1 => intro hb K hK; (try simp only [Bool.not_eq_true'] at hb); go_simp; exact hK
      iterate 3 (refine wpUP_q rfl (fun K hK => ?_); go_simp; refine hK _ ?_; clear hK K)
      apply wpUP_g2 rfl
      case hb => intro F hF; go_simp; exact hF
      case h1 => intro hb K hK; (try simp only [Bool.not_eq_true'] at hb); go_simp; exact hK
      apply wpUP_g2 rfl
      case hb => intro F hF; go_simp; exact hF
      case h1 => intro hb K hK; (try simp only [Bool.not_eq_true'] at hb); go_simp; exact hK
      iterate 2 (refine wpUP_q rfl (fun K hK => ?_); go_simp; refine hK _ ?_; clear hK K)
      apply wpUP_g2 rfl
      case hb => intro F hF; go_simp; exact hF
      case h1 => intro hb K hK; (try simp only [Bool.not_eq_true'] at hb); go_simp; exact hK
      apply wpUP_g2 rfl
      case hb => intro F hF; go_simp; exact hF
      case h1 => intro hb K hK; (try simp only [Bool.not_eq_true'] at hb); go_simp; exact hK
      apply wpUP_g2 rfl
      case hb => intro F hF; go_simp; exact hF
      case h1 => intro hb K hK; (try simp only [Bool.not_eq_true'] at hb); go_simp; exact hK
      apply wpUP_g2 rfl
      case hb => intro F hF; go_simp; exact hF
      case h1 => intro hb K hK; (try simp only [Bool.not_eq_true'] at hb); go_simp; exact hK
      (try go_simp)
      apply wpUP_gFt rfl rfl rfl rfl
      case h1 => intro hb K hK; simp only [Bool.and_eq_true, Bool.not_eq_true'] at hb; go_simp; exact hK
      (try go_simp)
      apply wpUP_gFt rfl rfl rfl rfl
      case h1 => intro hb K hK; simp only [Bool.and_eq_true, Bool.not_eq_true'] at hb; go_simp; exact hK
      apply wpUP_g2 rfl
      case hb => intro F hF; go_simp; exact hF
      case h1 => intro hb K hK; (try simp only [Bool.not_eq_true'] at hb); go_simp; exact hK
      iterate 3 (refine wpUP_q rfl (fun K hK => ?_); go_simp; refine hK _ ?_; clear hK K)
      apply wpUP_g2 rfl
      case hb => intro F hF; go_simp; exact hF
      case h1 => intro hb K hK; (try simp only [Bool.not_eq_true'] at hb); go_simp; exact hK
      apply wpUP_g2 rfl
      case hb => intro F hF; go_simp; exact hF
      case h1 => intro hb K hK; (try simp only [Bool.not_eq_true'] at hb); go_simp; exact hK
      apply wpUP_g2 rfl
      case hb => intro F hF; go_simp; exact hF
      case h1 => intro hb K hK; (try simp only [Bool.not_eq_true'] at hb); go_simp; exact hK
      iterate 2 (refine wpUP_q rfl (fun K hK => ?_); go_simp; refine hK _ ?_; clear hK K)
      apply wpUP_g2 rfl
      case hb => intro F hF; go_simp; exact hF
      case h1 => intro hb K hK; (try simp only [Bool.not_eq_true'] at hb); go_simp; exact hK
      apply wpUP_g2 rfl
      case hb => intro F hF; go_simp; exact hF
      case h1 => intro hb K hK; (try simp only [Bool.not_eq_true'] at hb); go_simp; exact hK
      iterate 2 (refine wpUP_q rfl (fun K hK => ?_); go_simp; refine hK _ ?_; clear hK K)
      clear fe hne
      clear hx1 hx2 hc1 hy2 hc2 hy4 hc4 hc6 hy6 hc7 hx3 hx4 hc8 hc9 hy9 hc10 hx5 hx6 hc11 hy11 hc12 hx7 hx8 hc13 hhs hy13 hc14 hz1 hc15 hz2 hc16 hz3 hz4 hc17 hc18
      refine wpUP_one rfl ?_
      intro wx hux
      go_wp2_with fail
      refine ⟨(Below.refl _ _).alloc (Nat.le_refl _) _, ?_⟩
      have hblk := Blk.new wx 71 [.bool c1, .int .i64 43, .bool c2, .int .i64 43, .bool c4, .int .i64 43, .bool c7, .int .i64 43, .bool c10, .int .i64 43, .bool c12, .int .i64 43, .bool c14, .int .i64 43, .bool c16, .int .i64 42, .bool c18, .int .i64 44]
      have UV := Troupe.hid (Up.trans (UWC.out.trans hux) ((Below.refl _ _).alloc (Nat.le_refl _) _ : Up wx (wx.alloc (.cells #[.bool c1, .int .i64 43, .bool c2, .int .i64 43, .bool c4, .int .i64 43, .bool c7, .int .i64 43, .bool c10, .int .i64 43, .bool c12, .int .i64 43, .bool c14, .int .i64 43, .bool c16, .int .i64 42, .bool c18, .int .i64 44] 71))))
      have HBV := Troupe.hid hblk
      clear hblk hux
      generalize wx.alloc (.cells #[.bool c1, .int .i64 43, .bool c2, .int .i64 43, .bool c4, .int .i64 43, .bool c7, .int .i64 43, .bool c10, .int .i64 43, .bool c12, .int .i64 43, .bool c14, .int .i64 43, .bool c16, .int .i64 42, .bool c18, .int .i64 44] 71) = wv at *
      generalize wx.heap.size = gv at *
      refine wpUP_one rfl ?_
      intro wd hud
      have FR := Troupe.hid (first_any (some ⟨gv, 0, none⟩) 9 9 wd.heap.size [⟨c1, 43⟩, ⟨c2, 43⟩, ⟨c4, 43⟩, ⟨c7, 43⟩, ⟨c10, 43⟩, ⟨c12, 43⟩, ⟨c14, 43⟩, ⟨c16, 42⟩, ⟨c18, 44⟩] wd rfl (by unfold maxLen; omega) ((HBV.out.below hud HBV.out.lt).blk_cells.mono (HBV.out.below hud HBV.out.lt).lt) (Nat.le_refl _))
      have UD := Troupe.hid (UV.out.trans hud)
      clear hud
      go_wp2_with fail
      refine FR.out.mono ?_
      rintro en we ⟨rfl, hue⟩
      have UE := Troupe.hid (UD.out.trans hue)
      go_wp2_with fail
      refine ⟨hue, ?_⟩
      have hne := UW.inh we
      clear hue
      refine wpUP_q rfl (fun K hK => ?_); go_simp; refine hK _ ?_; clear hK K
      refine wpUP_done ?_
      intro w6 huf
      have UF := Troupe.hid (UE.out.trans huf)
      clear huf hne
      go_wp2_with fail
      go_ret
      exact ⟨by rw [FIN.out]; rfl, B3.out.trans (UF.out.mono B3.out.size)⟩

    | false =>
      obtain ⟨x1, hx1⟩ : ∃ b, decide (e.d < 1) = b := ⟨_, rfl⟩
      have Hx1 := Troupe.hid hx1
      obtain ⟨x2, hx2⟩ : ∃ b, decide (12 < e.d) = b := ⟨_, rfl⟩
      have Hx2 := Troupe.hid hx2
      obtain ⟨c1, hc1⟩ : ∃ b, (x1 || x2) = b := ⟨_, rfl⟩
      have Hc1 := Troupe.hid hc1
      obtain ⟨X1, hX1⟩ : ∃ b, refWords.any (eqS e.ref) = b := ⟨_, rfl⟩
      have HX1 := Troupe.hid hX1
      obtain ⟨y2, hy2⟩ : ∃ b, (!e.ref.toList.isEmpty) = b := ⟨_, rfl⟩
      have Hy2 := Troupe.hid hy2
      obtain ⟨c2, hc2⟩ : ∃ b, (!X1) = b := ⟨_, rfl⟩
      have Hc2 := Troupe.hid hc2
      obtain ⟨X2, hX2⟩ : ∃ b, slotWords.any (eqS e.slot) = b := ⟨_, rfl⟩
      have HX2 := Troupe.hid hX2
      obtain ⟨y4, hy4⟩ : ∃ b, (!e.slot.toList.isEmpty) = b := ⟨_, rfl⟩
      have Hy4 := Troupe.hid hy4
      obtain ⟨X3, hX3⟩ : ∃ b, lexV e.name = b := ⟨_, rfl⟩
      have HX3 := Troupe.hid hX3
      obtain ⟨c6, hc6⟩ : ∃ b, (nm && !X3) = b := ⟨_, rfl⟩
      have Hc6 := Troupe.hid hc6
      obtain ⟨y6, hy6⟩ : ∃ b, (!e.name.toList.isEmpty) = b := ⟨_, rfl⟩
      have Hy6 := Troupe.hid hy6
      obtain ⟨c7, hc7⟩ : ∃ b, (c6 || (!nm && y6)) = b := ⟨_, rfl⟩
      have Hc7 := Troupe.hid hc7
      obtain ⟨x3, hx3⟩ : ∃ b, decide (e.delay < 1) = b := ⟨_, rfl⟩
      have Hx3 := Troupe.hid hx3
      obtain ⟨x4, hx4⟩ : ∃ b, decide (4095 < e.delay) = b := ⟨_, rfl⟩
      have Hx4 := Troupe.hid hx4
      obtain ⟨c8, hc8⟩ : ∃ b, (x3 || x4) = b := ⟨_, rfl⟩
      have Hc8 := Troupe.hid hc8
      obtain ⟨c9, hc9⟩ : ∃ b, (dl && c8) = b := ⟨_, rfl⟩
      have Hc9 := Troupe.hid hc9
      obtain ⟨y9, hy9⟩ : ∃ b, (e.delay != 0) = b := ⟨_, rfl⟩
      have Hy9 := Troupe.hid hy9
      obtain ⟨c10, hc10⟩ : ∃ b, (c9 || (!dl && y9)) = b := ⟨_, rfl⟩
      have Hc10 := Troupe.hid hc10
      obtain ⟨x5, hx5⟩ : ∃ b, decide (e.v < 0) = b := ⟨_, rfl⟩
      have Hx5 := Troupe.hid hx5
      obtain ⟨x6, hx6⟩ : ∃ b, decide (2 < e.v) = b := ⟨_, rfl⟩
      have Hx6 := Troupe.hid hx6
      obtain ⟨c11, hc11⟩ : ∃ b, (x5 || x6) = b := ⟨_, rfl⟩
      have Hc11 := Troupe.hid hc11
      obtain ⟨y11, hy11⟩ : ∃ b, (e.v != 0) = b := ⟨_, rfl⟩
      have Hy11 := Troupe.hid hy11
      obtain ⟨c12, hc12⟩ : ∃ b, (c11 || (!vl && y11)) = b := ⟨_, rfl⟩
      have Hc12 := Troupe.hid hc12
      obtain ⟨x7, hx7⟩ : ∃ b, decide (e.n < 0) = b := ⟨_, rfl⟩
      have Hx7 := Troupe.hid hx7
      obtain ⟨x8, hx8⟩ : ∃ b, decide (255 < e.n) = b := ⟨_, rfl⟩
      have Hx8 := Troupe.hid hx8
      obtain ⟨c13, hc13⟩ : ∃ b, (x7 || x8) = b := ⟨_, rfl⟩
      have Hc13 := Troupe.hid hc13
      obtain ⟨hs, hhs⟩ : ∃ b, (e.v == 2) = b := ⟨_, rfl⟩
      have Hhs := Troupe.hid hhs
      obtain ⟨y13, hy13⟩ : ∃ b, (e.n != 0) = b := ⟨_, rfl⟩
      have Hy13 := Troupe.hid hy13
      obtain ⟨c14, hc14⟩ : ∃ b, (c13 || (!hs && y13)) = b := ⟨_, rfl⟩
      have Hc14 := Troupe.hid hc14
      obtain ⟨z1, hz1⟩ : ∃ b, (e.d == 2) = b := ⟨_, rfl⟩
      have Hz1 := Troupe.hid hz1
      obtain ⟨c15, hc15⟩ : ∃ b, (z1 && !kn) = b := ⟨_, rfl⟩
      have Hc15 := Troupe.hid hc15
      obtain ⟨z2, hz2⟩ : ∃ b, (e.d == 3) = b := ⟨_, rfl⟩
      have Hz2 := Troupe.hid hz2
      obtain ⟨c16, hc16⟩ : ∃ b, (c15 || (z2 && !st)) = b := ⟨_, rfl⟩
      have Hc16 := Troupe.hid hc16
      obtain ⟨z3, hz3⟩ : ∃ b, (e.d == 11) = b := ⟨_, rfl⟩
      have Hz3 := Troupe.hid hz3
      obtain ⟨z4, hz4⟩ : ∃ b, (e.d == 12) = b := ⟨_, rfl⟩
      have Hz4 := Troupe.hid hz4
      obtain ⟨c17, hc17⟩ : ∃ b, (z3 || z4) = b := ⟨_, rfl⟩
      have Hc17 := Troupe.hid hc17
      obtain ⟨c18, hc18⟩ : ∃ b, (c17 && !last) = b := ⟨_, rfl⟩
      have Hc18 := Troupe.hid hc18
      clear hX1 hX2 hX3
      have FIN : Hid (effV ks k.sts e last = firstV [⟨c1, 43⟩, ⟨c2, 43⟩, ⟨y4, 43⟩, ⟨c7, 43⟩, ⟨c10, 43⟩, ⟨c12, 43⟩, ⟨c14, 43⟩, ⟨c16, 42⟩, ⟨c18, 44⟩]) := by
        unfold Hid effV
        rw [HR.out, HS.out, HNM.out, HVL.out, HDL.out, HKN.out, HSTT.out]
        simp only [Bool.true_and, Bool.not_true, Bool.false_and, Bool.or_false, Bool.not_false, Bool.false_or]
        rw [Hx1.out, Hx2.out, Hc1.out, HX1.out, Hc2.out, Hy4.out, HX3.out, Hc6.out, Hy6.out, Hc7.out, Hx3.out, Hx4.out, Hc8.out, Hc9.out, Hy9.out, Hc10.out, Hx5.out, Hx6.out, Hc11.out, Hy11.out, Hc12.out, Hx7.out, Hx8.out, Hc13.out, Hhs.out, Hy13.out, Hc14.out, Hz1.out, Hc15.out, Hz2.out, Hc16.out, Hz3.out, Hz4.out, Hc17.out, Hc18.out]
      refine region_upF (.q 0 (.q 1 (.q 2 (.q 3 (.q 4 (.q 5 (.q 6 (.q 7 (.q 8 (.q 9 (.q 10 (.q 12 (.q 13 (.q 27 (.q 45 (.q 62 (.q 83 (.q 84 (.q 85 (.q 101 (.q 102 (.q 103 (.q 119 (.q 120 (.q 121 (.q 136 (.q 137 (.q 138 (.one 11 (.q 14 (.q 15 (.q 16 (.q 17 (.q 18 (.q 19 (.q 20 (.q 21 (.q 22 (.q 23 (.q 24 (.q 25 (.q 26 (.q 28 (.q 30 (.q 31 (.one 29 (.q 32 (.q 33 (.q 34 (.q 35 (.q 36 (.q 37 (.q 38 (.q 39 (.q 40 (.q 41 (.q 42 (.q 43 (.q 44 (.q 46 (.q 47 (.q 48 (.q 49 (.q 50 (.q 51 (.q 52 (.q 53 (.q 54 (.q 55 (.q 56 (.q 57 (.q 58 (.q 59 (.q 60 (.q 61 (.q 63 (.q 64 (.q 65 (.q 66 (.q 67 (.q 68 (.q 69 (.q 70 (.q 71 (.q 72 (.q 73 (.q 74 (.q 75 (.q 76 (.q 77 (.q 78 (.q 79 (.q 80 (.q 81 (.q 82 (.q 86 (.q 87 (.q 88 (.q 89 (.q 90 (.q 91 (.q 92 (.q 93 (.q 94 (.q 95 (.q 96 (.q 97 (.q 98 (.q 99 (.q 100 (.q 104 (.q 105 (.q 106 (.q 107 (.q 108 (.q 109 (.q 110 (.q 111 (.q 112 (.q 113 (.q 114 (.q 115 (.q 116 (.q 117 (.q 118 (.q 122 (.q 123 (.q 124 (.q 125 (.q 126 (.q 127 (.q 128 (.q 129 (.q 130 (.q 131 (.q 132 (.q 133 (.q 134 (.q 135 (.q 139 (.q 140 (.q 141 (.q 142 (.q 143 (.q 144 (.q 145 (.q 146 (.q 147 (.q 148 (.one 149 (.one 150 (.q 151 .done)))))))))))))))))))))))))))))))))))))))))))))))))))))))))))))))))))))))))))))))))))))))))))))))))))))))))))))))))))))))))))))))))))))))))))))))))))))))) [⟨some 37, [6], []⟩, ⟨some 38, [37], [0]⟩, ⟨some 39, [38], [1]⟩, ⟨some 40, [39], [2]⟩, ⟨some 41, [6, 40], [3]⟩, ⟨some 42, [41, 40], [4, 3]⟩, ⟨some 43, [42, 40], [5, 3]⟩, ⟨some 44, [40, 43], [3, 6]⟩, ⟨some 45, [44], [7]⟩, ⟨some 46, [9], []⟩, ⟨some 47, [46], [9, 3]⟩, ⟨some 48, [47], [10]⟩, ⟨some 49, [6, 47], [10]⟩, ⟨some 50, [49, 47], [12, 10]⟩, ⟨some 51, [48, 50, 47], [11, 13, 10, 10]⟩, ⟨some 52, [51, 47], [14, 10]⟩, ⟨some 53, [47, 52], [10, 15]⟩, ⟨some 54, [53], [16, 14]⟩, ⟨some 55, [9, 54], [17]⟩, ⟨some 56, [55, 54], [18, 17]⟩, ⟨some 57, [56, 54], [19, 17, 17]⟩, ⟨some 58, [6, 57], [20]⟩, ⟨some 59, [58, 57], [21, 20]⟩, ⟨some 60, [59, 57], [22, 20]⟩, ⟨some 61, [57, 60, 54], [20, 23, 17]⟩, ⟨some 62, [54, 61], [17, 24]⟩, ⟨some 63, [62], [25]⟩, ⟨some 64, [10], []⟩, ⟨some 65, [64], [27, 20]⟩, ⟨some 66, [65], [28]⟩, ⟨some 67, [6, 65], [28]⟩, ⟨some 68, [67, 65], [30, 28]⟩, ⟨some 69, [66, 68, 65], [29, 31, 28, 28]⟩, ⟨some 70, [69, 65], [32, 28]⟩, ⟨some 71, [65, 70], [28, 33]⟩, ⟨some 72, [71], [34, 32]⟩, ⟨some 73, [10, 72], [35]⟩, ⟨some 74, [73, 72], [36, 35]⟩, ⟨some 75, [74, 72], [37, 35, 35]⟩, ⟨some 76, [6, 75], [38]⟩, ⟨some 77, [76, 75], [39, 38]⟩, ⟨some 78, [77, 75], [40, 38]⟩, ⟨some 79, [75, 78, 72], [38, 41, 35]⟩, ⟨some 80, [72, 79], [35, 42]⟩, ⟨some 81, [80], [43]⟩, ⟨some 82, [11], []⟩, ⟨some 83, [82], [45, 38]⟩, ⟨some 84, [6, 83], [46]⟩, ⟨some 85, [84, 83], [47, 46]⟩, ⟨some 86, [85, 83], [48, 46, 46]⟩, ⟨some 87, [86, 83], [49, 46]⟩, ⟨some 88, [83, 87], [46, 50]⟩, ⟨some 89, [88], [51, 49]⟩, ⟨some 90, [11, 89], [52]⟩, ⟨some 91, [90, 89], [53, 52]⟩, ⟨some 92, [91, 89], [54, 52, 52]⟩, ⟨some 93, [6, 92], [55]⟩, ⟨some 94, [93, 92], [56, 55]⟩, ⟨some 95, [94, 92], [57, 55]⟩, ⟨some 96, [92, 95, 89], [55, 58, 52]⟩, ⟨some 97, [89, 96], [52, 59]⟩, ⟨some 98, [97], [60]⟩, ⟨some 99, [13], []⟩, ⟨some 100, [99], [62, 55]⟩, ⟨some 101, [6, 100], [63]⟩, ⟨some 102, [101, 100], [64, 63]⟩, ⟨some 103, [102, 100], [65, 63]⟩, ⟨some 104, [103, 100], [66, 63, 63]⟩, ⟨some 105, [6, 104], [67]⟩, ⟨some 106, [105, 104], [68, 67]⟩, ⟨some 107, [106, 104], [69, 67]⟩, ⟨some 108, [104, 107, 100], [67, 70, 63]⟩, ⟨some 109, [100, 108], [63, 71]⟩, ⟨some 110, [109], [72, 67]⟩, ⟨some 111, [13, 110], [73]⟩, ⟨some 112, [111, 110], [74, 73]⟩, ⟨some 113, [112, 110], [75, 73, 73]⟩, ⟨some 114, [6, 113], [76]⟩, ⟨some 115, [114, 113], [77, 76]⟩, ⟨some 116, [115, 113], [78, 76]⟩, ⟨some 117, [113, 116, 110], [76, 79, 73]⟩, ⟨some 118, [110, 117], [73, 80]⟩, ⟨some 119, [118], [81]⟩, ⟨some 120, [6], []⟩, ⟨some 121, [120], [83]⟩, ⟨some 122, [121], [84]⟩, ⟨some 123, [122], [85, 76]⟩, ⟨some 124, [6, 123], [86]⟩, ⟨some 125, [124, 123], [87, 86]⟩, ⟨some 126, [125, 123], [88, 86]⟩, ⟨some 127, [123, 126], [86, 89]⟩, ⟨some 128, [127], [90, 86]⟩, ⟨some 129, [12, 128], [91]⟩, ⟨some 130, [129, 128], [92, 91]⟩, ⟨some 131, [130, 128], [93, 91, 91]⟩, ⟨some 132, [6, 131], [94]⟩, ⟨some 133, [132, 131], [95, 94]⟩, ⟨some 134, [133, 131], [96, 94]⟩, ⟨some 135, [131, 134, 128], [94, 97, 91]⟩, ⟨some 136, [128, 135], [91, 98]⟩, ⟨some 137, [136], [99]⟩, ⟨some 138, [6], []⟩, ⟨some 139, [138], [101]⟩, ⟨some 140, [139], [102]⟩, ⟨some 141, [140], [103, 94]⟩, ⟨some 142, [6, 141], [104]⟩, ⟨some 143, [142, 141], [105, 104]⟩, ⟨some 144, [143, 141], [106, 104]⟩, ⟨some 145, [141, 144], [104, 107]⟩, ⟨some 146, [145], [108, 104]⟩, ⟨some 147, [16, 146], [109]⟩, ⟨some 148, [147, 146], [110, 109]⟩, ⟨some 149, [148, 146], [111, 109, 109]⟩, ⟨some 150, [6, 149], [112]⟩, ⟨some 151, [150, 149], [113, 112]⟩, ⟨some 152, [151, 149], [114, 112]⟩, ⟨some 153, [149, 152, 146], [112, 115, 109]⟩, ⟨some 154, [146, 153], [109, 116]⟩, ⟨some 155, [154], [117]⟩, ⟨some 156, [6], []⟩, ⟨some 157, [156], [119]⟩, ⟨some 158, [157], [120]⟩, ⟨some 159, [158], [121, 112]⟩, ⟨some 160, [14, 159], [122]⟩, ⟨some 161, [160, 159], [123, 122]⟩, ⟨some 162, [159, 161], [122, 124]⟩, ⟨some 163, [162], [125, 122]⟩, ⟨some 164, [6, 163], [126]⟩, ⟨some 165, [164, 163], [127, 126]⟩, ⟨some 166, [165, 163], [128, 126]⟩, ⟨some 167, [166, 163], [129, 126, 126]⟩, ⟨some 168, [15, 167], [130]⟩, ⟨some 169, [168, 167], [131, 130]⟩, ⟨some 170, [167, 169, 163], [130, 132, 126]⟩, ⟨some 171, [163, 170], [126, 133]⟩, ⟨some 172, [171], [134]⟩, ⟨some 173, [6], []⟩, ⟨some 174, [173], [136]⟩, ⟨some 175, [174], [137]⟩, ⟨some 176, [175], [138, 130]⟩, ⟨some 177, [6, 176], [139]⟩, ⟨some 178, [177, 176], [140, 139]⟩, ⟨some 179, [178, 176], [141, 139]⟩, ⟨some 180, [176, 179], [139, 142]⟩, ⟨some 181, [180], [143, 139]⟩, ⟨some 182, [3, 181], [144]⟩, ⟨some 183, [182, 181], [145, 144]⟩, ⟨some 184, [181, 183], [144, 146]⟩, ⟨some 185, [184], [147]⟩, ⟨some 186, [45, 63, 81, 98, 119, 137, 155, 172, 185], [8, 26, 44, 61, 82, 100, 118, 135, 148]⟩, ⟨some 187, [186], [149, 144]⟩, ⟨some 8, [187], [150, 150, 0, 1, 2, 3, 4, 5, 6, 7, 8, 9, 10, 11, 12, 13, 14, 15, 16, 17, 18, 19, 20, 21, 22, 23, 24, 25, 26, 27, 28, 29, 30, 31, 32, 33, 34, 35, 36, 37, 38, 39, 40, 41, 42, 43, 44, 45, 46, 47, 48, 49, 50, 51, 52, 53, 54, 55, 56, 57, 58, 59, 60, 61, 62, 63, 64, 65, 66, 67, 68, 69, 70, 71, 72, 73, 74, 75, 76, 77, 78, 79, 80, 81, 82, 83, 84, 85, 86, 87, 88, 89, 90, 91, 92, 93, 94, 95, 96, 97, 98, 99, 100, 101, 102, 103, 104, 105, 106, 107, 108, 109, 110, 111, 112, 113, 114, 115, 116, 117, 118, 119, 120, 121, 122, 123, 124, 125, 126, 127, 128, 129, 130, 131, 132, 133, 134, 135, 136, 137, 138, 139, 140, 141, 142, 143, 144, 145, 146, 147, 148, 149, 150]⟩] (by kernel_rfl) (by kernel_rfl) (by kernel_rfl) (by kernel_rfl) (fun _ _ d _ _ h => by cases d <;> exact h) ?_
      iterate 4 (refine wpUP_q rfl (fun K hK => ?_); go_simp; refine hK _ ?_; clear hK K)
      apply wpUP_g2 rfl
      case hb => intro F hF; go_simp; exact hF
      case h1 => intro hb K hK; (try simp only [Bool.not_eq_true'] at hb); go_simp; exact hK
      apply wpUP_g2 rfl
      case hb => intro F hF; go_simp; exact hF
      case h1 => intro hb K hK; (try simp only [Bool.not_eq_true'] at hb); go_simp; exact hK
      apply wpUP_g2 rfl
      case hb => intro F hF; go_simp; exact hF
      case h1 => intro hb K hK; (try simp only [Bool.not_eq_true'] at hb); go_simp; exact hK
      iterate 21 (refine wpUP_q rfl (fun K hK => ?_); go_simp; refine hK _ ?_; clear hK K)
      refine wpUP_one rfl ?_
      intro wx hux
      go_wp2_with fail
      refine ⟨(Below.refl _ _).alloc (Nat.le_refl _) _, ?_⟩
      have hblk := Blk.new wx 9 [.string ⟨#[115, 101, 108, 102]⟩, .string ⟨#[115, 101, 110, 100, 101, 114]⟩, .string ⟨#[112, 97, 114, 101, 110, 116]⟩, .string ⟨#[97]⟩, .string ⟨#[98]⟩, .string ⟨#[99]⟩, .string ⟨#[100]⟩]
      have UWB := Troupe.hid (Up.trans (id hux) ((Below.refl _ _).alloc (Nat.le_refl _) _ : Up wx (wx.alloc (.cells #[.string ⟨#[115, 101, 108, 102]⟩, .string ⟨#[115, 101, 110, 100, 101, 114]⟩, .string ⟨#[112, 97, 114, 101, 110, 116]⟩, .string ⟨#[97]⟩, .string ⟨#[98]⟩, .string ⟨#[99]⟩, .string ⟨#[100]⟩] 9))))
      have HBS := Troupe.hid hblk
      clear hblk hux fe hne
      generalize wx.alloc (.cells #[.string ⟨#[115, 101, 108, 102]⟩, .string ⟨#[115, 101, 110, 100, 101, 114]⟩, .string ⟨#[112, 97, 114, 101, 110, 116]⟩, .string ⟨#[97]⟩, .string ⟨#[98]⟩, .string ⟨#[99]⟩, .string ⟨#[100]⟩] 9) = wb at *
      generalize wx.heap.size = ga at *
      have hne := UW.inh wb
      have fe : ∀ (x : UW wb) (i : Nat), x.w.cell? ⟨w.heap.size + 1 + 1, i, none⟩ = (Eff.cells e)[i]? := fun x => (HK2.out.below (UWB.out.trans x.h) HK2.out.lt).cell
      dsimp only [Eff.cells] at fe
      have LX : Hid (∀ x : UW wb, Calls Try.prog 50 #[.string e.name] x.w fun en w' => en = .returned (.bool X3) ∧ Up x.w w') := fun x => (lex_any e.name x.w).mono fun _ _ ⟨h1, h2⟩ => ⟨by rw [h1, HX3.out], h2 ▸ Up.refl _⟩
      have HT : Hid (∀ x : UW wb, Calls Try.prog 97 #[.slice (some ⟨ga, 0, none⟩) 7 7, .string e.ref] x.w fun en w' => en = .returned (.bool X1) ∧ Up x.w w') := fun x => (hasT_any (some ⟨ga, 0, none⟩) 7 7 x.w.heap.size [⟨#[115, 101, 108, 102]⟩, ⟨#[115, 101, 110, 100, 101, 114]⟩, ⟨#[112, 97, 114, 101, 110, 116]⟩, ⟨#[97]⟩, ⟨#[98]⟩, ⟨#[99]⟩, ⟨#[100]⟩] e.ref x.w rfl (by unfold maxLen; omega) ((HBS.out.below x.h HBS.out.lt).blk_cells.mono (by have := (HBS.out.below x.h HBS.out.lt).lt; omega))).mono fun _ _ ⟨h1, h2⟩ => ⟨by rw [h1]; exact congrArg (fun b => Ending.returned (.bool b)) HX1.out, h2 ▸ Up.refl _⟩
      refine wpUP_q rfl (fun K hK => ?_)
      go_simp
      refine ⟨_, HT.out, hK _ ?_⟩
      clear hK K
      iterate 3 (refine wpUP_q rfl (fun K hK => ?_); go_simp; refine hK _ ?_; clear hK K)
      apply wpUP_g2 rfl
      case hb => intro F hF; go_simp; exact hF
      case h1 => intro hb K hK; (try simp only [Bool.not_eq_true'] at hb); go_simp; exact hK
      apply wpUP_g2 rfl
      case hb => intro F hF; go_simp; exact hF
      case h1 => intro hb K hK; (try simp only [Bool.not_eq_true'] at hb); go_simp; exact hK
      apply wpUP_g2 rfl
      case hb => intro F hF; go_simp; exact hF
      case h1 => intro hb K hK; (try simp only [Bool.not_eq_true'] at hb); go_simp; exact hK
      (try go_simp)
      apply wpUP_nF rfl rfl rfl rfl
      (try go_simp)
      apply wpUP_nF rfl rfl rfl rfl
      (try go_simp)
      apply wpUP_nF rfl rfl rfl rfl
      apply wpUP_g2 rfl
      case hb => intro F hF; go_simp; exact hF
      case h1 => intro hb K hK; (try simp only [Bool.not_eq_true'] at hb); go_simp; exact hK
      iterate 5 (refine wpUP_q rfl (fun K hK => ?_); go_simp; refine hK _ ?_; clear hK K)
      refine wpUP_one rfl ?_
      intro wc hux
      go_wp2_with fail
      refine ⟨Up.refl _, ?_⟩
      have UWC := Troupe.hid (UWB.out.trans hux)
      clear hux fe hne
      have hne := UW.inh wc
      have fe : ∀ (x : UW wc) (i : Nat), x.w.cell? ⟨w.heap.size + 1 + 1, i, none⟩ = (Eff.cells e)[i]? := fun x => (HK2.out.below (UWC.out.trans x.h) HK2.out.lt).cell
      dsimp only [Eff.cells] at fe
      have LX : Hid (∀ x : UW wc, Calls Try.prog 50 #[.string e.name] x.w fun en w' => en = .returned (.bool X3) ∧ Up x.w w') := fun x => (lex_any e.name x.w).mono fun _ _ ⟨h1, h2⟩ => ⟨by rw [h1, HX3.out], h2 ▸ Up.refl _⟩
      iterate 14 (refine wpUP_q rfl (fun K hK => ?_); go_simp; refine hK _ ?_; clear hK K)
      apply wpUP_g2 rfl
      case hb => intro F hF; go_simp; exact hF
      case h1 => intro hb K hK; (try simp only [Bool.not_eq_true'] at hb); go_simp; exact hK
      apply wpUP_g2 rfl
      case hb => intro F hF; go_simp; exact hF
      case h1 => intro hb K hK; (try simp only [Bool.not_eq_true'] at hb); go_simp; exact hK
      apply wpUP_g2 rfl
      case hb => intro F hF; go_simp; exact hF
      case h1 => intro hb K hK; go_simp; exact ⟨_, LX.out, hK⟩
      apply wpUP_g2 rfl
      case hb => intro F hF; go_simp; exact hF
      case h1 => intro hb K hK; (try simp only [Bool.not_eq_true'] at hb); go_simp; exact hK
      iterate 2 (refine wpUP_q rfl (fun K hK => ?_); go_simp; refine hK _ ?_; clear hK K)
      apply wpUP_g2 rfl
      case hb => intro F hF; go_simp; exact hF
      case h1 => intro hb K hK; (try simp only [Bool.not_eq_true'] at hb); go_simp; exact hK
      apply wpUP_g2 rfl
      case hb => intro F hF; go_simp; exact hF
      case h1 => intro hb K hK; (try simp only [Bool.not_eq_true'] at hb); go_simp; exact hK
      apply wpUP_g2 rfl
      case hb => intro F hF; go_simp; exact hF
      case h1 => intro hb K hK; (try simp only [Bool.not_eq_true'] at hb); go_simp; exact hK
      (try go_simp)
      apply wpUP_gFt rfl rfl rfl rfl
      case h1 => intro hb K hK; simp only [Bool.and_eq_true, Bool.not_eq_true'] at hb; go_simp; exact hK
      (try go_simp)
      apply wpUP_gFt rfl rfl rfl rfl
      case h1 => intro hb K hK; simp only [Bool.and_eq_true, Bool.not_eq_true'] at hb; go_simp; exact hK
      (try go_simp)
      apply wpUP_gFt rfl rfl rfl rfl
      case h1 => intro hb K hK; simp only [Bool.and_eq_true, Bool.not_eq_true'] at hb; go_simp; exact hK
      apply wpUP_g2 rfl
      case hb => intro F hF; go_simp; exact hF
      case h1 => intro hb K hK; (try simp only [Bool.not_eq_true'] at hb); go_simp; exact hK
      iterate 3 (refine wpUP_q rfl (fun K hK => ?_); go_simp; refine hK _ ?_; clear hK K)
      apply wpUP_g2 rfl
      case hb => intro F hF; go_simp; exact hF
      case h1 => intro hb K hK; (try simp only [Bool.not_eq_true'] at hb); go_simp; exact hK
      apply wpUP_g2 rfl
      case hb => intro F hF; go_simp; exact hF
      case h1 => intro hb K hK; (try simp only [Bool.not_eq_true'] at hb); go_simp; exact hK
      apply wpUP_g2 rfl
      case hb => intro F hF; go_simp; exact hF
      case h1 => intro hb K hK; (try simp only [Bool.not_eq_true'] at hb); go_simp; exact hK
      apply wpUP_g2 rfl
      case hb => intro F hF; go_simp; exact hF
      case h1 => intro hb K hK; (try simp only [Bool.not_eq_true'] at hb); go_simp; exact hK
      (try go_simp)
      apply wpUP_gTf rfl rfl rfl rfl
      case h1 => intro hb K hK; simp only [Bool.and_eq_true, Bool.not_eq_true'] at hb; go_simp; exact hK
      (try go_simp)
      apply wpUP_gTf rfl rfl rfl rfl
      case h1 => intro hb K hK; simp only [Bool.and_eq_true, Bool.not_eq_true'] at hb; go_simp; exact hK
      (try go_simp)
      apply wpUP_gTf rfl rfl rfl rfl
      case h1 => intro hb K hK; simp only [Bool.and_eq_true, Bool.not_eq_true'] at hb; go_simp; exact hK
      apply wpUP_g2 rfl
      case hb => intro F hF; go_simp; exact hF
      case h1 => intro hb K hK; (try simp only [Bool.not_eq_true'] at hb); go_simp; exact hK
      iterate 2 (refine wpUP_q rfl (fun K hK => ?_); go_simp; refine hK _ ?_; clear hK K)
      apply wpUP_g2 rfl
      case hb => intro F hF; go_simp; exact hF
      case h1 => intro hb K hK; (try simp only [Bool.not_eq_true'] at hb); go_simp; exact hK
      apply wpUP_g2 rfl
      case hb => intro F hF; go_simp; exact hF
      case h1 => intro hb K hK; (try simp only [Bool.not_eq_true'] at hb); go_simp; exact hK
      apply wpUP_g2 rfl
      case hb => intro F hF; go_simp; exact hF
      case h1 => intro hb K hK; (try simp only [Bool.not_eq_true'] at hb); go_simp; exact hK
      (try go_simp)
      apply wpUP_gFt rfl rfl rfl rfl
      case h1 => intro hb K hK; simp only [Bool.and_eq_true, Bool.not_eq_true'] at hb; go_simp; exact hK
      (try go_simp)
      apply wpUP_gFt rfl rfl rfl rfl
      case h1 => intro hb K hK; simp only [Bool.and_eq_true, Bool.not_eq_true'] at hb; go_simp; exact hK
      (try go_simp)
      apply wpUP_gFt rfl rfl rfl rfl
      case h1 => intro hb K hK; simp only [Bool.and_eq_true, Bool.not_eq_true'] at hb; go_simp; exact hK
      apply wpUP_g2 rfl
      case hb => intro F hF; go_simp; exact hF
      case h1 => intro hb K hK; (try simp only [Bool.not_eq_true'] at hb); go_simp; exact hK
      iterate 3 (refine wpUP_q rfl (fun K hK => ?_); go_simp; refine hK _ ?_; clear hK K)
      apply wpUP_g2 rfl
      case hb => intro F hF; go_simp; exact hF
      case h1 => intro hb K hK; (try simp only [Bool.not_eq_true'] at hb); go_simp; exact hK
      apply wpUP_g2 rfl
      case hb => intro F hF; go_simp; exact hF
      case h1 => intro hb K hK; (try simp only [Bool.not_eq_true'] at hb); go_simp; exact hK
      apply wpUP_g2 rfl
      case hb => intro F hF; go_simp; exact hF
      case h1 => intro hb K hK; (try simp only [Bool.not_eq_true'] at hb); go_simp; exact hK
      iterate 2 (refine wpUP_q rfl (fun K hK => ?_); go_simp; refine hK _ ?_; clear hK K)
      apply wpUP_g2 rfl
      case hb => intro F hF; go_simp; exact hF
      case h1 => intro hb K hK; (try simp only [Bool.not_eq_true'] at hb); go_simp; exact hK
      apply wpUP_g2 rfl
      case hb => intro F hF; go_simp; exact hF
      case h1 => intro hb K hK; (try simp only [Bool.not_eq_true'] at hb); go_simp; exact hK
      apply wpUP_g2 rfl
      case hb => intro F hF; go_simp; exact hF
      case h1 => intro hb K hK; (try simp only [Bool.not_eq_true'] at hb); go_simp; exact hK
      (try go_simp)
      apply wpUP_gFt rfl rfl rfl rfl
      case h1 => intro hb K hK; simp only [Bool.and_eq_true, Bool.not_eq_true'] at hb; go_simp; exact hK
      (try go_simp)
      apply wpUP_gFt rfl rfl rfl rfl
      case h1 => intro hb K hK; simp only [Bool.and_eq_true, Bool.not_eq_true'] at hb; go_simp; exact hK
      (try go_simp)
      apply wpUP_gFt rfl rfl rfl rfl
      case h1 => intro hb K hK; simp only [Bool.and_eq_true, Bool.not_eq_true'] at hb; go_simp; exact hK
      apply wpUP_g2 rfl
      case hb => intro F hF; go_simp; exact hF
      case h1 => intro hb K hK; (try simp only [Bool.not_eq_true'] at hb); go_simp; exact hK
      iterate 3 (refine wpUP_q rfl (fun K hK => ?_); go_simp; refine hK _ ?_; clear hK K)
      apply wpUP_g2 rfl
      case hb => intro F hF; go_simp; exact hF
      case h1 => intro hb K hK; (try simp only [Bool.not_eq_true'] at hb); go_simp; exact hK
      apply wpUP_g2 rfl
      case hb => intro F hF; go_simp; exact hF
      case h1 => intro hb K hK; (try simp only [Bool.not_eq_true'] at hb); go_simp; exact hK
      apply wpUP_g2 rfl
      case hb => intro F hF; go_simp; exact hF
      case h1 => intro hb K hK; (try simp only [Bool.not_eq_true'] at hb); go_simp; exact hK
      iterate 2 (refine wpUP_q rfl (fun K hK => ?_); go_simp; refine hK _ ?_; clear hK K)
      apply wpUP_g2 rfl
      case hb => intro F hF; go_simp; exact hF
      case h1 => intro hb K hK; (try simp only [Bool.not_eq_true'] at hb); go_simp; exact hK
      apply wpUP_g2 rfl
      case hb => intro F hF; go_simp; exact hF
      case h1 => intro hb K hK; (try simp only [Bool.not_eq_true'] at hb); go_simp; exact hK
      apply wpUP_g2 rfl
      case hb => intro F hF; go_simp; exact hF
      case h1 => intro hb K hK; (try simp only [Bool.not_eq_true'] at hb); go_simp; exact hK
      (try go_simp)
      apply wpUP_gFt rfl rfl rfl rfl
      case h1 => intro hb K hK; simp only [Bool.and_eq_true, Bool.not_eq_true'] at hb; go_simp; exact hK
      (try go_simp)
      apply wpUP_gFt rfl rfl rfl rfl
      case h1 => intro hb K hK; simp only [Bool.and_eq_true, Bool.not_eq_true'] at hb; go_simp; exact hK
      (try go_simp)
      apply wpUP_gFt rfl rfl rfl rfl
      case h1 => intro hb K hK; simp only [Bool.and_eq_true, Bool.not_eq_true'] at hb; go_simp; exact hK
      apply wpUP_g2 rfl
      case hb => intro F hF; go_simp; exact hF
      case h1 => intro hb K hK; (try simp only [Bool.not_eq_true'] at hb); go_simp; exact hK
      iterate 3 (refine wpUP_q rfl (fun K hK => ?_); go_simp; refine hK _ ?_; clear hK K)
      apply wpUP_g2 rfl
      case hb => intro F hF; go_simp; exact hF
      case h1 => intro hb K hK; (try simp only [Bool.not_eq_true'] at hb); go_simp; exact hK
      apply wpUP_g2 rfl
      case hb => intro F hF; go_simp; exact hF
      case h1 => intro hb K hK; (try simp only [Bool.not_eq_true'] at hb); go_simp; exact hK
      iterate 2 (refine wpUP_q rfl (fun K hK => ?_); go_simp; refine hK _ ?_; clear hK K)
      apply wpUP_g2 rfl
      case hb => intro F hF; go_simp; exact hF
      case h1 => intro hb K hK; (try simp only [Bool.not_eq_true'] at hb); go_simp; exact hK
      apply wpUP_g2 rfl
      case hb => intro F hF; go_simp; exact hF
      case h1 => intro hb K hK; (try simp only [Bool.not_eq_true'] at hb); go_simp; exact hK
      apply wpUP_g2 rfl
      case hb => intro F hF; go_simp; exact hF
      case h1 => intro hb K hK; (try simp only [Bool.not_eq_true'] at hb); go_simp; exact hK
      apply wpUP_g2 rfl
      case hb => intro F hF; go_simp; exact hF
      case h1 => intro hb K hK; (try simp only [Bool.not_eq_true'] at hb); go_simp; exact hK
      (try go_simp)
      apply wpUP_gFt rfl rfl rfl rfl
      case h1 => intro hb K hK; simp only [Bool.and_eq_true, Bool.not_eq_true'] at hb; go_simp; exact hK
      (try go_simp)
      apply wpUP_gFt rfl rfl rfl rfl
      case h1 => intro hb K hK; simp only [Bool.and_eq_true, Bool.not_eq_true'] at hb; go_simp; exact hK
      apply wpUP_g2 rfl
      case hb => intro F hF; go_simp; exact hF
      case h1 => intro hb K hK; (try simp only [Bool.not_eq_true'] at hb); go_simp; exact hK
      iterate 3 (refine wpUP_q rfl (fun K hK => ?_); go_simp; refine hK _ ?_; clear hK K)
      apply wpUP_g2 rfl
      case hb => intro F hF; go_simp; exact hF
      case h1 => intro hb K hK; (try simp only [Bool.not_eq_true'] at hb); go_simp; exact hK
      apply wpUP_g2 rfl
      case hb => intro F hF; go_simp; exact hF
      case h1 => intro hb K hK; (try simp only [Bool.not_eq_true'] at hb); go_simp; exact hK
      apply wpUP_g2 rfl
      case hb => intro F hF; go_simp; exact hF
      case h1 => intro hb K hK; (try simp only [Bool.not_eq_true'] at hb); go_simp; exact hK
      iterate 2 (refine wpUP_q rfl (fun K hK => ?_); go_simp; refine hK _ ?_; clear hK K)
      apply wpUP_g2 rfl
      case hb => intro F hF; go_simp; exact hF
      case h1 => intro hb K hK; (try simp only [Bool.not_eq_true'] at hb); go_simp; exact hK
      apply wpUP_g2 rfl
      case hb => intro F hF; go_simp; exact hF
      case h1 => intro hb K hK; (try simp only [Bool.not_eq_true'] at hb); go_simp; exact hK
      iterate 2 (refine wpUP_q rfl (fun K hK => ?_); go_simp; refine hK _ ?_; clear hK K)
      clear fe hne
      clear hx1 hx2 hc1 hy2 hc2 hy4 hc6 hy6 hc7 hx3 hx4 hc8 hc9 hy9 hc10 hx5 hx6 hc11 hy11 hc12 hx7 hx8 hc13 hhs hy13 hc14 hz1 hc15 hz2 hc16 hz3 hz4 hc17 hc18
      refine wpUP_one rfl ?_
      intro wx hux
      go_wp2_with fail
      refine ⟨(Below.refl _ _).alloc (Nat.le_refl _) _, ?_⟩
      have hblk := Blk.new wx 71 [.bool c1, .int .i64 43, .bool c2, .int .i64 43, .bool y4, .int .i64 43, .bool c7, .int .i64 43, .bool c10, .int .i64 43, .bool c12, .int .i64 43, .bool c14, .int .i64 43, .bool c16, .int .i64 42, .bool c18, .int .i64 44]
      have UV := Troupe.hid (Up.trans (UWC.out.trans hux) ((Below.refl _ _).alloc (Nat.le_refl _) _ : Up wx (wx.alloc (.cells #[.bool c1, .int .i64 43, .bool c2, .int .i64 43, .bool y4, .int .i64 43, .bool c7, .int .i64 43, .bool c10, .int .i64 43, .bool c12, .int .i64 43, .bool c14, .int .i64 43, .bool c16, .int .i64 42, .bool c18, .int .i64 44] 71))))
      have HBV := Troupe.hid hblk
      clear hblk hux
      generalize wx.alloc (.cells #[.bool c1, .int .i64 43, .bool c2, .int .i64 43, .bool y4, .int .i64 43, .bool c7, .int .i64 43, .bool c10, .int .i64 43, .bool c12, .int .i64 43, .bool c14, .int .i64 43, .bool c16, .int .i64 42, .bool c18, .int .i64 44] 71) = wv at *
      generalize wx.heap.size = gv at *
      refine wpUP_one rfl ?_
      intro wd hud
      have FR := Troupe.hid (first_any (some ⟨gv, 0, none⟩) 9 9 wd.heap.size [⟨c1, 43⟩, ⟨c2, 43⟩, ⟨y4, 43⟩, ⟨c7, 43⟩, ⟨c10, 43⟩, ⟨c12, 43⟩, ⟨c14, 43⟩, ⟨c16, 42⟩, ⟨c18, 44⟩] wd rfl (by unfold maxLen; omega) ((HBV.out.below hud HBV.out.lt).blk_cells.mono (HBV.out.below hud HBV.out.lt).lt) (Nat.le_refl _))
      have UD := Troupe.hid (UV.out.trans hud)
      clear hud
      go_wp2_with fail
      refine FR.out.mono ?_
      rintro en we ⟨rfl, hue⟩
      have UE := Troupe.hid (UD.out.trans hue)
      go_wp2_with fail
      refine ⟨hue, ?_⟩
      have hne := UW.inh we
      clear hue
      refine wpUP_q rfl (fun K hK => ?_); go_simp; refine hK _ ?_; clear hK K
      refine wpUP_done ?_
      intro w6 huf
      have UF := Troupe.hid (UE.out.trans huf)
      clear huf hne
      go_wp2_with fail
      go_ret
      exact ⟨by rw [FIN.out]; rfl, B3.out.trans (UF.out.mono B3.out.size)⟩

  | false =>
    cases s with
    | true =>
      obtain ⟨x1, hx1⟩ : ∃ b, decide (e.d < 1) = b := ⟨_, rfl⟩
      have Hx1 := Troupe.hid hx1
      obtain ⟨x2, hx2⟩ : ∃ b, decide (12 < e.d) = b := ⟨_, rfl⟩
      have Hx2 := Troupe.hid hx2
      obtain ⟨c1, hc1⟩ : ∃ b, (x1 || x2) = b := ⟨_, rfl⟩
      have Hc1 := Troupe.hid hc1
      obtain ⟨X1, hX1⟩ : ∃ b, refWords.any (eqS e.ref) = b := ⟨_, rfl⟩
      have HX1 := Troupe.hid hX1
      obtain ⟨y2, hy2⟩ : ∃ b, (!e.ref.toList.isEmpty) = b := ⟨_, rfl⟩
      have Hy2 := Troupe.hid hy2
      obtain ⟨X2, hX2⟩ : ∃ b, slotWords.any (eqS e.slot) = b := ⟨_, rfl⟩
      have HX2 := Troupe.hid hX2
      obtain ⟨y4, hy4⟩ : ∃ b, (!e.slot.toList.isEmpty) = b := ⟨_, rfl⟩
      have Hy4 := Troupe.hid hy4
      obtain ⟨c4, hc4⟩ : ∃ b, (!X2) = b := ⟨_, rfl⟩
      have Hc4 := Troupe.hid hc4
      obtain ⟨X3, hX3⟩ : ∃ b, lexV e.name = b := ⟨_, rfl⟩
      have HX3 := Troupe.hid hX3
      obtain ⟨c6, hc6⟩ : ∃ b, (nm && !X3) = b := ⟨_, rfl⟩
      have Hc6 := Troupe.hid hc6
      obtain ⟨y6, hy6⟩ : ∃ b, (!e.name.toList.isEmpty) = b := ⟨_, rfl⟩
      have Hy6 := Troupe.hid hy6
      obtain ⟨c7, hc7⟩ : ∃ b, (c6 || (!nm && y6)) = b := ⟨_, rfl⟩
      have Hc7 := Troupe.hid hc7
      obtain ⟨x3, hx3⟩ : ∃ b, decide (e.delay < 1) = b := ⟨_, rfl⟩
      have Hx3 := Troupe.hid hx3
      obtain ⟨x4, hx4⟩ : ∃ b, decide (4095 < e.delay) = b := ⟨_, rfl⟩
      have Hx4 := Troupe.hid hx4
      obtain ⟨c8, hc8⟩ : ∃ b, (x3 || x4) = b := ⟨_, rfl⟩
      have Hc8 := Troupe.hid hc8
      obtain ⟨c9, hc9⟩ : ∃ b, (dl && c8) = b := ⟨_, rfl⟩
      have Hc9 := Troupe.hid hc9
      obtain ⟨y9, hy9⟩ : ∃ b, (e.delay != 0) = b := ⟨_, rfl⟩
      have Hy9 := Troupe.hid hy9
      obtain ⟨c10, hc10⟩ : ∃ b, (c9 || (!dl && y9)) = b := ⟨_, rfl⟩
      have Hc10 := Troupe.hid hc10
      obtain ⟨x5, hx5⟩ : ∃ b, decide (e.v < 0) = b := ⟨_, rfl⟩
      have Hx5 := Troupe.hid hx5
      obtain ⟨x6, hx6⟩ : ∃ b, decide (2 < e.v) = b := ⟨_, rfl⟩
      have Hx6 := Troupe.hid hx6
      obtain ⟨c11, hc11⟩ : ∃ b, (x5 || x6) = b := ⟨_, rfl⟩
      have Hc11 := Troupe.hid hc11
      obtain ⟨y11, hy11⟩ : ∃ b, (e.v != 0) = b := ⟨_, rfl⟩
      have Hy11 := Troupe.hid hy11
      obtain ⟨c12, hc12⟩ : ∃ b, (c11 || (!vl && y11)) = b := ⟨_, rfl⟩
      have Hc12 := Troupe.hid hc12
      obtain ⟨x7, hx7⟩ : ∃ b, decide (e.n < 0) = b := ⟨_, rfl⟩
      have Hx7 := Troupe.hid hx7
      obtain ⟨x8, hx8⟩ : ∃ b, decide (255 < e.n) = b := ⟨_, rfl⟩
      have Hx8 := Troupe.hid hx8
      obtain ⟨c13, hc13⟩ : ∃ b, (x7 || x8) = b := ⟨_, rfl⟩
      have Hc13 := Troupe.hid hc13
      obtain ⟨hs, hhs⟩ : ∃ b, (e.v == 2) = b := ⟨_, rfl⟩
      have Hhs := Troupe.hid hhs
      obtain ⟨y13, hy13⟩ : ∃ b, (e.n != 0) = b := ⟨_, rfl⟩
      have Hy13 := Troupe.hid hy13
      obtain ⟨c14, hc14⟩ : ∃ b, (c13 || (!hs && y13)) = b := ⟨_, rfl⟩
      have Hc14 := Troupe.hid hc14
      obtain ⟨z1, hz1⟩ : ∃ b, (e.d == 2) = b := ⟨_, rfl⟩
      have Hz1 := Troupe.hid hz1
      obtain ⟨c15, hc15⟩ : ∃ b, (z1 && !kn) = b := ⟨_, rfl⟩
      have Hc15 := Troupe.hid hc15
      obtain ⟨z2, hz2⟩ : ∃ b, (e.d == 3) = b := ⟨_, rfl⟩
      have Hz2 := Troupe.hid hz2
      obtain ⟨c16, hc16⟩ : ∃ b, (c15 || (z2 && !st)) = b := ⟨_, rfl⟩
      have Hc16 := Troupe.hid hc16
      obtain ⟨z3, hz3⟩ : ∃ b, (e.d == 11) = b := ⟨_, rfl⟩
      have Hz3 := Troupe.hid hz3
      obtain ⟨z4, hz4⟩ : ∃ b, (e.d == 12) = b := ⟨_, rfl⟩
      have Hz4 := Troupe.hid hz4
      obtain ⟨c17, hc17⟩ : ∃ b, (z3 || z4) = b := ⟨_, rfl⟩
      have Hc17 := Troupe.hid hc17
      obtain ⟨c18, hc18⟩ : ∃ b, (c17 && !last) = b := ⟨_, rfl⟩
      have Hc18 := Troupe.hid hc18
      clear hX1 hX2 hX3
      have FIN : Hid (effV ks k.sts e last = firstV [⟨c1, 43⟩, ⟨y2, 43⟩, ⟨c4, 43⟩, ⟨c7, 43⟩, ⟨c10, 43⟩, ⟨c12, 43⟩, ⟨c14, 43⟩, ⟨c16, 42⟩, ⟨c18, 44⟩]) := by
        unfold Hid effV
        rw [HR.out, HS.out, HNM.out, HVL.out, HDL.out, HKN.out, HSTT.out]
        simp only [Bool.true_and, Bool.not_true, Bool.false_and, Bool.or_false, Bool.not_false, Bool.false_or]
        rw [Hx1.out, Hx2.out, Hc1.out, Hy2.out, HX2.out, Hc4.out, HX3.out, Hc6.out, Hy6.out, Hc7.out, Hx3.out, Hx4.out, Hc8.out, Hc9.out, Hy9.out, Hc10.out, Hx5.out, Hx6.out, Hc11.out, Hy11.out, Hc12.out, Hx7.out, Hx8.out, Hc13.out, Hhs.out, Hy13.out, Hc14.out, Hz1.out, Hc15.out, Hz2.out, Hc16.out, Hz3.out, Hz4.out, Hc17.out, Hc18.out]
      refine region_upF (.q 0 (.q 1 (.q 2 (.q 3 (.q 4 (.q 5 (.q 6 (.q 7 (.q 8 (.q 9 (.q 10 (.q 12 (.q 13 (.q 27 (.q 45 (.q 62 (.q 83 (.q 84 (.q 85 (.q 101 (.q 102 (.q 103 (.q 119 (.q 120 (.q 121 (.q 136 (.q 137 (.q 138 (.one 11 (.q 14 (.q 15 (.q 16 (.q 17 (.q 18 (.q 19 (.q 20 (.q 21 (.q 22 (.q 23 (.q 24 (.q 25 (.q 26 (.q 28 (.q 30 (.q 31 (.one 29 (.q 32 (.q 33 (.q 34 (.q 35 (.q 36 (.q 37 (.q 38 (.q 39 (.q 40 (.q 41 (.q 42 (.q 43 (.q 44 (.q 46 (.q 47 (.q 48 (.q 49 (.q 50 (.q 51 (.q 52 (.q 53 (.q 54 (.q 55 (.q 56 (.q 57 (.q 58 (.q 59 (.q 60 (.q 61 (.q 63 (.q 64 (.q 65 (.q 66 (.q 67 (.q 68 (.q 69 (.q 70 (.q 71 (.q 72 (.q 73 (.q 74 (.q 75 (.q 76 (.q 77 (.q 78 (.q 79 (.q 80 (.q 81 (.q 82 (.q 86 (.q 87 (.q 88 (.q 89 (.q 90 (.q 91 (.q 92 (.q 93 (.q 94 (.q 95 (.q 96 (.q 97 (.q 98 (.q 99 (.q 100 (.q 104 (.q 105 (.q 106 (.q 107 (.q 108 (.q 109 (.q 110 (.q 111 (.q 112 (.q 113 (.q 114 (.q 115 (.q 116 (.q 117 (.q 118 (.q 122 (.q 123 (.q 124 (.q 125 (.q 126 (.q 127 (.q 128 (.q 129 (.q 130 (.q 131 (.q 132 (.q 133 (.q 134 (.q 135 (.q 139 (.q 140 (.q 141 (.q 142 (.q 143 (.q 144 (.q 145 (.q 146 (.q 147 (.q 148 (.one 149 (.one 150 (.q 151 .done)))))))))))))))))))))))))))))))))))))))))))))))))))))))))))))))))))))))))))))))))))))))))))))))))))))))))))))))))))))))))))))))))))))))))))))))))))))))) [⟨some 37, [6], []⟩, ⟨some 38, [37], [0]⟩, ⟨some 39, [38], [1]⟩, ⟨some 40, [39], [2]⟩, ⟨some 41, [6, 40], [3]⟩, ⟨some 42, [41, 40], [4, 3]⟩, ⟨some 43, [42, 40], [5, 3]⟩, ⟨some 44, [40, 43], [3, 6]⟩, ⟨some 45, [44], [7]⟩, ⟨some 46, [9], []⟩, ⟨some 47, [46], [9, 3]⟩, ⟨some 48, [47], [10]⟩, ⟨some 49, [6, 47], [10]⟩, ⟨some 50, [49, 47], [12, 10]⟩, ⟨some 51, [48, 50, 47], [11, 13, 10, 10]⟩, ⟨some 52, [51, 47], [14, 10]⟩, ⟨some 53, [47, 52], [10, 15]⟩, ⟨some 54, [53], [16, 14]⟩, ⟨some 55, [9, 54], [17]⟩, ⟨some 56, [55, 54], [18, 17]⟩, ⟨some 57, [56, 54], [19, 17, 17]⟩, ⟨some 58, [6, 57], [20]⟩, ⟨some 59, [58, 57], [21, 20]⟩, ⟨some 60, [59, 57], [22, 20]⟩, ⟨some 61, [57, 60, 54], [20, 23, 17]⟩, ⟨some 62, [54, 61], [17, 24]⟩, ⟨some 63, [62], [25]⟩, ⟨some 64, [10], []⟩, ⟨some 65, [64], [27, 20]⟩, ⟨some 66, [65], [28]⟩, ⟨some 67, [6, 65], [28]⟩, ⟨some 68, [67, 65], [30, 28]⟩, ⟨some 69, [66, 68, 65], [29, 31, 28, 28]⟩, ⟨some 70, [69, 65], [32, 28]⟩, ⟨some 71, [65, 70], [28, 33]⟩, ⟨some 72, [71], [34, 32]⟩, ⟨some 73, [10, 72], [35]⟩, ⟨some 74, [73, 72], [36, 35]⟩, ⟨some 75, [74, 72], [37, 35, 35]⟩, ⟨some 76, [6, 75], [38]⟩, ⟨some 77, [76, 75], [39, 38]⟩, ⟨some 78, [77, 75], [40, 38]⟩, ⟨some 79, [75, 78, 72], [38, 41, 35]⟩, ⟨some 80, [72, 79], [35, 42]⟩, ⟨some 81, [80], [43]⟩, ⟨some 82, [11], []⟩, ⟨some 83, [82], [45, 38]⟩, ⟨some 84, [6, 83], [46]⟩, ⟨some 85, [84, 83], [47, 46]⟩, ⟨some 86, [85, 83], [48, 46, 46]⟩, ⟨some 87, [86, 83], [49, 46]⟩, ⟨some 88, [83, 87], [46, 50]⟩, ⟨some 89, [88], [51, 49]⟩, ⟨some 90, [11, 89], [52]⟩, ⟨some 91, [90, 89], [53, 52]⟩, ⟨some 92, [91, 89], [54, 52, 52]⟩, ⟨some 93, [6, 92], [55]⟩, ⟨some 94, [93, 92], [56, 55]⟩, ⟨some 95, [94, 92], [57, 55]⟩, ⟨some 96, [92, 95, 89], [55, 58, 52]⟩, ⟨some 97, [89, 96], [52, 59]⟩, ⟨some 98, [97], [60]⟩, ⟨some 99, [13], []⟩, ⟨some 100, [99], [62, 55]⟩, ⟨some 101, [6, 100], [63]⟩, ⟨some 102, [101, 100], [64, 63]⟩, ⟨some 103, [102, 100], [65, 63]⟩, ⟨some 104, [103, 100], [66, 63, 63]⟩, ⟨some 105, [6, 104], [67]⟩, ⟨some 106, [105, 104], [68, 67]⟩, ⟨some 107, [106, 104], [69, 67]⟩, ⟨some 108, [104, 107, 100], [67, 70, 63]⟩, ⟨some 109, [100, 108], [63, 71]⟩, ⟨some 110, [109], [72, 67]⟩, ⟨some 111, [13, 110], [73]⟩, ⟨some 112, [111, 110], [74, 73]⟩, ⟨some 113, [112, 110], [75, 73, 73]⟩, ⟨some 114, [6, 113], [76]⟩, ⟨some 115, [114, 113], [77, 76]⟩, ⟨some 116, [115, 113], [78, 76]⟩, ⟨some 117, [113, 116, 110], [76, 79, 73]⟩, ⟨some 118, [110, 117], [73, 80]⟩, ⟨some 119, [118], [81]⟩, ⟨some 120, [6], []⟩, ⟨some 121, [120], [83]⟩, ⟨some 122, [121], [84]⟩, ⟨some 123, [122], [85, 76]⟩, ⟨some 124, [6, 123], [86]⟩, ⟨some 125, [124, 123], [87, 86]⟩, ⟨some 126, [125, 123], [88, 86]⟩, ⟨some 127, [123, 126], [86, 89]⟩, ⟨some 128, [127], [90, 86]⟩, ⟨some 129, [12, 128], [91]⟩, ⟨some 130, [129, 128], [92, 91]⟩, ⟨some 131, [130, 128], [93, 91, 91]⟩, ⟨some 132, [6, 131], [94]⟩, ⟨some 133, [132, 131], [95, 94]⟩, ⟨some 134, [133, 131], [96, 94]⟩, ⟨some 135, [131, 134, 128], [94, 97, 91]⟩, ⟨some 136, [128, 135], [91, 98]⟩, ⟨some 137, [136], [99]⟩, ⟨some 138, [6], []⟩, ⟨some 139, [138], [101]⟩, ⟨some 140, [139], [102]⟩, ⟨some 141, [140], [103, 94]⟩, ⟨some 142, [6, 141], [104]⟩, ⟨some 143, [142, 141], [105, 104]⟩, ⟨some 144, [143, 141], [106, 104]⟩, ⟨some 145, [141, 144], [104, 107]⟩, ⟨some 146, [145], [108, 104]⟩, ⟨some 147, [16, 146], [109]⟩, ⟨some 148, [147, 146], [110, 109]⟩, ⟨some 149, [148, 146], [111, 109, 109]⟩, ⟨some 150, [6, 149], [112]⟩, ⟨some 151, [150, 149], [113, 112]⟩, ⟨some 152, [151, 149], [114, 112]⟩, ⟨some 153, [149, 152, 146], [112, 115, 109]⟩, ⟨some 154, [146, 153], [109, 116]⟩, ⟨some 155, [154], [117]⟩, ⟨some 156, [6], []⟩, ⟨some 157, [156], [119]⟩, ⟨some 158, [157], [120]⟩, ⟨some 159, [158], [121, 112]⟩, ⟨some 160, [14, 159], [122]⟩, ⟨some 161, [160, 159], [123, 122]⟩, ⟨some 162, [159, 161], [122, 124]⟩, ⟨some 163, [162], [125, 122]⟩, ⟨some 164, [6, 163], [126]⟩, ⟨some 165, [164, 163], [127, 126]⟩, ⟨some 166, [165, 163], [128, 126]⟩, ⟨some 167, [166, 163], [129, 126, 126]⟩, ⟨some 168, [15, 167], [130]⟩, ⟨some 169, [168, 167], [131, 130]⟩, ⟨some 170, [167, 169, 163], [130, 132, 126]⟩, ⟨some 171, [163, 170], [126, 133]⟩, ⟨some 172, [171], [134]⟩, ⟨some 173, [6], []⟩, ⟨some 174, [173], [136]⟩, ⟨some 175, [174], [137]⟩, ⟨some 176, [175], [138, 130]⟩, ⟨some 177, [6, 176], [139]⟩, ⟨some 178, [177, 176], [140, 139]⟩, ⟨some 179, [178, 176], [141, 139]⟩, ⟨some 180, [176, 179], [139, 142]⟩, ⟨some 181, [180], [143, 139]⟩, ⟨some 182, [3, 181], [144]⟩, ⟨some 183, [182, 181], [145, 144]⟩, ⟨some 184, [181, 183], [144, 146]⟩, ⟨some 185, [184], [147]⟩, ⟨some 186, [45, 63, 81, 98, 119, 137, 155, 172, 185], [8, 26, 44, 61, 82, 100, 118, 135, 148]⟩, ⟨some 187, [186], [149, 144]⟩, ⟨some 8, [187], [150, 150, 0, 1, 2, 3, 4, 5, 6, 7, 8, 9, 10, 11, 12, 13, 14, 15, 16, 17, 18, 19, 20, 21, 22, 23, 24, 25, 26, 27, 28, 29, 30, 31, 32, 33, 34, 35, 36, 37, 38, 39, 40, 41, 42, 43, 44, 45, 46, 47, 48, 49, 50, 51, 52, 53, 54, 55, 56, 57, 58, 59, 60, 61, 62, 63, 64, 65, 66, 67, 68, 69, 70, 71, 72, 73, 74, 75, 76, 77, 78, 79, 80, 81, 82, 83, 84, 85, 86, 87, 88, 89, 90, 91, 92, 93, 94, 95, 96, 97, 98, 99, 100, 101, 102, 103, 104, 105, 106, 107, 108, 109, 110, 111, 112, 113, 114, 115, 116, 117, 118, 119, 120, 121, 122, 123, 124, 125, 126, 127, 128, 129, 130, 131, 132, 133, 134, 135, 136, 137, 138, 139, 140, 141, 142, 143, 144, 145, 146, 147, 148, 149, 150]⟩] (by kernel_rfl) (by kernel_rfl) (by kernel_rfl) (by kernel_rfl) (fun _ _ d _ _ h => by cases d <;> exact h) ?_
      iterate 4 (refine wpUP_q rfl (fun K hK => ?_); go_simp; refine hK _ ?_; clear hK K)
      apply wpUP_g2 rfl
      case hb => intro F hF; go_simp; exact hF
      case h1 => intro hb K hK; (try simp only [Bool.not_eq_true'] at hb); go_simp; exact hK
      apply wpUP_g2 rfl
      case hb => intro F hF; go_simp; exact hF
      case h1 => intro hb K hK; (try simp only [Bool.not_eq_true'] at hb); go_simp; exact hK
      apply wpUP_g2 rfl
      case hb => intro F hF; go_simp; exact hF
      case h1 => intro hb K hK; (try simp only [Bool.not_eq_true'] at hb); go_simp; exact hK
      iterate 21 (refine wpUP_q rfl (fun K hK => ?_); go_simp; refine hK _ ?_; clear hK K)
      refine wpUP_one rfl ?_
      intro wb hux
      go_wp2_with fail
      refine ⟨Up.refl _, ?_⟩
      have UWB := Troupe.hid (id hux)
      clear hux fe hne
      have hne := UW.inh wb
      have fe : ∀ (x : UW wb) (i : Nat), x.w.cell? ⟨w.heap.size + 1 + 1, i, none⟩ = (Eff.cells e)[i]? := fun x => (HK2.out.below (UWB.out.trans x.h) HK2.out.lt).cell
      dsimp only [Eff.cells] at fe
      have LX : Hid (∀ x : UW wb, Calls Try.prog 50 #[.string e.name] x.w fun en w' => en = .returned (.bool X3) ∧ Up x.w w') := fun x => (lex_any e.name x.w).mono fun _ _ ⟨h1, h2⟩ => ⟨by rw [h1, HX3.out], h2 ▸ Up.refl _⟩
      iterate 16 (refine wpUP_q rfl (fun K hK => ?_); go_simp; refine hK _ ?_; clear hK K)
      refine wpUP_one rfl ?_
      intro wx hux
      go_wp2_with fail
      refine ⟨(Below.refl _ _).alloc (Nat.le_refl _) _, ?_⟩
      have hblk := Blk.new wx 9 [.string ⟨#[97]⟩, .string ⟨#[98]⟩, .string ⟨#[99]⟩, .string ⟨#[100]⟩]
      have UWC := Troupe.hid (Up.trans (UWB.out.trans hux) ((Below.refl _ _).alloc (Nat.le_refl _) _ : Up wx (wx.alloc (.cells #[.string ⟨#[97]⟩, .string ⟨#[98]⟩, .string ⟨#[99]⟩, .string ⟨#[100]⟩] 9))))
      have HBS := Troupe.hid hblk
      clear hblk hux fe hne
      generalize wx.alloc (.cells #[.string ⟨#[97]⟩, .string ⟨#[98]⟩, .string ⟨#[99]⟩, .string ⟨#[100]⟩] 9) = wc at *
      generalize wx.heap.size = gb at *
      have hne := UW.inh wc
      have fe : ∀ (x : UW wc) (i : Nat), x.w.cell? ⟨w.heap.size + 1 + 1, i, none⟩ = (Eff.cells e)[i]? := fun x => (HK2.out.below (UWC.out.trans x.h) HK2.out.lt).cell
      dsimp only [Eff.cells] at fe
      have LX : Hid (∀ x : UW wc, Calls Try.prog 50 #[.string e.name] x.w fun en w' => en = .returned (.bool X3) ∧ Up x.w w') := fun x => (lex_any e.name x.w).mono fun _ _ ⟨h1, h2⟩ => ⟨by rw [h1, HX3.out], h2 ▸ Up.refl _⟩
      have HT : Hid (∀ x : UW wc, Calls Try.prog 97 #[.slice (some ⟨gb, 0, none⟩) 4 4, .string e.slot] x.w fun en w' => en = .returned (.bool X2) ∧ Up x.w w') := fun x => (hasT_any (some ⟨gb, 0, none⟩) 4 4 x.w.heap.size [⟨#[97]⟩, ⟨#[98]⟩, ⟨#[99]⟩, ⟨#[100]⟩] e.slot x.w rfl (by unfold maxLen; omega) ((HBS.out.below x.h HBS.out.lt).blk_cells.mono (by have := (HBS.out.below x.h HBS.out.lt).lt; omega))).mono fun _ _ ⟨h1, h2⟩ => ⟨by rw [h1]; exact congrArg (fun b => Ending.returned (.bool b)) HX2.out, h2 ▸ Up.refl _⟩
      refine wpUP_q rfl (fun K hK => ?_)
      go_simp
      refine ⟨_, HT.out, hK _ ?_⟩
      clear hK K
      iterate 3 (refine wpUP_q rfl (fun K hK => ?_); go_simp; refine hK _ ?_; clear hK K)
      apply wpUP_g2 rfl
      case hb => intro F hF; go_simp; exact hF
      case h1 => intro hb K hK; (try simp only [Bool.not_eq_true'] at hb); go_simp; exact hK
      apply wpUP_g2 rfl
      case hb => intro F hF; go_simp; exact hF
      case h1 => intro hb K hK; (try simp only [Bool.not_eq_true'] at hb); go_simp; exact hK
      apply wpUP_g2 rfl
      case hb => intro F hF; go_simp; exact hF
      case h1 => intro hb K hK; (try simp only [Bool.not_eq_true'] at hb); go_simp; exact hK
      (try go_simp)
      apply wpUP_nF rfl rfl rfl rfl
      (try go_simp)
      apply wpUP_nF rfl rfl rfl rfl
      (try go_simp)
      apply wpUP_nF rfl rfl rfl rfl
      apply wpUP_g2 rfl
      case hb => intro F hF; go_simp; exact hF
      case h1 => intro hb K hK; (try simp only [Bool.not_eq_true'] at hb); go_simp; exact hK
      iterate 3 (refine wpUP_q rfl (fun K hK => ?_); go_simp; refine hK _ ?_; clear hK K)
      apply wpUP_g2 rfl
      case hb => intro F hF; go_simp; exact hF
      case h1 => intro hb K hK; (try simp only [Bool.not_eq_true'] at hb); go_simp; exact hK
      apply wpUP_g2 rfl
      case hb => intro F hF; go_simp; exact hF
      case h1 => intro hb K hK; (try simp only [Bool.not_eq_true'] at hb); go_simp; exact hK
      apply wpUP_g2 rfl
      case hb => intro F hF; go_simp; exact hF
      case h1 => intro hb K hK; go_simp; exact ⟨_, LX.out, hK⟩
      apply wpUP_g2 rfl
      case hb => intro F hF; go_simp; exact hF
      case h1 => intro hb K hK; (try simp only [Bool.not_eq_true'] at hb); go_simp; exact hK
      iterate 2 (refine wpUP_q rfl (fun K hK => ?_); go_simp; refine hK _ ?_; clear hK K)
      apply wpUP_g2 rfl
      case hb => intro F hF; go_simp; exact hF
      case h1 => intro hb K hK; (try simp only [Bool.not_eq_true'] at hb); go_simp; exact hK
      apply wpUP_g2 rfl
      case hb => intro F hF; go_simp; exact hF
      case h1 => intro hb K hK; (try simp only [Bool.not_eq_true'] at hb); go_simp; exact hK
      apply wpUP_g2 rfl
      case hb => intro F hF; go_simp; exact hF
      case h1 => intro hb K hK; (try simp only [Bool.not_eq_true'] at hb); go_simp; exact hK
      (try go_simp)
      apply wpUP_gFt rfl rfl rfl rfl
      case h1 => intro hb K hK; simp only [Bool.and_eq_true, Bool.not_eq_true'] at hb; go_simp; exact hK
      (try go_simp)
      apply wpUP_gFt rfl rfl rfl rfl
      case h1 => intro hb K hK; simp only [Bool.and_eq_true, Bool.not_eq_true'] at hb; go_simp; exact hK
      (try go_simp)
      apply wpUP_gFt rfl rfl rfl rfl
      case h1 => intro hb K hK; simp only [Bool.and_eq_true, Bool.not_eq_true'] at hb; go_simp; exact hK
      apply wpUP_g2 rfl
      case hb => intro F hF; go_simp; exact hF
      case h1 => intro hb K hK; (try simp only [Bool.not_eq_true'] at hb); go_simp; exact hK
      iterate 3 (refine wpUP_q rfl (fun K hK => ?_); go_simp; refine hK _ ?_; clear hK K)
      apply wpUP_g2 rfl
      case hb => intro F hF; go_simp; exact hF
      case h1 => intro hb K hK; (try simp only [Bool.not_eq_true'] at hb); go_simp; exact hK
      apply wpUP_g2 rfl
      case hb => intro F hF; go_simp; exact hF
      case h1 => intro hb K hK; (try simp only [Bool.not_eq_true'] at hb); go_simp; exact hK
      apply wpUP_g2 rfl
      case hb => intro F hF; go_simp; exact hF
      case h1 => intro hb K hK; (try simp only [Bool.not_eq_true'] at hb); go_simp; exact hK
      apply wpUP_g2 rfl
      case hb => intro F hF; go_simp; exact hF
      case h1 => intro hb K hK; (try simp only [Bool.not_eq_true'] at hb); go_simp; exact hK
      (try go_simp)
      apply wpUP_gTf rfl rfl rfl rfl
      case h1 => intro hb K hK; simp only [Bool.and_eq_true, Bool.not_eq_true'] at hb; go_simp; exact hK
      (try go_simp)
      apply wpUP_gTf rfl rfl rfl rfl
      case h1 => intro hb K hK; simp only [Bool.and_eq_true, Bool.not_eq_true'] at hb; go_simp; exact hK
      (try go_simp)
      apply wpUP_gTf rfl rfl rfl rfl
      case h1 => intro hb K hK; simp only [Bool.and_eq_true, Bool.not_eq_true'] at hb; go_simp; exact hK
      apply wpUP_g2 rfl
      case hb => intro F hF; go_simp; exact hF
      case h1 => intro hb K hK; (try simp only [Bool.not_eq_true'] at hb); go_simp; exact hK
      iterate 2 (refine wpUP_q rfl (fun K hK => ?_); go_simp; refine hK _ ?_; clear hK K)
      apply wpUP_g2 rfl
      case hb => intro F hF; go_simp; exact hF
      case h1 => intro hb K hK; (try simp only [Bool.not_eq_true'] at hb); go_simp; exact hK
      apply wpUP_g2 rfl
      case hb => intro F hF; go_simp; exact hF
      case h1 => intro hb K hK; (try simp only [Bool.not_eq_true'] at hb); go_simp; exact hK
      apply wpUP_g2 rfl
      case hb => intro F hF; go_simp; exact hF
      case h1 => intro hb K hK; (try simp only [Bool.not_eq_true'] at hb); go_simp; exact hK
      (try go_simp)
      apply wpUP_gFt rfl rfl rfl rfl
      case h1 => intro hb K hK; simp only [Bool.and_eq_true, Bool.not_eq_true'] at hb; go_simp; exact hK
      (try go_simp)
      apply wpUP_gFt rfl rfl rfl rfl
      case h1 => intro hb K hK; simp only [Bool.and_eq_true, Bool.not_eq_true'] at hb; go_simp; exact hK
      (try go_simp)
      apply wpUP_gFt rfl rfl rfl rfl
      case h1 => intro hb K hK; simp only [Bool.and_eq_true, Bool.not_eq_true'] at hb; go_simp; exact hK
      apply wpUP_g2 rfl
      case hb => intro F hF; go_simp; exact hF
      case h1 => intro hb K hK; (try simp only [Bool.not_eq_true'] at hb); go_simp; exact hK
      iterate 3 (refine wpUP_q rfl (fun K hK => ?_); go_simp; refine hK _ ?_; clear hK K)
      apply wpUP_g2 rfl
      case hb => intro F hF; go_simp; exact hF
      case h1 => intro hb K hK; (try simp only [Bool.not_eq_true'] at hb); go_simp; exact hK
      apply wpUP_g2 rfl
      case hb => intro F hF; go_simp; exact hF
      case h1 => intro hb K hK; (try simp only [Bool.not_eq_true'] at hb); go_simp; exact hK
      apply wpUP_g2 rfl
      case hb => intro F hF; go_simp; exact hF
      case h1 => intro hb K hK; (try simp only [Bool.not_eq_true'] at hb); go_simp; exact hK
      iterate 2 (refine wpUP_q rfl (fun K hK => ?_); go_simp; refine hK _ ?_; clear hK K)
      apply wpUP_g2 rfl
      case hb => intro F hF; go_simp; exact hF
      case h1 => intro hb K hK; (try simp only [Bool.not_eq_true'] at hb); go_simp; exact hK
      apply wpUP_g2 rfl
      case hb => intro F hF; go_simp; exact hF
      case h1 => intro hb K hK; (try simp only [Bool.not_eq_true'] at hb); go_simp; exact hK
      apply wpUP_g2 rfl
      case hb => intro F hF; go_simp; exact hF
      case h1 => intro hb K hK; (try simp only [Bool.not_eq_true'] at hb); go_simp; exact hK
      (try go_simp)
      apply wpUP_gFt rfl rfl rfl rfl
      case h1 => intro hb K hK; simp only [Bool.and_eq_true, Bool.not_eq_true'] at hb; go_simp; exact hK
      (try go_simp)
      apply wpUP_gFt rfl rfl rfl rfl
      case h1 => intro hb K hK; simp only [Bool.and_eq_true, Bool.not_eq_true'] at hb; go_simp; exact hK
      (try go_simp)
      apply wpUP_gFt rfl rfl rfl rfl
      case h1 => intro hb K hK; simp only [Bool.and_eq_true, Bool.not_eq_true'] at hb; go_simp; exact hK
      apply wpUP_g2 rfl
      case hb => intro F hF; go_simp; exact hF
      case h1 => intro hb K hK; (try simp only [Bool.not_eq_true'] at hb); go_simp; exact hK
      iterate 3 (refine wpUP_q rfl (fun K hK => ?_); go_simp; refine hK _ ?_; clear hK K)
      apply wpUP_g2 rfl
      case hb => intro F hF; go_simp; exact hF
      case h1 => intro hb K hK; (try simp only [Bool.not_eq_true'] at hb); go_simp; exact hK
      apply wpUP_g2 rfl
      case hb => intro F hF; go_simp; exact hF
      case h1 => intro hb K hK; (try simp only [Bool.not_eq_true'] at hb); go_simp; exact hK
      apply wpUP_g2 rfl
      case hb => intro F hF; go_simp; exact hF
      case h1 => intro hb K hK; (try simp only [Bool.not_eq_true'] at hb); go_simp; exact hK
      iterate 2 (refine wpUP_q rfl (fun K hK => ?_); go_simp; refine hK _ ?_; clear hK K)
      apply wpUP_g2 rfl
      case hb => intro F hF; go_simp; exact hF
      case h1 => intro hb K hK; (try simp only [Bool.not_eq_true'] at hb); go_simp; exact hK
      apply wpUP_g2 rfl
      case hb => intro F hF; go_simp; exact hF
      case h1 => intro hb K hK; (try simp only [Bool.not_eq_true'] at hb); go_simp; exact hK
      apply wpUP_g2 rfl
      case hb => intro F hF; go_simp; exact hF
      case h1 => intro hb K hK; (try simp only [Bool.not_eq_true'] at hb); go_simp; exact hK
      (try go_simp)
      apply wpUP_gFt rfl rfl rfl rfl
      case h1 => intro hb K hK; simp only [Bool.and_eq_true, Bool.not_eq_true'] at hb; go_simp; exact hK
      (try go_simp)
      apply wpUP_gFt rfl rfl rfl rfl
      case h1 => intro hb K hK; simp only [Bool.and_eq_true, Bool.not_eq_true'] at hb; go_simp; exact hK
      (try go_simp)
      apply wpUP_gFt rfl rfl rfl rfl
      case h1 => intro hb K hK; simp only [Bool.and_eq_true, Bool.not_eq_true'] at hb; go_simp; exact hK
      apply wpUP_g2 rfl
      case hb => intro F hF; go_simp; exact hF
      case h1 => intro hb K hK; (try simp only [Bool.not_eq_true'] at hb); go_simp; exact hK
      iterate 3 (refine wpUP_q rfl (fun K hK => ?_); go_simp; refine hK _ ?_; clear hK K)
      apply wpUP_g2 rfl
      case hb => intro F hF; go_simp; exact hF
      case h1 => intro hb K hK; (try simp only [Bool.not_eq_true'] at hb); go_simp; exact hK
      apply wpUP_g2 rfl
      case hb => intro F hF; go_simp; exact hF
      case h1 => intro hb K hK; (try simp only [Bool.not_eq_true'] at hb); go_simp; exact hK
      iterate 2 (refine wpUP_q rfl (fun K hK => ?_); go_simp; refine hK _ ?_; clear hK K)
      apply wpUP_g2 rfl
      case hb => intro F hF; go_simp; exact hF
      case h1 => intro hb K hK; (try simp only [Bool.not_eq_true'] at hb); go_simp; exact hK
      apply wpUP_g2 rfl
      case hb => intro F hF; go_simp; exact hF
      case h1 => intro hb K hK; (try simp only [Bool.not_eq_true'] at hb); go_simp; exact hK
      apply wpUP_g2 rfl
      case hb => intro F hF; go_simp; exact hF
      case h1 => intro hb K hK; (try simp only [Bool.not_eq_true'] at hb); go_simp; exact hK
      apply wpUP_g2 rfl
      case hb => intro F hF; go_simp; exact hF
      case h1 => intro hb K hK; (try simp only [Bool.not_eq_true'] at hb); go_simp; exact hK
      (try go_simp)
      apply wpUP_gFt rfl rfl rfl rfl
      case h1 => intro hb K hK; simp only [Bool.and_eq_true, Bool.not_eq_true'] at hb; go_simp; exact hK
      (try go_simp)
      apply wpUP_gFt rfl rfl rfl rfl
      case h1 => intro hb K hK; simp only [Bool.and_eq_true, Bool.not_eq_true'] at hb; go_simp; exact hK
      apply wpUP_g2 rfl
      case hb => intro F hF; go_simp; exact hF
      case h1 => intro hb K hK; (try simp only [Bool.not_eq_true'] at hb); go_simp; exact hK
      iterate 3 (refine wpUP_q rfl (fun K hK => ?_); go_simp; refine hK _ ?_; clear hK K)
      apply wpUP_g2 rfl
      case hb => intro F hF; go_simp; exact hF
      case h1 => intro hb K hK; (try simp only [Bool.not_eq_true'] at hb); go_simp; exact hK
      apply wpUP_g2 rfl
      case hb => intro F hF; go_simp; exact hF
      case h1 => intro hb K hK; (try simp only [Bool.not_eq_true'] at hb); go_simp; exact hK
      apply wpUP_g2 rfl
      case hb => intro F hF; go_simp; exact hF
      case h1 => intro hb K hK; (try simp only [Bool.not_eq_true'] at hb); go_simp; exact hK
      iterate 2 (refine wpUP_q rfl (fun K hK => ?_); go_simp; refine hK _ ?_; clear hK K)
      apply wpUP_g2 rfl
      case hb => intro F hF; go_simp; exact hF
      case h1 => intro hb K hK; (try simp only [Bool.not_eq_true'] at hb); go_simp; exact hK
      apply wpUP_g2 rfl
      case hb => intro F hF; go_simp; exact hF
      case h1 => intro hb K hK; (try simp only [Bool.not_eq_true'] at hb); go_simp; exact hK
      iterate 2 (refine wpUP_q rfl (fun K hK => ?_); go_simp; refine hK _ ?_; clear hK K)
      clear fe hne
      clear hx1 hx2 hc1 hy2 hy4 hc4 hc6 hy6 hc7 hx3 hx4 hc8 hc9 hy9 hc10 hx5 hx6 hc11 hy11 hc12 hx7 hx8 hc13 hhs hy13 hc14 hz1 hc15 hz2 hc16 hz3 hz4 hc17 hc18
      refine wpUP_one rfl ?_
      intro wx hux
      go_wp2_with fail
      refine ⟨(Below.refl _ _).alloc (Nat.le_refl _) _, ?_⟩
      have hblk := Blk.new wx 71 [.bool c1, .int .i64 43, .bool y2, .int .i64 43, .bool c4, .int .i64 43, .bool c7, .int .i64 43, .bool c10, .int .i64 43, .bool c12, .int .i64 43, .bool c14, .int .i64 43, .bool c16, .int .i64 42, .bool c18, .int .i64 44]
      have UV := Troupe.hid (Up.trans (UWC.out.trans hux) ((Below.refl _ _).alloc (Nat.le_refl _) _ : Up wx (wx.alloc (.cells #[.bool c1, .int .i64 43, .bool y2, .int .i64 43, .bool c4, .int .i64 43, .bool c7, .int .i64 43, .bool c10, .int .i64 43, .bool c12, .int .i64 43, .bool c14, .int .i64 43, .bool c16, .int .i64 42, .bool c18, .int .i64 44] 71))))
      have HBV := Troupe.hid hblk
      clear hblk hux
      generalize wx.alloc (.cells #[.bool c1, .int .i64 43, .bool y2, .int .i64 43, .bool c4, .int .i64 43, .bool c7, .int .i64 43, .bool c10, .int .i64 43, .bool c12, .int .i64 43, .bool c14, .int .i64 43, .bool c16, .int .i64 42, .bool c18, .int .i64 44] 71) = wv at *
      generalize wx.heap.size = gv at *
      refine wpUP_one rfl ?_
      intro wd hud
      have FR := Troupe.hid (first_any (some ⟨gv, 0, none⟩) 9 9 wd.heap.size [⟨c1, 43⟩, ⟨y2, 43⟩, ⟨c4, 43⟩, ⟨c7, 43⟩, ⟨c10, 43⟩, ⟨c12, 43⟩, ⟨c14, 43⟩, ⟨c16, 42⟩, ⟨c18, 44⟩] wd rfl (by unfold maxLen; omega) ((HBV.out.below hud HBV.out.lt).blk_cells.mono (HBV.out.below hud HBV.out.lt).lt) (Nat.le_refl _))
      have UD := Troupe.hid (UV.out.trans hud)
      clear hud
      go_wp2_with fail
      refine FR.out.mono ?_
      rintro en we ⟨rfl, hue⟩
      have UE := Troupe.hid (UD.out.trans hue)
      go_wp2_with fail
      refine ⟨hue, ?_⟩
      have hne := UW.inh we
      clear hue
      refine wpUP_q rfl (fun K hK => ?_); go_simp; refine hK _ ?_; clear hK K
      refine wpUP_done ?_
      intro w6 huf
      have UF := Troupe.hid (UE.out.trans huf)
      clear huf hne
      go_wp2_with fail
      go_ret
      exact ⟨by rw [FIN.out]; rfl, B3.out.trans (UF.out.mono B3.out.size)⟩

    | false =>
      obtain ⟨x1, hx1⟩ : ∃ b, decide (e.d < 1) = b := ⟨_, rfl⟩
      have Hx1 := Troupe.hid hx1
      obtain ⟨x2, hx2⟩ : ∃ b, decide (12 < e.d) = b := ⟨_, rfl⟩
      have Hx2 := Troupe.hid hx2
      obtain ⟨c1, hc1⟩ : ∃ b, (x1 || x2) = b := ⟨_, rfl⟩
      have Hc1 := Troupe.hid hc1
      obtain ⟨X1, hX1⟩ : ∃ b, refWords.any (eqS e.ref) = b := ⟨_, rfl⟩
      have HX1 := Troupe.hid hX1
      obtain ⟨y2, hy2⟩ : ∃ b, (!e.ref.toList.isEmpty) = b := ⟨_, rfl⟩
      have Hy2 := Troupe.hid hy2
      obtain ⟨X2, hX2⟩ : ∃ b, slotWords.any (eqS e.slot) = b := ⟨_, rfl⟩
      have HX2 := Troupe.hid hX2
      obtain ⟨y4, hy4⟩ : ∃ b, (!e.slot.toList.isEmpty) = b := ⟨_, rfl⟩
      have Hy4 := Troupe.hid hy4
      obtain ⟨X3, hX3⟩ : ∃ b, lexV e.name = b := ⟨_, rfl⟩
      have HX3 := Troupe.hid hX3
      obtain ⟨c6, hc6⟩ : ∃ b, (nm && !X3) = b := ⟨_, rfl⟩
      have Hc6 := Troupe.hid hc6
      obtain ⟨y6, hy6⟩ : ∃ b, (!e.name.toList.isEmpty) = b := ⟨_, rfl⟩
      have Hy6 := Troupe.hid hy6
      obtain ⟨c7, hc7⟩ : ∃ b, (c6 || (!nm && y6)) = b := ⟨_, rfl⟩
      have Hc7 := Troupe.hid hc7
      obtain ⟨x3, hx3⟩ : ∃ b, decide (e.delay < 1) = b := ⟨_, rfl⟩
      have Hx3 := Troupe.hid hx3
      obtain ⟨x4, hx4⟩ : ∃ b, decide (4095 < e.delay) = b := ⟨_, rfl⟩
      have Hx4 := Troupe.hid hx4
      obtain ⟨c8, hc8⟩ : ∃ b, (x3 || x4) = b := ⟨_, rfl⟩
      have Hc8 := Troupe.hid hc8
      obtain ⟨c9, hc9⟩ : ∃ b, (dl && c8) = b := ⟨_, rfl⟩
      have Hc9 := Troupe.hid hc9
      obtain ⟨y9, hy9⟩ : ∃ b, (e.delay != 0) = b := ⟨_, rfl⟩
      have Hy9 := Troupe.hid hy9
      obtain ⟨c10, hc10⟩ : ∃ b, (c9 || (!dl && y9)) = b := ⟨_, rfl⟩
      have Hc10 := Troupe.hid hc10
      obtain ⟨x5, hx5⟩ : ∃ b, decide (e.v < 0) = b := ⟨_, rfl⟩
      have Hx5 := Troupe.hid hx5
      obtain ⟨x6, hx6⟩ : ∃ b, decide (2 < e.v) = b := ⟨_, rfl⟩
      have Hx6 := Troupe.hid hx6
      obtain ⟨c11, hc11⟩ : ∃ b, (x5 || x6) = b := ⟨_, rfl⟩
      have Hc11 := Troupe.hid hc11
      obtain ⟨y11, hy11⟩ : ∃ b, (e.v != 0) = b := ⟨_, rfl⟩
      have Hy11 := Troupe.hid hy11
      obtain ⟨c12, hc12⟩ : ∃ b, (c11 || (!vl && y11)) = b := ⟨_, rfl⟩
      have Hc12 := Troupe.hid hc12
      obtain ⟨x7, hx7⟩ : ∃ b, decide (e.n < 0) = b := ⟨_, rfl⟩
      have Hx7 := Troupe.hid hx7
      obtain ⟨x8, hx8⟩ : ∃ b, decide (255 < e.n) = b := ⟨_, rfl⟩
      have Hx8 := Troupe.hid hx8
      obtain ⟨c13, hc13⟩ : ∃ b, (x7 || x8) = b := ⟨_, rfl⟩
      have Hc13 := Troupe.hid hc13
      obtain ⟨hs, hhs⟩ : ∃ b, (e.v == 2) = b := ⟨_, rfl⟩
      have Hhs := Troupe.hid hhs
      obtain ⟨y13, hy13⟩ : ∃ b, (e.n != 0) = b := ⟨_, rfl⟩
      have Hy13 := Troupe.hid hy13
      obtain ⟨c14, hc14⟩ : ∃ b, (c13 || (!hs && y13)) = b := ⟨_, rfl⟩
      have Hc14 := Troupe.hid hc14
      obtain ⟨z1, hz1⟩ : ∃ b, (e.d == 2) = b := ⟨_, rfl⟩
      have Hz1 := Troupe.hid hz1
      obtain ⟨c15, hc15⟩ : ∃ b, (z1 && !kn) = b := ⟨_, rfl⟩
      have Hc15 := Troupe.hid hc15
      obtain ⟨z2, hz2⟩ : ∃ b, (e.d == 3) = b := ⟨_, rfl⟩
      have Hz2 := Troupe.hid hz2
      obtain ⟨c16, hc16⟩ : ∃ b, (c15 || (z2 && !st)) = b := ⟨_, rfl⟩
      have Hc16 := Troupe.hid hc16
      obtain ⟨z3, hz3⟩ : ∃ b, (e.d == 11) = b := ⟨_, rfl⟩
      have Hz3 := Troupe.hid hz3
      obtain ⟨z4, hz4⟩ : ∃ b, (e.d == 12) = b := ⟨_, rfl⟩
      have Hz4 := Troupe.hid hz4
      obtain ⟨c17, hc17⟩ : ∃ b, (z3 || z4) = b := ⟨_, rfl⟩
      have Hc17 := Troupe.hid hc17
      obtain ⟨c18, hc18⟩ : ∃ b, (c17 && !last) = b := ⟨_, rfl⟩
      have Hc18 := Troupe.hid hc18
      clear hX1 hX2 hX3
      have FIN : Hid (effV ks k.sts e last = firstV [⟨c1, 43⟩, ⟨y2, 43⟩, ⟨y4, 43⟩, ⟨c7, 43⟩, ⟨c10, 43⟩, ⟨c12, 43⟩, ⟨c14, 43⟩, ⟨c16, 42⟩, ⟨c18, 44⟩]) := by
        unfold Hid effV
        rw [HR.out, HS.out, HNM.out, HVL.out, HDL.out, HKN.out, HSTT.out]
        simp only [Bool.true_and, Bool.false_and, Bool.not_false, Bool.false_or]
        rw [Hx1.out, Hx2.out, Hc1.out, Hy2.out, Hy4.out, HX3.out, Hc6.out, Hy6.out, Hc7.out, Hx3.out, Hx4.out, Hc8.out, Hc9.out, Hy9.out, Hc10.out, Hx5.out, Hx6.out, Hc11.out, Hy11.out, Hc12.out, Hx7.out, Hx8.out, Hc13.out, Hhs.out, Hy13.out, Hc14.out, Hz1.out, Hc15.out, Hz2.out, Hc16.out, Hz3.out, Hz4.out, Hc17.out, Hc18.out]
      refine region_upF (.q 0 (.q 1 (.q 2 (.q 3 (.q 4 (.q 5 (.q 6 (.q 7 (.q 8 (.q 9 (.q 10 (.q 12 (.q 13 (.q 27 (.q 45 (.q 62 (.q 83 (.q 84 (.q 85 (.q 101 (.q 102 (.q 103 (.q 119 (.q 120 (.q 121 (.q 136 (.q 137 (.q 138 (.one 11 (.q 14 (.q 15 (.q 16 (.q 17 (.q 18 (.q 19 (.q 20 (.q 21 (.q 22 (.q 23 (.q 24 (.q 25 (.q 26 (.q 28 (.q 30 (.q 31 (.one 29 (.q 32 (.q 33 (.q 34 (.q 35 (.q 36 (.q 37 (.q 38 (.q 39 (.q 40 (.q 41 (.q 42 (.q 43 (.q 44 (.q 46 (.q 47 (.q 48 (.q 49 (.q 50 (.q 51 (.q 52 (.q 53 (.q 54 (.q 55 (.q 56 (.q 57 (.q 58 (.q 59 (.q 60 (.q 61 (.q 63 (.q 64 (.q 65 (.q 66 (.q 67 (.q 68 (.q 69 (.q 70 (.q 71 (.q 72 (.q 73 (.q 74 (.q 75 (.q 76 (.q 77 (.q 78 (.q 79 (.q 80 (.q 81 (.q 82 (.q 86 (.q 87 (.q 88 (.q 89 (.q 90 (.q 91 (.q 92 (.q 93 (.q 94 (.q 95 (.q 96 (.q 97 (.q 98 (.q 99 (.q 100 (.q 104 (.q 105 (.q 106 (.q 107 (.q 108 (.q 109 (.q 110 (.q 111 (.q 112 (.q 113 (.q 114 (.q 115 (.q 116 (.q 117 (.q 118 (.q 122 (.q 123 (.q 124 (.q 125 (.q 126 (.q 127 (.q 128 (.q 129 (.q 130 (.q 131 (.q 132 (.q 133 (.q 134 (.q 135 (.q 139 (.q 140 (.q 141 (.q 142 (.q 143 (.q 144 (.q 145 (.q 146 (.q 147 (.q 148 (.one 149 (.one 150 (.q 151 .done)))))))))))))))))))))))))))))))))))))))))))))))))))))))))))))))))))))))))))))))))))))))))))))))))))))))))))))))))))))))))))))))))))))))))))))))))))))))) [⟨some 37, [6], []⟩, ⟨some 38, [37], [0]⟩, ⟨some 39, [38], [1]⟩, ⟨some 40, [39], [2]⟩, ⟨some 41, [6, 40], [3]⟩, ⟨some 42, [41, 40], [4, 3]⟩, ⟨some 43, [42, 40], [5, 3]⟩, ⟨some 44, [40, 43], [3, 6]⟩, ⟨some 45, [44], [7]⟩, ⟨some 46, [9], []⟩, ⟨some 47, [46], [9, 3]⟩, ⟨some 48, [47], [10]⟩, ⟨some 49, [6, 47], [10]⟩, ⟨some 50, [49, 47], [12, 10]⟩, ⟨some 51, [48, 50, 47], [11, 13, 10, 10]⟩, ⟨some 52, [51, 47], [14, 10]⟩, ⟨some 53, [47, 52], [10, 15]⟩, ⟨some 54, [53], [16, 14]⟩, ⟨some 55, [9, 54], [17]⟩, ⟨some 56, [55, 54], [18, 17]⟩, ⟨some 57, [56, 54], [19, 17, 17]⟩, ⟨some 58, [6, 57], [20]⟩, ⟨some 59, [58, 57], [21, 20]⟩, ⟨some 60, [59, 57], [22, 20]⟩, ⟨some 61, [57, 60, 54], [20, 23, 17]⟩, ⟨some 62, [54, 61], [17, 24]⟩, ⟨some 63, [62], [25]⟩, ⟨some 64, [10], []⟩, ⟨some 65, [64], [27, 20]⟩, ⟨some 66, [65], [28]⟩, ⟨some 67, [6, 65], [28]⟩, ⟨some 68, [67, 65], [30, 28]⟩, ⟨some 69, [66, 68, 65], [29, 31, 28, 28]⟩, ⟨some 70, [69, 65], [32, 28]⟩, ⟨some 71, [65, 70], [28, 33]⟩, ⟨some 72, [71], [34, 32]⟩, ⟨some 73, [10, 72], [35]⟩, ⟨some 74, [73, 72], [36, 35]⟩, ⟨some 75, [74, 72], [37, 35, 35]⟩, ⟨some 76, [6, 75], [38]⟩, ⟨some 77, [76, 75], [39, 38]⟩, ⟨some 78, [77, 75], [40, 38]⟩, ⟨some 79, [75, 78, 72], [38, 41, 35]⟩, ⟨some 80, [72, 79], [35, 42]⟩, ⟨some 81, [80], [43]⟩, ⟨some 82, [11], []⟩, ⟨some 83, [82], [45, 38]⟩, ⟨some 84, [6, 83], [46]⟩, ⟨some 85, [84, 83], [47, 46]⟩, ⟨some 86, [85, 83], [48, 46, 46]⟩, ⟨some 87, [86, 83], [49, 46]⟩, ⟨some 88, [83, 87], [46, 50]⟩, ⟨some 89, [88], [51, 49]⟩, ⟨some 90, [11, 89], [52]⟩, ⟨some 91, [90, 89], [53, 52]⟩, ⟨some 92, [91, 89], [54, 52, 52]⟩, ⟨some 93, [6, 92], [55]⟩, ⟨some 94, [93, 92], [56, 55]⟩, ⟨some 95, [94, 92], [57, 55]⟩, ⟨some 96, [92, 95, 89], [55, 58, 52]⟩, ⟨some 97, [89, 96], [52, 59]⟩, ⟨some 98, [97], [60]⟩, ⟨some 99, [13], []⟩, ⟨some 100, [99], [62, 55]⟩, ⟨some 101, [6, 100], [63]⟩, ⟨some 102, [101, 100], [64, 63]⟩, ⟨some 103, [102, 100], [65, 63]⟩, ⟨some 104, [103, 100], [66, 63, 63]⟩, ⟨some 105, [6, 104], [67]⟩, ⟨some 106, [105, 104], [68, 67]⟩, ⟨some 107, [106, 104], [69, 67]⟩, ⟨some 108, [104, 107, 100], [67, 70, 63]⟩, ⟨some 109, [100, 108], [63, 71]⟩, ⟨some 110, [109], [72, 67]⟩, ⟨some 111, [13, 110], [73]⟩, ⟨some 112, [111, 110], [74, 73]⟩, ⟨some 113, [112, 110], [75, 73, 73]⟩, ⟨some 114, [6, 113], [76]⟩, ⟨some 115, [114, 113], [77, 76]⟩, ⟨some 116, [115, 113], [78, 76]⟩, ⟨some 117, [113, 116, 110], [76, 79, 73]⟩, ⟨some 118, [110, 117], [73, 80]⟩, ⟨some 119, [118], [81]⟩, ⟨some 120, [6], []⟩, ⟨some 121, [120], [83]⟩, ⟨some 122, [121], [84]⟩, ⟨some 123, [122], [85, 76]⟩, ⟨some 124, [6, 123], [86]⟩, ⟨some 125, [124, 123], [87, 86]⟩, ⟨some 126, [125, 123], [88, 86]⟩, ⟨some 127, [123, 126], [86, 89]⟩, ⟨some 128, [127], [90, 86]⟩, ⟨some 129, [12, 128], [91]⟩, ⟨some 130, [129, 128], [92, 91]⟩, ⟨some 131, [130, 128], [93, 91, 91]⟩, ⟨some 132, [6, 131], [94]⟩, ⟨some 133, [132, 131], [95, 94]⟩, ⟨some 134, [133, 131], [96, 94]⟩, ⟨some 135, [131, 134, 128], [94, 97, 91]⟩, ⟨some 136, [128, 135], [91, 98]⟩, ⟨some 137, [136], [99]⟩, ⟨some 138, [6], []⟩, ⟨some 139, [138], [101]⟩, ⟨some 140, [139], [102]⟩, ⟨some 141, [140], [103, 94]⟩, ⟨some 142, [6, 141], [104]⟩, ⟨some 143, [142, 141], [105, 104]⟩, ⟨some 144, [143, 141], [106, 104]⟩, ⟨some 145, [141, 144], [104, 107]⟩, ⟨some 146, [145], [108, 104]⟩, ⟨some 147, [16, 146], [109]⟩, ⟨some 148, [147, 146], [110, 109]⟩, ⟨some 149, [148, 146], [111, 109, 109]⟩, ⟨some 150, [6, 149], [112]⟩, ⟨some 151, [150, 149], [113, 112]⟩, ⟨some 152, [151, 149], [114, 112]⟩, ⟨some 153, [149, 152, 146], [112, 115, 109]⟩, ⟨some 154, [146, 153], [109, 116]⟩, ⟨some 155, [154], [117]⟩, ⟨some 156, [6], []⟩, ⟨some 157, [156], [119]⟩, ⟨some 158, [157], [120]⟩, ⟨some 159, [158], [121, 112]⟩, ⟨some 160, [14, 159], [122]⟩, ⟨some 161, [160, 159], [123, 122]⟩, ⟨some 162, [159, 161], [122, 124]⟩, ⟨some 163, [162], [125, 122]⟩, ⟨some 164, [6, 163], [126]⟩, ⟨some 165, [164, 163], [127, 126]⟩, ⟨some 166, [165, 163], [128, 126]⟩, ⟨some 167, [166, 163], [129, 126, 126]⟩, ⟨some 168, [15, 167], [130]⟩, ⟨some 169, [168, 167], [131, 130]⟩, ⟨some 170, [167, 169, 163], [130, 132, 126]⟩, ⟨some 171, [163, 170], [126, 133]⟩, ⟨some 172, [171], [134]⟩, ⟨some 173, [6], []⟩, ⟨some 174, [173], [136]⟩, ⟨some 175, [174], [137]⟩, ⟨some 176, [175], [138, 130]⟩, ⟨some 177, [6, 176], [139]⟩, ⟨some 178, [177, 176], [140, 139]⟩, ⟨some 179, [178, 176], [141, 139]⟩, ⟨some 180, [176, 179], [139, 142]⟩, ⟨some 181, [180], [143, 139]⟩, ⟨some 182, [3, 181], [144]⟩, ⟨some 183, [182, 181], [145, 144]⟩, ⟨some 184, [181, 183], [144, 146]⟩, ⟨some 185, [184], [147]⟩, ⟨some 186, [45, 63, 81, 98, 119, 137, 155, 172, 185], [8, 26, 44, 61, 82, 100, 118, 135, 148]⟩, ⟨some 187, [186], [149, 144]⟩, ⟨some 8, [187], [150, 150, 0, 1, 2, 3, 4, 5, 6, 7, 8, 9, 10, 11, 12, 13, 14, 15, 16, 17, 18, 19, 20, 21, 22, 23, 24, 25, 26, 27, 28, 29, 30, 31, 32, 33, 34, 35, 36, 37, 38, 39, 40, 41, 42, 43, 44, 45, 46, 47, 48, 49, 50, 51, 52, 53, 54, 55, 56, 57, 58, 59, 60, 61, 62, 63, 64, 65, 66, 67, 68, 69, 70, 71, 72, 73, 74, 75, 76, 77, 78, 79, 80, 81, 82, 83, 84, 85, 86, 87, 88, 89, 90, 91, 92, 93, 94, 95, 96, 97, 98, 99, 100, 101, 102, 103, 104, 105, 106, 107, 108, 109, 110, 111, 112, 113, 114, 115, 116, 117, 118, 119, 120, 121, 122, 123, 124, 125, 126, 127, 128, 129, 130, 131, 132, 133, 134, 135, 136, 137, 138, 139, 140, 141, 142, 143, 144, 145, 146, 147, 148, 149, 150]⟩] (by kernel_rfl) (by kernel_rfl) (by kernel_rfl) (by kernel_rfl) (fun _ _ d _ _ h => by cases d <;> exact h) ?_
      iterate 4 (refine wpUP_q rfl (fun K hK => ?_); go_simp; refine hK _ ?_; clear hK K)
      apply wpUP_g2 rfl
      case hb => intro F hF; go_simp; exact hF
      case h1 => intro hb K hK; (try simp only [Bool.not_eq_true'] at hb); go_simp; exact hK
      apply wpUP_g2 rfl
      case hb => intro F hF; go_simp; exact hF
      case h1 => intro hb K hK; (try simp only [Bool.not_eq_true'] at hb); go_simp; exact hK
      apply wpUP_g2 rfl
      case hb => intro F hF; go_simp; exact hF
      case h1 => intro hb K hK; (try simp only [Bool.not_eq_true'] at hb); go_simp; exact hK
      iterate 21 (refine wpUP_q rfl (fun K hK => ?_); go_simp; refine hK _ ?_; clear hK K)
      refine wpUP_one rfl ?_
      intro wb hux
      go_wp2_with fail
      refine ⟨Up.refl _, ?_⟩
      have UWB := Troupe.hid (id hux)
      clear hux fe hne
      have hne := UW.inh wb
      have fe : ∀ (x : UW wb) (i : Nat), x.w.cell? ⟨w.heap.size + 1 + 1, i, none⟩ = (Eff.cells e)[i]? := fun x => (HK2.out.below (UWB.out.trans x.h) HK2.out.lt).cell
      dsimp only [Eff.cells] at fe
      have LX : Hid (∀ x : UW wb, Calls Try.prog 50 #[.string e.name] x.w fun en w' => en = .returned (.bool X3) ∧ Up x.w w') := fun x => (lex_any e.name x.w).mono fun _ _ ⟨h1, h2⟩ => ⟨by rw [h1, HX3.out], h2 ▸ Up.refl _⟩
      iterate 16 (refine wpUP_q rfl (fun K hK => ?_); go_simp; refine hK _ ?_; clear hK K)
      refine wpUP_one rfl ?_
      intro wc hux
      go_wp2_with fail
      refine ⟨Up.refl _, ?_⟩
      have UWC := Troupe.hid (UWB.out.trans hux)
      clear hux fe hne
      have hne := UW.inh wc
      have fe : ∀ (x : UW wc) (i : Nat), x.w.cell? ⟨w.heap.size + 1 + 1, i, none⟩ = (Eff.cells e)[i]? := fun x => (HK2.out.below (UWC.out.trans x.h) HK2.out.lt).cell
      dsimp only [Eff.cells] at fe
      have LX : Hid (∀ x : UW wc, Calls Try.prog 50 #[.string e.name] x.w fun en w' => en = .returned (.bool X3) ∧ Up x.w w') := fun x => (lex_any e.name x.w).mono fun _ _ ⟨h1, h2⟩ => ⟨by rw [h1, HX3.out], h2 ▸ Up.refl _⟩
      iterate 14 (refine wpUP_q rfl (fun K hK => ?_); go_simp; refine hK _ ?_; clear hK K)
      apply wpUP_g2 rfl
      case hb => intro F hF; go_simp; exact hF
      case h1 => intro hb K hK; (try simp only [Bool.not_eq_true'] at hb); go_simp; exact hK
      apply wpUP_g2 rfl
      case hb => intro F hF; go_simp; exact hF
      case h1 => intro hb K hK; (try simp only [Bool.not_eq_true'] at hb); go_simp; exact hK
      apply wpUP_g2 rfl
      case hb => intro F hF; go_simp; exact hF
      case h1 => intro hb K hK; go_simp; exact ⟨_, LX.out, hK⟩
      apply wpUP_g2 rfl
      case hb => intro F hF; go_simp; exact hF
      case h1 => intro hb K hK; (try simp only [Bool.not_eq_true'] at hb); go_simp; exact hK
      iterate 2 (refine wpUP_q rfl (fun K hK => ?_); go_simp; refine hK _ ?_; clear hK K)
      apply wpUP_g2 rfl
      case hb => intro F hF; go_simp; exact hF
      case h1 => intro hb K hK; (try simp only [Bool.not_eq_true'] at hb); go_simp; exact hK
      apply wpUP_g2 rfl
      case hb => intro F hF; go_simp; exact hF
      case h1 => intro hb K hK; (try simp only [Bool.not_eq_true'] at hb); go_simp; exact hK
      apply wpUP_g2 rfl
      case hb => intro F hF; go_simp; exact hF
      case h1 => intro hb K hK; (try simp only [Bool.not_eq_true'] at hb); go_simp; exact hK
      (try go_simp)
      apply wpUP_gFt rfl rfl rfl rfl
      case h1 => intro hb K hK; simp only [Bool.and_eq_true, Bool.not_eq_true'] at hb; go_simp; exact hK
      (try go_simp)
      apply wpUP_gFt rfl rfl rfl rfl
      case h1 => intro hb K hK; simp only [Bool.and_eq_true, Bool.not_eq_true'] at hb; go_simp; exact hK
      (try go_simp)
      apply wpUP_gFt rfl rfl rfl rfl
      case h1 => intro hb K hK; simp only [Bool.and_eq_true, Bool.not_eq_true'] at hb; go_simp; exact hK
      apply wpUP_g2 rfl
      case hb => intro F hF; go_simp; exact hF
      case h1 => intro hb K hK; (try simp only [Bool.not_eq_true'] at hb); go_simp; exact hK
      iterate 3 (refine wpUP_q rfl (fun K hK => ?_); go_simp; refine hK _ ?_; clear hK K)
      apply wpUP_g2 rfl
      case hb => intro F hF; go_simp; exact hF
      case h1 => intro hb K hK; (try simp only [Bool.not_eq_true'] at hb); go_simp; exact hK
      apply wpUP_g2 rfl
      case hb => intro F hF; go_simp; exact hF
      case h1 => intro hb K hK; (try simp only [Bool.not_eq_true'] at hb); go_simp; exact hK
      apply wpUP_g2 rfl
      case hb => intro F hF; go_simp; exact hF
      case h1 => intro hb K hK; (try simp only [Bool.not_eq_true'] at hb); go_simp; exact hK
      apply wpUP_g2 rfl
      case hb => intro F hF; go_simp; exact hF
      case h1 => intro hb K hK; (try simp only [Bool.not_eq_true'] at hb); go_simp; exact hK
      (try go_simp)
      apply wpUP_gTf rfl rfl rfl rfl
      case h1 => intro hb K hK; simp only [Bool.and_eq_true, Bool.not_eq_true'] at hb; go_simp; exact hK
      (try go_simp)
      apply wpUP_gTf rfl rfl rfl rfl
      case h1 => intro hb K hK; simp only [Bool.and_eq_true, Bool.not_eq_true'] at hb; go_simp; exact hK
      (try go_simp)
      apply wpUP_gTf rfl rfl rfl rfl
      case h1 => intro hb K hK; simp only [Bool.and_eq_true, Bool.not_eq_true'] at hb; go_simp; exact hK
      apply wpUP_g2 rfl
      case hb => intro F hF; go_simp; exact hF
      case h1 => intro hb K hK; (try simp only [Bool.not_eq_true'] at hb); go_simp; exact hK
      iterate 2 (refine wpUP_q rfl (fun K hK => ?_); go_simp; refine hK _ ?_; clear hK K)
      apply wpUP_g2 rfl
      case hb => intro F hF; go_simp; exact hF
      case h1 => intro hb K hK; (try simp only [Bool.not_eq_true'] at hb); go_simp; exact hK
      apply wpUP_g2 rfl
      case hb => intro F hF; go_simp; exact hF
      case h1 => intro hb K hK; (try simp only [Bool.not_eq_true'] at hb); go_simp; exact hK
      apply wpUP_g2 rfl
      case hb => intro F hF; go_simp; exact hF
      case h1 => intro hb K hK; (try simp only [Bool.not_eq_true'] at hb); go_simp; exact hK
      (try go_simp)
      apply wpUP_gFt rfl rfl rfl rfl
      case h1 => intro hb K hK; simp only [Bool.and_eq_true, Bool.not_eq_true'] at hb; go_simp; exact hK
      (try go_simp)
      apply wpUP_gFt rfl rfl rfl rfl
      case h1 => intro hb K hK; simp only [Bool.and_eq_true, Bool.not_eq_true'] at hb; go_simp; exact hK
      (try go_simp)
      apply wpUP_gFt rfl rfl rfl rfl
      case h1 => intro hb K hK; simp only [Bool.and_eq_true, Bool.not_eq_true'] at hb; go_simp; exact hK
      apply wpUP_g2 rfl
      case hb => intro F hF; go_simp; exact hF
      case h1 => intro hb K hK; (try simp only [Bool.not_eq_true'] at hb); go_simp; exact hK
      iterate 3 (refine wpUP_q rfl (fun K hK => ?_); go_simp; refine hK _ ?_; clear hK K)
      apply wpUP_g2 rfl
      case hb => intro F hF; go_simp; exact hF
      case h1 => intro hb K hK; (try simp only [Bool.not_eq_true'] at hb); go_simp; exact hK
      apply wpUP_g2 rfl
      case hb => intro F hF; go_simp; exact hF
      case h1 => intro hb K hK; (try simp only [Bool.not_eq_true'] at hb); go_simp; exact hK
      apply wpUP_g2 rfl
      case hb => intro F hF; go_simp; exact hF
      case h1 => intro hb K hK; (try simp only [Bool.not_eq_true'] at hb); go_simp; exact hK
      iterate 2 (refine wpUP_q rfl (fun K hK => ?_); go_simp; refine hK _ ?_; clear hK K)
      apply wpUP_g2 rfl
      case hb => intro F hF; go_simp; exact hF
      case h1 => intro hb K hK; (try simp only [Bool.not_eq_true'] at hb); go_simp; exact hK
      apply wpUP_g2 rfl
      case hb => intro F hF; go_simp; exact hF
      case h1 => intro hb K hK; (try simp only [Bool.not_eq_true'] at hb); go_simp; exact hK
      apply wpUP_g2 rfl
      case hb => intro F hF; go_simp; exact hF
      case h1 => intro hb K hK; (try simp only [Bool.not_eq_true'] at hb); go_simp; exact hK
      (try go_simp)
      apply wpUP_gFt rfl rfl rfl rfl
      case h1 => intro hb K hK; simp only [Bool.and_eq_true, Bool.not_eq_true'] at hb; go_simp; exact hK
      (try go_simp)
      apply wpUP_gFt rfl rfl rfl rfl
      case h1 => intro hb K hK; simp only [Bool.and_eq_true, Bool.not_eq_true'] at hb; go_simp; exact hK
      (try go_simp)
      apply wpUP_gFt rfl rfl rfl rfl
      case h1 => intro hb K hK; simp only [Bool.and_eq_true, Bool.not_eq_true'] at hb; go_simp; exact hK
      apply wpUP_g2 rfl
      case hb => intro F hF; go_simp; exact hF
      case h1 => intro hb K hK; (try simp only [Bool.not_eq_true'] at hb); go_simp; exact hK
      iterate 3 (refine wpUP_q rfl (fun K hK => ?_); go_simp; refine hK _ ?_; clear hK K)
      apply wpUP_g2 rfl
      case hb => intro F hF; go_simp; exact hF
      case h1 => intro hb K hK; (try simp only [Bool.not_eq_true'] at hb); go_simp; exact hK
      apply wpUP_g2 rfl
      case hb => intro F hF; go_simp; exact hF
      case h1 => intro hb K hK; (try simp only [Bool.not_eq_true'] at hb); go_simp; exact hK
      apply wpUP_g2 rfl
      case hb => intro F hF; go_simp; exact hF
      case h1 => intro hb K hK; (try simp only [Bool.not_eq_true'] at hb); go_simp; exact hK
      iterate 2 (refine wpUP_q rfl (fun K hK => ?_); go_simp; refine hK _ ?_; clear hK K)
      apply wpUP_g2 rfl
      case hb => intro F hF; go_simp; exact hF
      case h1 => intro hb K hK; (try simp only [Bool.not_eq_true'] at hb); go_simp; exact hK
      apply wpUP_g2 rfl
      case hb => intro F hF; go_simp; exact hF
      case h1 => intro hb K hK; (try simp only [Bool.not_eq_true'] at hb); go_simp; exact hK
      apply wpUP_g2 rfl
      case hb => intro F hF; go_simp; exact hF
      case h1 => intro hb K hK; (try simp only [Bool.not_eq_true'] at hb); go_simp; exact hK
      (try go_simp)
      apply wpUP_gFt rfl rfl rfl rfl
      case h1 => intro hb K hK; simp only [Bool.and_eq_true, Bool.not_eq_true'] at hb; go_simp; exact hK
      (try go_simp)
      apply wpUP_gFt rfl rfl rfl rfl
      case h1 => intro hb K hK; simp only [Bool.and_eq_true, Bool.not_eq_true'] at hb; go_simp; exact hK
      (try go_simp)
      apply wpUP_gFt rfl rfl rfl rfl
      case h1 => intro hb K hK; simp only [Bool.and_eq_true, Bool.not_eq_true'] at hb; go_simp; exact hK
      apply wpUP_g2 rfl
      case hb => intro F hF; go_simp; exact hF
      case h1 => intro hb K hK; (try simp only [Bool.not_eq_true'] at hb); go_simp; exact hK
      iterate 3 (refine wpUP_q rfl (fun K hK => ?_); go_simp; refine hK _ ?_; clear hK K)
      apply wpUP_g2 rfl
      case hb => intro F hF; go_simp; exact hF
      case h1 => intro hb K hK; (try simp only [Bool.not_eq_true'] at hb); go_simp; exact hK
      apply wpUP_g2 rfl
      case hb => intro F hF; go_simp; exact hF
      case h1 => intro hb K hK; (try simp only [Bool.not_eq_true'] at hb); go_simp; exact hK
      iterate 2 (refine wpUP_q rfl (fun K hK => ?_); go_simp; refine hK _ ?_; clear hK K)
      apply wpUP_g2 rfl
      case hb => intro F hF; go_simp; exact hF
      case h1 => intro hb K hK; (try simp only [Bool.not_eq_true'] at hb); go_simp; exact hK
      apply wpUP_g2 rfl
      case hb => intro F hF; go_simp; exact hF
      case h1 => intro hb K hK; (try simp only [Bool.not_eq_true'] at hb); go_simp; exact hK
      apply wpUP_g2 rfl
      case hb => intro F hF; go_simp; exact hF
      case h1 => intro hb K hK; (try simp only [Bool.not_eq_true'] at hb); go_simp; exact hK
      apply wpUP_g2 rfl
      case hb => intro F hF; go_simp; exact hF
      case h1 => intro hb K hK; (try simp only [Bool.not_eq_true'] at hb); go_simp; exact hK
      (try go_simp)
      apply wpUP_gFt rfl rfl rfl rfl
      case h1 => intro hb K hK; simp only [Bool.and_eq_true, Bool.not_eq_true'] at hb; go_simp; exact hK
      (try go_simp)
      apply wpUP_gFt rfl rfl rfl rfl
      case h1 => intro hb K hK; simp only [Bool.and_eq_true, Bool.not_eq_true'] at hb; go_simp; exact hK
      apply wpUP_g2 rfl
      case hb => intro F hF; go_simp; exact hF
      case h1 => intro hb K hK; (try simp only [Bool.not_eq_true'] at hb); go_simp; exact hK
      iterate 3 (refine wpUP_q rfl (fun K hK => ?_); go_simp; refine hK _ ?_; clear hK K)
      apply wpUP_g2 rfl
      case hb => intro F hF; go_simp; exact hF
      case h1 => intro hb K hK; (try simp only [Bool.not_eq_true'] at hb); go_simp; exact hK
      apply wpUP_g2 rfl
      case hb => intro F hF; go_simp; exact hF
      case h1 => intro hb K hK; (try simp only [Bool.not_eq_true'] at hb); go_simp; exact hK
      apply wpUP_g2 rfl
      case hb => intro F hF; go_simp; exact hF
      case h1 => intro hb K hK; (try simp only [Bool.not_eq_true'] at hb); go_simp; exact hK
      iterate 2 (refine wpUP_q rfl (fun K hK => ?_); go_simp; refine hK _ ?_; clear hK K)
      apply wpUP_g2 rfl
      case hb => intro F hF; go_simp; exact hF
      case h1 => intro hb K hK; (try simp only [Bool.not_eq_true'] at hb); go_simp; exact hK
      apply wpUP_g2 rfl
      case hb => intro F hF; go_simp; exact hF
      case h1 => intro hb K hK; (try simp only [Bool.not_eq_true'] at hb); go_simp; exact hK
      iterate 2 (refine wpUP_q rfl (fun K hK => ?_); go_simp; refine hK _ ?_; clear hK K)
      clear fe hne
      clear hx1 hx2 hc1 hy2 hy4 hc6 hy6 hc7 hx3 hx4 hc8 hc9 hy9 hc10 hx5 hx6 hc11 hy11 hc12 hx7 hx8 hc13 hhs hy13 hc14 hz1 hc15 hz2 hc16 hz3 hz4 hc17 hc18
      refine wpUP_one rfl ?_
      intro wx hux
      go_wp2_with fail
      refine ⟨(Below.refl _ _).alloc (Nat.le_refl _) _, ?_⟩
      have hblk := Blk.new wx 71 [.bool c1, .int .i64 43, .bool y2, .int .i64 43, .bool y4, .int .i64 43, .bool c7, .int .i64 43, .bool c10, .int .i64 43, .bool c12, .int .i64 43, .bool c14, .int .i64 43, .bool c16, .int .i64 42, .bool c18, .int .i64 44]
      have UV := Troupe.hid (Up.trans (UWC.out.trans hux) ((Below.refl _ _).alloc (Nat.le_refl _) _ : Up wx (wx.alloc (.cells #[.bool c1, .int .i64 43, .bool y2, .int .i64 43, .bool y4, .int .i64 43, .bool c7, .int .i64 43, .bool c10, .int .i64 43, .bool c12, .int .i64 43, .bool c14, .int .i64 43, .bool c16, .int .i64 42, .bool c18, .int .i64 44] 71))))
      have HBV := Troupe.hid hblk
      clear hblk hux
      generalize wx.alloc (.cells #[.bool c1, .int .i64 43, .bool y2, .int .i64 43, .bool y4, .int .i64 43, .bool c7, .int .i64 43, .bool c10, .int .i64 43, .bool c12, .int .i64 43, .bool c14, .int .i64 43, .bool c16, .int .i64 42, .bool c18, .int .i64 44] 71) = wv at *
      generalize wx.heap.size = gv at *
      refine wpUP_one rfl ?_
      intro wd hud
      have FR := Troupe.hid (first_any (some ⟨gv, 0, none⟩) 9 9 wd.heap.size [⟨c1, 43⟩, ⟨y2, 43⟩, ⟨y4, 43⟩, ⟨c7, 43⟩, ⟨c10, 43⟩, ⟨c12, 43⟩, ⟨c14, 43⟩, ⟨c16, 42⟩, ⟨c18, 44⟩] wd rfl (by unfold maxLen; omega) ((HBV.out.below hud HBV.out.lt).blk_cells.mono (HBV.out.below hud HBV.out.lt).lt) (Nat.le_refl _))
      have UD := Troupe.hid (UV.out.trans hud)
      clear hud
      go_wp2_with fail
      refine FR.out.mono ?_
      rintro en we ⟨rfl, hue⟩
      have UE := Troupe.hid (UD.out.trans hue)
      go_wp2_with fail
      refine ⟨hue, ?_⟩
      have hne := UW.inh we
      clear hue
      refine wpUP_q rfl (fun K hK => ?_); go_simp; refine hK _ ?_; clear hK K
      refine wpUP_done ?_
      intro w6 huf
      have UF := Troupe.hid (UE.out.trans huf)
      clear huf hne
      go_wp2_with fail
      go_ret
      exact ⟨by rw [FIN.out]; rfl, B3.out.trans (UF.out.mono B3.out.size)⟩

end Go.Proofs.Ytkjjhndccelbcaa
