/- check's row, by contract. -/
import Derived.Test.YtkjjhndccelbcaaEffect
namespace Go.Proofs.Ytkjjhndccelbcaa
open Go.RowKit Go.Maps Go.Troupe
attribute [local go_sem] reads readAt readUpon Cls quietU pick_and' pick_or' pick_or'' pick_and2 pick_and3 pick_and4 pick_and4' pick_or2 pick_andn pick_andn'
def stashV (x : Eff) : Bool := x.d == 4
def twinR (r x : Rw) : Bool := x.tag.toList == r.tag.toList && (x.only == r.only) && (x.n == r.n)
def effB (ks : List Kf) (sts : List St) (l : List Eff) (i : Nat) : Bool := match l[i]? with
  | some e => effV ks sts e (i + 1 == l.length) != 0
  | none => false
def rowOwn (rows : List Rw) (i : Nat) (r : Rw) : Int := firstV [
  ⟨(((!namedV r.tag || (r.only && r.tag.toList.isEmpty)) || decide (r.n < 0)) || decide (255 < r.n)) || (!r.only && r.n != 0), 43⟩,
  ⟨(rows.take i).any (twinR r), 41⟩, ⟨decide ((8 : Int) < (r.effs.length : Int)), 40⟩, ⟨r.effs.any stashV && decide ((1 : Int) < (r.effs.length : Int)), 45⟩]
def rowB (ks : List Kf) (sts : List St) (rows : List Rw) (i : Nat) : Bool := match rows[i]? with
  | some r => withinV (rowOwn rows i r) r.effs.length (effB ks sts r.effs)
  | none => false
theorem ent87 : ∀ (args : Array Value) (w' : World), (callFunc 87 args).run Try.prog w' = .ok (.enter 87 args) w' := fun args w' => by kernel_rfl
theorem ent89 : ∀ (args : Array Value) (w' : World), (callFunc 89 args).run Try.prog w' = .ok (.enter 89 args) w' := fun args w' => by kernel_rfl
theorem ent90 : ∀ (args : Array Value) (w' : World), (callFunc 90 args).run Try.prog w' = .ok (.enter 90 args) w' := fun args w' => by kernel_rfl
theorem close87_any (x : Eff) (w : World) : Calls Try.prog 87 #[.agg #[.int .i64 x.d, .string x.ref, .string x.slot, .string x.name, .int .i64 x.v, .int .i64 x.n, .int .i64 x.delay]] w fun e w' => e = .returned (.bool (stashV x)) ∧ Below w.heap.size w w' := by
  unfold stashV
  go_enter Try.func87, Try.ntmps87
  go_wp2
  go_ret
  exact ⟨rfl, (Below.refl _ _).alloc (Nat.le_refl _) _⟩
set_option maxHeartbeats 1000000 in
theorem close89_any (x r : Rw) (g : Nat) (w : World) (h : Blk w g 60 [.string r.tag, .bool r.only, .int .i64 r.n, .slice r.A r.effs.length r.cap]) :
    Calls Try.prog 89 #[.agg #[.string x.tag, .bool x.only, .int .i64 x.n, .slice x.A x.effs.length x.cap], .pointer (some ⟨g, 0, none⟩)] w fun e w' => e = .returned (.bool (twinR r x)) ∧ Below w.heap.size w w' := by
  unfold twinR
  have F0 : Below w.heap.size w (w.alloc (.cells #[.string x.tag, .bool x.only, .int .i64 x.n, .slice x.A x.effs.length x.cap] 60)) := (Below.refl _ _).alloc (Nat.le_refl _) _
  have h' := (h.below F0 h.lt).cell
  have HF := Troupe.hid F0
  obtain ⟨b1, hb1⟩ : ∃ b, (x.tag.toList == r.tag.toList) = b := ⟨_, rfl⟩
  obtain ⟨b2, hb2⟩ : ∃ b, (x.only == r.only) = b := ⟨_, rfl⟩
  obtain ⟨b3, hb3⟩ : ∃ b, (x.n == r.n) = b := ⟨_, rfl⟩
  rw [hb1, hb2, hb3]
  clear h F0
  cases b1 with
  | false =>
    go_enter Try.func89, Try.ntmps89
    go_wp2_with fail
    go_ret
    exact ⟨rfl, HF.out⟩
  | true =>
    cases b2 with
    | false =>
      go_enter Try.func89, Try.ntmps89
      go_wp2_with fail
      go_ret
      exact ⟨rfl, HF.out⟩
    | true =>
      go_enter Try.func89, Try.ntmps89
      go_wp2_with fail
      go_ret
      exact ⟨by simp, HF.out⟩
set_option maxRecDepth 100000 in
set_option maxHeartbeats 4000000 in
theorem close90_any (Ak : Option Addr) (ck : Nat) (ks : List Kf) (k : Kf) (r : Rw) (gp gk gr i : Nat) (w : World) (hp : Blk w gp 24 [.slice Ak ks.length ck]) (hkb : Blk w gk 67 [.string k.name, .int .i64 k.limit, .int .i64 k.within, .slice k.Ac k.cases.length k.cc, .slice k.A k.sts.length k.cap]) (hr : Blk w gr 60 [.string r.tag, .bool r.only, .int .i64 r.n, .slice r.A r.effs.length r.cap])
    (hc : Cells w w.heap.size Ak (flatK ks)) (hkl : ks.length ≤ 140737488355328) (hk : KfIn w w.heap.size k) (he : Cells w w.heap.size r.A (flatE r.effs)) (hel : r.effs.length ≤ 140737488355328) (hi : i < r.effs.length) :
    Calls Try.prog 90 #[.int .i64 i, .pointer (some ⟨gp, 0, none⟩), .pointer (some ⟨gk, 0, none⟩), .pointer (some ⟨gr, 0, none⟩)] w (Badly (effB ks k.sts r.effs i) 0 w) := by
  obtain ⟨x, hx⟩ : ∃ x, r.effs[i]? = some x := ⟨_, List.getElem?_eq_getElem hi⟩
  obtain ⟨b, off, hA, hb0, h1⟩ := cells_at (sz := 7) (fun _ => rfl) (by decide) he hx
  obtain ⟨lb, hlb⟩ : ∃ lb, (i + 1 == r.effs.length) = lb := ⟨_, rfl⟩
  have EB : Hid (effB ks k.sts r.effs i = (effV ks k.sts x lb != 0)) := by unfold Hid effB; rw [hx]; dsimp only; rw [hlb]
  have hlb2 : ((i : Int) == (r.effs.length : Int) - 1) = lb := by
    rw [← hlb]
    by_cases h : i + 1 = r.effs.length
    · rw [beq_iff_eq.2 h]; rw [beq_iff_eq]; omega
    · rw [beq_eq_false_iff_ne.2 h, beq_eq_false_iff_ne]; omega
  obtain ⟨n, hn⟩ : ∃ n, r.effs.length = n := ⟨_, rfl⟩
  rw [hn] at hlb2
  have hin : i < n := by omega
  have hn2 : n ≤ 140737488355328 := by omega
  have hwr : IntKind.i64.wrap ((n : Int) - 1) = (n : Int) - 1 := IntWalk.i64_in _ (by omega)
  have HN := Troupe.hid hn
  have HX := Troupe.hid h1
  have HR := Troupe.hid hr
  have HP := Troupe.hid hp
  have HKB := Troupe.hid hkb
  have HC := Troupe.hid hc
  have HK := Troupe.hid hk
  have HA := Troupe.hid hA
  have HKL := Troupe.hid hkl
  clear hp hkb hr hc hk he hel hi hx hn h1 hlb hkl hA
  go_enter Try.func90, Try.ntmps90
  go_upto_region 1 with (fail)
  have hne := UW.inh w
  have fp : ∀ (y : UW w) (q : Nat), y.w.cell? ⟨gp, q, none⟩ = ([.slice Ak ks.length ck] : List Value)[q]? := fun y => (HP.out.below y.h HP.out.lt).cell
  have fk : ∀ (y : UW w) (q : Nat), y.w.cell? ⟨gk, q, none⟩ = ([.string k.name, .int .i64 k.limit, .int .i64 k.within, .slice k.Ac k.cases.length k.cc, .slice k.A k.sts.length k.cap] : List Value)[q]? := fun y => (HKB.out.below y.h HKB.out.lt).cell
  have fr : ∀ (y : UW w), y.w.cell? ⟨gr, 3, none⟩ = some (.slice (some ⟨b, off, none⟩) n r.cap) := fun y => by rw [← HA.out, ← HN.out]; exact (HR.out.below y.h HR.out.lt).cell 3
  have FX : ∀ (y : UW w) (q : Nat) (v : Value), q < 7 → (Eff.cells x)[q]? = some v → y.w.cell? ⟨b, off + i * 7 + q, none⟩ = some v := fun y q v hq hv => ((y.h : Below w.heap.size w y.w).cell (p := ⟨b, off + i * 7 + q, none⟩) hb0).trans (HX.out q hq v hv)
  have f0 : ∀ y : UW w, y.w.cell? ⟨b, off + i * 7, none⟩ = some (.int .i64 x.d) := fun y => FX y 0 _ (by decide) rfl
  have f1 : ∀ y : UW w, y.w.cell? ⟨b, off + i * 7 + 1, none⟩ = some (.string x.ref) := fun y => FX y 1 _ (by decide) rfl
  have f2 : ∀ y : UW w, y.w.cell? ⟨b, off + i * 7 + 2, none⟩ = some (.string x.slot) := fun y => FX y 2 _ (by decide) rfl
  have f3 : ∀ y : UW w, y.w.cell? ⟨b, off + i * 7 + 3, none⟩ = some (.string x.name) := fun y => FX y 3 _ (by decide) rfl
  have f4 : ∀ y : UW w, y.w.cell? ⟨b, off + i * 7 + 4, none⟩ = some (.int .i64 x.v) := fun y => FX y 4 _ (by decide) rfl
  have f5 : ∀ y : UW w, y.w.cell? ⟨b, off + i * 7 + 5, none⟩ = some (.int .i64 x.n) := fun y => FX y 5 _ (by decide) rfl
  have f6 : ∀ y : UW w, y.w.cell? ⟨b, off + i * 7 + 6, none⟩ = some (.int .i64 x.delay) := fun y => FX y 6 _ (by decide) rfl
  clear FX
  refine region_upF (.q 0 (.q 1 (.q 2 (.q 3 (.q 4 (.q 5 (.q 6 (.q 7 (.q 8 (.q 9 (.q 10 (.q 11 (.q 12 (.one 13 (.q 14 .done))))))))))))))) [⟨some 7, [1], []⟩, ⟨some 8, [2], []⟩, ⟨some 9, [3], []⟩, ⟨some 10, [9], [2]⟩, ⟨some 11, [0], []⟩, ⟨some 12, [10, 11], [3, 4]⟩, ⟨some 13, [12], [5]⟩, ⟨some 14, [0], []⟩, ⟨some 15, [3], []⟩, ⟨some 16, [15], [8]⟩, ⟨some 17, [16], [9]⟩, ⟨some 18, [17], [10]⟩, ⟨some 19, [14, 18], [7, 11]⟩, ⟨some 20, [7, 8, 13, 19], [0, 1, 6, 12]⟩, ⟨some 6, [20], [13, 13, 0, 1, 2, 3, 4, 5, 6, 7, 8, 9, 10, 11, 12, 13]⟩] (by kernel_rfl) (by kernel_rfl) (by kernel_rfl) (by kernel_rfl) (fun _ _ d _ _ h => by cases d <;> exact h) ?_
  iterate 13 (refine wpUP_q rfl (fun K hK => ?_); go_simp; refine hK _ ?_; clear hK K)
  refine wpUP_one rfl ?_
  intro w1 hu1
  have EF := Troupe.hid (effect_any Ak ck ks k x lb w1 ((HC.out.below hu1).mono hu1.size) HKL.out ((HK.out.below hu1).mono hu1.size))
  have U1 := Troupe.hid hu1
  clear hu1
  go_wp2_with fail
  refine EF.out.mono ?_
  rintro en w2 ⟨rfl, hu2⟩
  have U2 := Troupe.hid (U1.out.trans hu2)
  go_wp2_with fail
  refine ⟨hu2, ?_⟩
  have hne2 := UW.inh w2
  clear hu2
  refine wpUP_q rfl (fun K hK => ?_); go_simp; refine hK _ ?_; clear hK K
  refine wpUP_done ?_
  intro w3 hu3
  have U3 := Troupe.hid (U2.out.trans hu3)
  clear hu3 hne2 hne fp fk fr f0 f1 f2 f3 f4 f5 f6 hlb2 hwr
  obtain ⟨c, hcc⟩ : ∃ c, effV ks k.sts x lb = c := ⟨_, rfl⟩
  rw [hcc] at EB ⊢
  rw [EB.out]
  clear hcc
  obtain ⟨z, hz⟩ : ∃ z, (c != 0) = z := ⟨_, rfl⟩
  have HC0 := Troupe.hid hz
  cases z with
  | false =>
    go_wp2_with fail
    go_ret
    exact ⟨_, rfl, .inl ⟨by rw [EB.out]; exact HC0.out, rfl⟩, U3.out⟩
  | true =>
    have HBN := Troupe.hid (Blk.new w3 99 [.int .i64 c, .slice none 0 0])
    have hown : Hid ((w3.alloc (.cells #[.int .i64 c, .slice none 0 0] 99)).ownsRow w.heap.size 3 1 (.slice none 0 0) 0 (flatG [])) := World.ownsRow_nil _ _ _ _
    have FX : Hid (Below w.heap.size w (w3.alloc (.cells #[.int .i64 c, .slice none 0 0] 99))) := Below.alloc U3.out U3.out.size _
    go_wp2_with fail
    go_ret
    exact ⟨_, rfl, .inr ⟨by rw [EB.out]; exact HC0.out, w3.heap.size, c, none, 0, 0, [], rfl, U3.out.size, HBN.out, hown.out, rfl, Nat.zero_le _⟩, FX.out⟩
theorem flatR_take (l : List Rw) (i : Nat) : (flatR l).take (i * 4) = flatR (l.take i) := by
  induction l generalizing i with
  | nil => simp [flatR]
  | cons x l ih =>
    cases i with
    | zero => simp [flatR]
    | succ i =>
      have h := ih i
      unfold flatR at h ⊢
      rw [List.take_succ_cons, List.flatMap_cons, List.flatMap_cons, ← h, show (i + 1) * 4 = i * 4 + 1 + 1 + 1 + 1 by omega]
      simp [Rw.cells]
set_option pp.deepTerms true in
set_option pp.maxSteps 1000000 in
set_option maxRecDepth 100000 in
set_option maxHeartbeats 8000000 in
theorem checkRow_any (Ak : Option Addr) (ck : Nat) (ks : List Kf) (k : Kf) (s : St) (i : Nat) (w : World) (hc : Cells w w.heap.size Ak (flatK ks)) (hkl : ks.length ≤ 140737488355328) (hk : KfIn w w.heap.size k) (hs : StF w w.heap.size s) (hsc : s.rows.length ≤ s.cap) (hi : i < s.rows.length) :
    Calls Try.prog 72 #[.agg #[.slice Ak ks.length ck], .agg #[.string k.name, .int .i64 k.limit, .int .i64 k.within, .slice k.Ac k.cases.length k.cc, .slice k.A k.sts.length k.cap], .agg #[.string s.name, .slice s.A s.rows.length s.cap], .int .i64 i] w (Badly (rowB ks k.sts s.rows i) 1 w) := by
  obtain ⟨r, hr⟩ : ∃ r, s.rows[i]? = some r := ⟨_, List.getElem?_eq_getElem hi⟩
  obtain ⟨wa, hwa⟩ : ∃ wa, wa = ((w.alloc (.cells #[.slice Ak ks.length ck] 24)).alloc (.cells #[.string k.name, .int .i64 k.limit, .int .i64 k.within, .slice k.Ac k.cases.length k.cc, .slice k.A k.sts.length k.cap] 67)).alloc (.cells #[.string s.name, .slice s.A s.rows.length s.cap] 63) := ⟨_, rfl⟩
  have a0 : Below w.heap.size w wa := by rw [hwa]; exact (((Below.refl _ w).alloc (Nat.le_refl _) _).alloc (by simp) _).alloc (by simp; omega) _
  have k0 : Blk wa w.heap.size 24 [.slice Ak ks.length ck] := by rw [hwa]; exact ((Blk.new w 24 [.slice Ak ks.length ck]).alloc _).alloc _
  have k1 : Blk wa (w.heap.size + 1) 67 [.string k.name, .int .i64 k.limit, .int .i64 k.within, .slice k.Ac k.cases.length k.cc, .slice k.A k.sts.length k.cap] := by rw [hwa]; simpa using (Blk.new (w.alloc (.cells #[.slice Ak ks.length ck] 24)) 67 [.string k.name, .int .i64 k.limit, .int .i64 k.within, .slice k.Ac k.cases.length k.cc, .slice k.A k.sts.length k.cap]).alloc (.cells #[.string s.name, .slice s.A s.rows.length s.cap] 63)
  have k2 : Blk wa (w.heap.size + 1 + 1) 63 [.string s.name, .slice s.A s.rows.length s.cap] := by rw [hwa]; simpa using Blk.new ((w.alloc (.cells #[.slice Ak ks.length ck] 24)).alloc (.cells #[.string k.name, .int .i64 k.limit, .int .i64 k.within, .slice k.Ac k.cases.length k.cc, .slice k.A k.sts.length k.cap] 67)) 63 [.string s.name, .slice s.A s.rows.length s.cap]
  have hsz : wa.heap.size = w.heap.size + 1 + 1 + 1 := by rw [hwa]; simp
  obtain ⟨hrc, hrA, hrin, hrl⟩ := hs
  obtain ⟨b, off, hA, hb0, h1⟩ := cells_at (sz := 4) (fun _ => rfl) (by decide) hrc hr
  have hree := hrin r (List.mem_of_getElem? hr)
  have HEF := Troupe.hid hree.1
  have hel : r.effs.length ≤ 1759218604441 := by have := hree.2.2; omega
  have ROW : Hid (rowB ks k.sts s.rows i = withinV (rowOwn s.rows i r) r.effs.length (effB ks k.sts r.effs)) := by unfold Hid rowB; rw [hr]
  have BW : Hid (∀ q v, q < 4 → (Rw.cells r)[q]? = some v → wa.cell? ⟨b, off + i * 4 + q, none⟩ = some v) := fun q v hq hv =>
    (a0.cell (p := ⟨b, off + i * 4 + q, none⟩) hb0).trans (h1 q hq v hv)
  obtain ⟨sA, hsA⟩ : ∃ sA, s.A = sA := ⟨_, rfl⟩
  rw [hsA] at hA
  subst hA
  obtain ⟨sn, hsn⟩ : ∃ n, s.rows.length = n := ⟨_, rfl⟩
  have HSN := Troupe.hid hsn
  have hin : i < sn := by omega
  have hsn2 : sn ≤ 140737488355328 := by omega
  have hsc2 : i ≤ s.cap := by omega
  have HSA := Troupe.hid hsA
  have HRC := Troupe.hid hrc
  have A0 := Troupe.hid a0
  have K0 := Troupe.hid k0
  have K1 := Troupe.hid k1
  have K2 := Troupe.hid k2
  have HWA := Troupe.hid hwa
  have HSZ := Troupe.hid hsz
  have HC := Troupe.hid hc
  have HK := Troupe.hid hk
  have HKL := Troupe.hid hkl
  clear hwa a0 k0 k1 k2 hc hk hkl hrc hrin h1 hree hr hsc hsA hsn hsz
  go_enter Try.func72, Try.ntmps72
  go_upto_region 1 with (fail)
  rw [← HWA.out]
  have s1 : wa.cell? ⟨w.heap.size + 1 + 1, 1, none⟩ = some (.slice (some ⟨b, off, none⟩) sn s.cap) := by rw [← HSA.out, ← HSN.out]; exact K2.out.cell 1
  have r0 : wa.cell? ⟨b, off + i * 4, none⟩ = _ := BW.out 0 _ (by decide) rfl
  have r1 := BW.out 1 _ (by decide) rfl
  have r2 := BW.out 2 _ (by decide) rfl
  have r3 := BW.out 3 _ (by decide) rfl
  go_upto_region 2 with (fail)
  clear s1 r0 r1 r2 r3
  have FA : Below wa.heap.size wa (wa.alloc (.cells #[.string r.tag, .bool r.only, .int .i64 r.n, .slice r.A r.effs.length r.cap] 60)) := (Below.refl _ _).alloc (Nat.le_refl _) _
  have B0 := Troupe.hid (A0.out.trans (FA.mono A0.out.size))
  have HB0 := Troupe.hid (K0.out.below FA K0.out.lt)
  have HB1 := Troupe.hid (K1.out.below FA K1.out.lt)
  have HB2 := Troupe.hid (K2.out.below FA K2.out.lt)
  have HB3 := Troupe.hid (Blk.new wa 60 [.string r.tag, .bool r.only, .int .i64 r.n, .slice r.A r.effs.length r.cap])
  clear FA K0 K1 K2
  generalize wa.alloc (.cells #[.string r.tag, .bool r.only, .int .i64 r.n, .slice r.A r.effs.length r.cap] 60) = wb0 at *
  obtain ⟨g3, hg3⟩ : ∃ g3, wa.heap.size = g3 := ⟨_, rfl⟩
  rw [hg3] at HB3 ⊢
  clear hg3
  have k3 := HB3.out.cell
  obtain ⟨sh, hsh⟩ : ∃ b, r.effs.any stashV = b := ⟨_, rfl⟩
  have HSH := Troupe.hid hsh
  have HE : Hid (Calls Try.prog 86 #[.slice r.A r.effs.length r.cap, .func (.func 87) #[] #[]] wb0 fun en w' => en = .returned (.bool sh) ∧ Below wb0.heap.size wb0 w') := by
    rw [← hsh]
    exact hasE_gen 87 [] stashV r.A r.effs.length r.cap w.heap.size r.effs wb0 rfl (by unfold maxLen; omega) (HEF.out.below B0.out) B0.out.size ent87 (fun x _ w' _ => close87_any x w')
  clear hsh
  go_wp2_with fail
  refine HE.out.mono ?_
  rintro en w1 ⟨rfl, hu1⟩
  have U1 := Troupe.hid hu1
  have B1 := Troupe.hid (B0.out.trans (hu1.mono B0.out.size))
  clear hu1 k3
  go_upto_region 3 with (fail)
  have hne := UW.inh w1
  have fr : ∀ (y : UW w1) (q : Nat), y.w.cell? ⟨g3, q, none⟩ = ([.string r.tag, .bool r.only, .int .i64 r.n, .slice r.A r.effs.length r.cap] : List Value)[q]? := fun y => (HB3.out.below (Up.trans U1.out y.h) HB3.out.lt).cell
  have fs : ∀ (y : UW w1), y.w.cell? ⟨w.heap.size + 1 + 1, 1, none⟩ = some (.slice (some ⟨b, off, none⟩) sn s.cap) := fun y => by rw [← HSA.out, ← HSN.out]; exact (HB2.out.below (Up.trans U1.out y.h) HB2.out.lt).cell 1
  obtain ⟨tw, htw⟩ : ∃ b, (s.rows.take i).any (twinR r) = b := ⟨_, rfl⟩
  have HTW := Troupe.hid htw
  have NM : Hid (∀ y : UW w1, Calls Try.prog 48 #[.string r.tag] y.w fun en w' => en = .returned (.bool (namedV r.tag)) ∧ Up y.w w') := fun y => (named_any r.tag y.w).mono fun _ _ ⟨h1, h2⟩ => ⟨h1, h2 ▸ Up.refl _⟩
  have HRR : Hid (∀ y : UW w1, Calls Try.prog 88 #[.slice (some ⟨b, off, none⟩) i s.cap, .func (.func 89) #[] #[.pointer (some ⟨g3, 0, none⟩)]] y.w fun en w' => en = .returned (.bool tw) ∧ Up y.w w') := fun y => by
    rw [← HTW.out]
    have hb1 : Below w.heap.size w y.w := B1.out.trans (y.h.mono B1.out.size)
    have hcc : Cells w w.heap.size (some ⟨b, off, none⟩) (flatR (s.rows.take i)) := by
      have h2 := HRC.out.take (i * 4)
      have h3 : (flatR s.rows).take (i * 4) = flatR (s.rows.take i) := flatR_take s.rows i
      rw [h3, HSA.out] at h2
      exact h2
    exact hasR_gen 89 [.pointer (some ⟨g3, 0, none⟩)] (twinR r) (some ⟨b, off, none⟩) i s.cap w.heap.size (s.rows.take i) y.w (by rw [List.length_take]; have := HSN.out; omega) (by unfold maxLen; omega) (hcc.below hb1) hb1.size ent89 (fun x _ w' hb => close89_any x r _ w' (HB3.out.below (Up.trans U1.out (Up.trans y.h hb)) HB3.out.lt))
  clear htw
  obtain ⟨nx, hnx⟩ : ∃ b, (!namedV r.tag) = b := ⟨_, rfl⟩
  have Hnx := Troupe.hid hnx
  obtain ⟨ye, hye⟩ : ∃ b, r.tag.toList.isEmpty = b := ⟨_, rfl⟩
  have Hye := Troupe.hid hye
  obtain ⟨d1, hd1⟩ : ∃ b, (r.only && ye) = b := ⟨_, rfl⟩
  have Hd1 := Troupe.hid hd1
  obtain ⟨c1, hc1⟩ : ∃ b, (nx || d1) = b := ⟨_, rfl⟩
  have Hc1 := Troupe.hid hc1
  obtain ⟨x1, hx1⟩ : ∃ b, decide (r.n < 0) = b := ⟨_, rfl⟩
  have Hx1 := Troupe.hid hx1
  obtain ⟨c2, hc2⟩ : ∃ b, (c1 || x1) = b := ⟨_, rfl⟩
  have Hc2 := Troupe.hid hc2
  obtain ⟨x2, hx2⟩ : ∃ b, decide (255 < r.n) = b := ⟨_, rfl⟩
  have Hx2 := Troupe.hid hx2
  obtain ⟨c3, hc3⟩ : ∃ b, (c2 || x2) = b := ⟨_, rfl⟩
  have Hc3 := Troupe.hid hc3
  obtain ⟨yn, hyn⟩ : ∃ b, (r.n != 0) = b := ⟨_, rfl⟩
  have Hyn := Troupe.hid hyn
  obtain ⟨d2, hd2⟩ : ∃ b, (!r.only && yn) = b := ⟨_, rfl⟩
  have Hd2 := Troupe.hid hd2
  obtain ⟨c4, hc4⟩ : ∃ b, (c3 || d2) = b := ⟨_, rfl⟩
  have Hc4 := Troupe.hid hc4
  obtain ⟨l8, hl8⟩ : ∃ b, decide ((8 : Int) < (r.effs.length : Int)) = b := ⟨_, rfl⟩
  have Hl8 := Troupe.hid hl8
  obtain ⟨l1, hl1⟩ : ∃ b, decide ((1 : Int) < (r.effs.length : Int)) = b := ⟨_, rfl⟩
  have Hl1 := Troupe.hid hl1
  obtain ⟨c5, hc5⟩ : ∃ b, (sh && l1) = b := ⟨_, rfl⟩
  have Hc5 := Troupe.hid hc5
  have FIN : Hid (rowOwn s.rows i r = firstV [⟨c4, 43⟩, ⟨tw, 41⟩, ⟨l8, 40⟩, ⟨c5, 45⟩]) := by
    unfold Hid rowOwn
    rw [Hnx.out, Hye.out, Hd1.out, Hc1.out, Hx1.out, Hc2.out, Hx2.out, Hc3.out, Hyn.out, Hd2.out, Hc4.out, HTW.out, Hl8.out, HSH.out, Hl1.out, Hc5.out]
  refine region_upF (.q 0 (.q 1 (.q 2 (.q 3 (.q 4 (.q 5 (.q 6 (.q 7 (.q 8 (.q 9 (.q 10 (.q 11 (.q 12 (.q 13 (.q 14 (.q 15 (.q 16 (.q 17 (.q 18 (.q 19 (.q 20 (.q 21 (.q 22 (.q 23 (.q 24 (.q 25 (.q 26 (.q 27 (.q 28 (.q 29 (.q 30 (.q 31 (.q 32 (.q 33 (.q 34 (.q 35 (.q 36 (.q 37 (.q 38 (.q 39 (.q 40 (.q 41 (.q 42 (.q 43 (.q 44 (.q 45 (.q 46 (.q 47 (.q 48 (.q 49 (.q 50 (.q 51 (.q 52 (.q 53 (.one 54 (.one 55 (.q 56 .done))))))))))))))))))))))))))))))))))))))))))))))))))))))))) [⟨some 20, [9], []⟩, ⟨some 21, [20], [0]⟩, ⟨some 22, [21], [1]⟩, ⟨some 23, [22], [2]⟩, ⟨some 24, [23], [3, 2]⟩, ⟨some 25, [9, 24], [4]⟩, ⟨some 26, [25, 24], [5, 4]⟩, ⟨some 27, [26, 24], [6, 4, 4]⟩, ⟨some 28, [9, 27], [7]⟩, ⟨some 29, [28, 27], [8, 7]⟩, ⟨some 30, [29, 27], [9, 7]⟩, ⟨some 31, [27, 30, 24], [7, 10, 4]⟩, ⟨some 32, [24, 31], [4, 11]⟩, ⟨some 33, [32], [12, 7]⟩, ⟨some 34, [9, 33], [13]⟩, ⟨some 35, [34, 33], [14, 13]⟩, ⟨some 36, [35, 33], [15, 13]⟩, ⟨some 37, [33, 36], [13, 16]⟩, ⟨some 38, [37], [17, 13]⟩, ⟨some 39, [9, 38], [18]⟩, ⟨some 40, [39, 38], [19, 18]⟩, ⟨some 41, [40, 38], [20, 18]⟩, ⟨some 42, [38, 41], [18, 21]⟩, ⟨some 43, [42], [22, 18]⟩, ⟨some 44, [9, 43], [23]⟩, ⟨some 45, [44, 43], [24, 23]⟩, ⟨some 46, [45, 43], [25, 23]⟩, ⟨some 47, [46, 43], [26, 23, 23]⟩, ⟨some 48, [9, 47], [27]⟩, ⟨some 49, [48, 47], [28, 27]⟩, ⟨some 50, [49, 47], [29, 27]⟩, ⟨some 51, [47, 50, 43], [27, 30, 23]⟩, ⟨some 52, [43, 51], [23, 31]⟩, ⟨some 53, [52], [32]⟩, ⟨some 54, [6], []⟩, ⟨some 55, [54], [34]⟩, ⟨some 56, [3], []⟩, ⟨some 57, [55, 56], [35, 36]⟩, ⟨some 58, [9], []⟩, ⟨some 59, [57, 58], [37, 38, 27]⟩, ⟨some 60, [59], [39]⟩, ⟨some 61, [9], []⟩, ⟨some 62, [61], [41]⟩, ⟨some 63, [62], [42]⟩, ⟨some 64, [63], [43]⟩, ⟨some 65, [64], [44]⟩, ⟨some 66, [10], []⟩, ⟨some 67, [66], [46, 39]⟩, ⟨some 68, [9, 67], [47]⟩, ⟨some 69, [68, 67], [48, 47]⟩, ⟨some 70, [69, 67], [49, 47]⟩, ⟨some 71, [70, 67], [50, 47]⟩, ⟨some 72, [67, 71], [47, 51]⟩, ⟨some 73, [72], [52]⟩, ⟨some 74, [53, 60, 65, 73], [33, 40, 45, 53]⟩, ⟨some 75, [74], [54, 47]⟩, ⟨some 11, [75], [55, 55, 0, 1, 2, 3, 4, 5, 6, 7, 8, 9, 10, 11, 12, 13, 14, 15, 16, 17, 18, 19, 20, 21, 22, 23, 24, 25, 26, 27, 28, 29, 30, 31, 32, 33, 34, 35, 36, 37, 38, 39, 40, 41, 42, 43, 44, 45, 46, 47, 48, 49, 50, 51, 52, 53, 54, 55]⟩] (by kernel_rfl) (by kernel_rfl) (by kernel_rfl) (by kernel_rfl) (fun _ _ d _ _ h => by cases d <;> exact h) ?_
  iterate 2 (refine wpUP_q rfl (fun K hK => ?_); go_simp; refine hK _ ?_; clear hK K)
  refine wpUP_q rfl (fun K hK => ?_)
  go_simp
  refine ⟨_, NM.out, hK _ ?_⟩
  clear hK K
  iterate 2 (refine wpUP_q rfl (fun K hK => ?_); go_simp; refine hK _ ?_; clear hK K)
  apply wpUP_g2 rfl
  case hb => intro F hF; go_simp; exact hF
  case h1 => intro hb K hK; (try simp only [Bool.not_eq_true'] at hb); go_simp; exact hK
  apply wpUP_g2 rfl
  case hb => intro F hF; go_simp; exact hF
  case h1 => intro hb K hK; (try simp only [Bool.not_eq_true'] at hb); go_simp; exact hK
  apply wpUP_g2 rfl
  case hb => intro F hF; go_simp; exact hF
  case h1 => intro hb K hK; (try simp only [Bool.not_eq_true'] at hb); go_simp; exact hK
  (try go_simp)
  apply wpUP_gFt rfl rfl rfl rfl
  case h1 => intro hb K hK; simp only [Bool.and_eq_true, Bool.not_eq_true'] at hb; go_simp; exact hK
  (try go_simp)
  apply wpUP_gFt rfl rfl rfl rfl
  case h1 => intro hb K hK; simp only [Bool.and_eq_true, Bool.not_eq_true'] at hb; go_simp; exact hK
  (try go_simp)
  apply wpUP_gFt rfl rfl rfl rfl
  case h1 => intro hb K hK; simp only [Bool.and_eq_true, Bool.not_eq_true'] at hb; go_simp; exact hK
  apply wpUP_g2 rfl
  case hb => intro F hF; go_simp; exact hF
  case h1 => intro hb K hK; (try simp only [Bool.not_eq_true'] at hb); go_simp; exact hK
  iterate 2 (refine wpUP_q rfl (fun K hK => ?_); go_simp; refine hK _ ?_; clear hK K)
  apply wpUP_g2 rfl
  case hb => intro F hF; go_simp; exact hF
  case h1 => intro hb K hK; (try simp only [Bool.not_eq_true'] at hb); go_simp; exact hK
  apply wpUP_g2 rfl
  case hb => intro F hF; go_simp; exact hF
  case h1 => intro hb K hK; (try simp only [Bool.not_eq_true'] at hb); go_simp; exact hK
  apply wpUP_g2 rfl
  case hb => intro F hF; go_simp; exact hF
  case h1 => intro hb K hK; (try simp only [Bool.not_eq_true'] at hb); go_simp; exact hK
  iterate 2 (refine wpUP_q rfl (fun K hK => ?_); go_simp; refine hK _ ?_; clear hK K)
  apply wpUP_g2 rfl
  case hb => intro F hF; go_simp; exact hF
  case h1 => intro hb K hK; (try simp only [Bool.not_eq_true'] at hb); go_simp; exact hK
  apply wpUP_g2 rfl
  case hb => intro F hF; go_simp; exact hF
  case h1 => intro hb K hK; (try simp only [Bool.not_eq_true'] at hb); go_simp; exact hK
  apply wpUP_g2 rfl
  case hb => intro F hF; go_simp; exact hF
  case h1 => intro hb K hK; (try simp only [Bool.not_eq_true'] at hb); go_simp; exact hK
  iterate 2 (refine wpUP_q rfl (fun K hK => ?_); go_simp; refine hK _ ?_; clear hK K)
  apply wpUP_g2 rfl
  case hb => intro F hF; go_simp; exact hF
  case h1 => intro hb K hK; (try simp only [Bool.not_eq_true'] at hb); go_simp; exact hK
  apply wpUP_g2 rfl
  case hb => intro F hF; go_simp; exact hF
  case h1 => intro hb K hK; (try simp only [Bool.not_eq_true'] at hb); go_simp; exact hK
  apply wpUP_g2 rfl
  case hb => intro F hF; go_simp; exact hF
  case h1 => intro hb K hK; (try simp only [Bool.not_eq_true'] at hb); go_simp; exact hK
  apply wpUP_g2 rfl
  case hb => intro F hF; go_simp; exact hF
  case h1 => intro hb K hK; (try simp only [Bool.not_eq_true'] at hb); go_simp; exact hK
  (try go_simp)
  apply wpUP_gFt rfl rfl rfl rfl
  case h1 => intro hb K hK; simp only [Bool.and_eq_true, Bool.not_eq_true'] at hb; go_simp; exact hK
  (try go_simp)
  apply wpUP_gFt rfl rfl rfl rfl
  case h1 => intro hb K hK; simp only [Bool.and_eq_true, Bool.not_eq_true'] at hb; go_simp; exact hK
  (try go_simp)
  apply wpUP_gFt rfl rfl rfl rfl
  case h1 => intro hb K hK; simp only [Bool.and_eq_true, Bool.not_eq_true'] at hb; go_simp; exact hK
  apply wpUP_g2 rfl
  case hb => intro F hF; go_simp; exact hF
  case h1 => intro hb K hK; (try simp only [Bool.not_eq_true'] at hb); go_simp; exact hK
  iterate 7 (refine wpUP_q rfl (fun K hK => ?_); go_simp; refine hK _ ?_; clear hK K)
  refine wpUP_q rfl (fun K hK => ?_)
  go_simp
  refine ⟨_, HRR.out, hK _ ?_⟩
  clear hK K
  iterate 8 (refine wpUP_q rfl (fun K hK => ?_); go_simp; refine hK _ ?_; clear hK K)
  apply wpUP_g2 rfl
  case hb => intro F hF; go_simp; exact hF
  case h1 => intro hb K hK; (try simp only [Bool.not_eq_true'] at hb); go_simp; exact hK
  apply wpUP_g2 rfl
  case hb => intro F hF; go_simp; exact hF
  case h1 => intro hb K hK; (try simp only [Bool.not_eq_true'] at hb); go_simp; exact hK
  apply wpUP_g2 rfl
  case hb => intro F hF; go_simp; exact hF
  case h1 => intro hb K hK; (try simp only [Bool.not_eq_true'] at hb); go_simp; exact hK
  apply wpUP_g2 rfl
  case hb => intro F hF; go_simp; exact hF
  case h1 => intro hb K hK; (try simp only [Bool.not_eq_true'] at hb); go_simp; exact hK
  iterate 2 (refine wpUP_q rfl (fun K hK => ?_); go_simp; refine hK _ ?_; clear hK K)
  clear fr fs hne hnx hye hd1 hc1 hx1 hc2 hx2 hc3 hyn hd2 hc4 hl8 hl1 hc5
  refine wpUP_one rfl ?_
  intro wx hux
  go_wp2_with fail
  refine ⟨(Below.refl _ _).alloc (Nat.le_refl _) _, ?_⟩
  have hblk := Blk.new wx 71 [.bool c4, .int .i64 43, .bool tw, .int .i64 41, .bool l8, .int .i64 40, .bool c5, .int .i64 45]
  have UV : Hid (Up w1 (wx.alloc (.cells #[.bool c4, .int .i64 43, .bool tw, .int .i64 41, .bool l8, .int .i64 40, .bool c5, .int .i64 45] 71))) := Up.trans hux ((Below.refl _ _).alloc (Nat.le_refl _) _)
  have HBV := Troupe.hid hblk
  clear hblk hux
  generalize wx.alloc (.cells #[.bool c4, .int .i64 43, .bool tw, .int .i64 41, .bool l8, .int .i64 40, .bool c5, .int .i64 45] 71) = wv at *
  generalize wx.heap.size = gv at *
  refine wpUP_one rfl ?_
  intro wd hud
  have FR := Troupe.hid (first_any (some ⟨gv, 0, none⟩) 4 4 wd.heap.size [⟨c4, 43⟩, ⟨tw, 41⟩, ⟨l8, 40⟩, ⟨c5, 45⟩] wd rfl (by unfold maxLen; omega) ((HBV.out.below hud HBV.out.lt).blk_cells.mono (HBV.out.below hud HBV.out.lt).lt) (Nat.le_refl _))
  have UD := Troupe.hid (UV.out.trans hud)
  clear hud
  go_wp2_with fail
  refine FR.out.mono ?_
  rintro en we ⟨rfl, hue⟩
  have UE := Troupe.hid (UD.out.trans hue)
  go_wp2_with fail
  refine ⟨hue, ?_⟩
  have hne := UW.inh we
  clear hue
  refine wpUP_q rfl (fun K hK => ?_); go_simp; refine hK _ ?_; clear hK K
  refine wpUP_done ?_
  intro w6 huf
  have UF := Troupe.hid (UE.out.trans huf)
  clear huf hne
  have HKF := Troupe.hid (HK.out.below B1.out)
  have hw6 : Below w.heap.size w w6 := B1.out.trans (UF.out.mono B1.out.size)
  have B6 := Troupe.hid hw6
  have P6 := Troupe.hid (HB0.out.below (Up.trans U1.out UF.out) HB0.out.lt)
  have KK6 := Troupe.hid (HB1.out.below (Up.trans U1.out UF.out) HB1.out.lt)
  have R6 := Troupe.hid (HB3.out.below (Up.trans U1.out UF.out) HB3.out.lt)
  obtain ⟨own, hown⟩ : ∃ n, firstV [⟨c4, 43⟩, ⟨tw, 41⟩, ⟨l8, 40⟩, ⟨c5, 45⟩] = n := ⟨_, rfl⟩
  rw [hown] at FIN ⊢
  have WI : Hid (Calls Try.prog 32 #[.int .i64 own, .int .i64 r.effs.length, .func (.func 90) #[] #[.pointer (some ⟨w.heap.size, 0, none⟩), .pointer (some ⟨w.heap.size + 1, 0, none⟩), .pointer (some ⟨g3, 0, none⟩)]] w6 (Badly (rowB ks k.sts s.rows i) 1 w6)) := by
    rw [ROW.out, FIN.out]
    exact within_gen 90 [.pointer (some ⟨w.heap.size, 0, none⟩), .pointer (some ⟨w.heap.size + 1, 0, none⟩), .pointer (some ⟨g3, 0, none⟩)] (effB ks k.sts r.effs) own r.effs.length 0 w6 (by omega) (by omega) ent90 (fun j hj w' hb => by
      have hb' : Below w.heap.size w w' := B6.out.trans (hb.mono B6.out.size)
      exact close90_any Ak ck ks k r w.heap.size (w.heap.size + 1) g3 j w' (P6.out.below hb P6.out.lt) (KK6.out.below hb KK6.out.lt) (R6.out.below hb R6.out.lt) ((HC.out.below hb').mono hb'.size) HKL.out ((HK.out.below hb').mono hb'.size) ((HEF.out.below hb').mono hb'.size) (by omega) hj)
  have r6 := R6.out.cell
  clear hown hw6
  go_wp2_with fail
  refine WI.out.mono ?_
  rintro en w7 ⟨v, rfl, hbad, hb7⟩
  have HBD := Troupe.hid (hbad.base B6.out.size)
  have B7 := Troupe.hid (B6.out.trans (hb7.mono B6.out.size))
  clear hbad hb7
  go_wp2_with fail
  go_ret
  exact ⟨_, rfl, HBD.out, B7.out⟩
end Go.Proofs.Ytkjjhndccelbcaa
