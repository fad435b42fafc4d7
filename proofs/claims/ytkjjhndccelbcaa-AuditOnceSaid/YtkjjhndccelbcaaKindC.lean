/- check's kind, by contract. -/
import Derived.Test.YtkjjhndccelbcaaStateC
namespace Go.Proofs.Ytkjjhndccelbcaa
open Go.RowKit Go.Maps Go.Troupe
attribute [local go_sem] reads readAt readUpon Cls quietU pick_and' pick_or' pick_or'' pick_and2 pick_and3 pick_and4 pick_and4' pick_or2 pick_andn pick_andn'
def oddC (x : Cs) : Bool := (!namedV x.reason || decide (x.d < 1)) || decide (4 < x.d)
def sameC (want : ByteArray) (x : Cs) : Bool := x.reason.toList == want.toList
def twC (l : List Cs) : Nat → Bool
  | 0 => false
  | j + 1 => twC l j || match l[j]? with | some c => (l.take j).any (sameC c.reason) | none => false
def kindOwn (ks : List Kf) (i : Nat) (k : Kf) : Int := firstV [
  ⟨(((!lexV k.name || decide (k.limit < 0)) || decide (100 < k.limit)) || decide (k.within < 1)) || decide (4095 < k.within), 43⟩,
  ⟨(ks.take i).any (nameK k.name), 41⟩,
  ⟨(decide ((8 : Int) < (k.cases.length : Int)) || decide ((k.sts.length : Int) < 1)) || decide ((8 : Int) < (k.sts.length : Int)), 40⟩,
  ⟨k.cases.any oddC, 43⟩, ⟨twC k.cases k.cases.length, 41⟩]
def kindB (ks : List Kf) (i : Nat) : Bool := match ks[i]? with
  | some k => withinV (kindOwn ks i k) k.sts.length (stateB ks k.sts)
  | none => false
theorem ent47 : ∀ (args : Array Value) (w' : World), (callFunc 47 args).run Try.prog w' = .ok (.enter 47 args) w' := fun args w' => by kernel_rfl
theorem ent49 : ∀ (args : Array Value) (w' : World), (callFunc 49 args).run Try.prog w' = .ok (.enter 49 args) w' := fun args w' => by kernel_rfl
theorem ent52 : ∀ (args : Array Value) (w' : World), (callFunc 52 args).run Try.prog w' = .ok (.enter 52 args) w' := fun args w' => by kernel_rfl
theorem ent53 : ∀ (args : Array Value) (w' : World), (callFunc 53 args).run Try.prog w' = .ok (.enter 53 args) w' := fun args w' => by kernel_rfl
set_option maxHeartbeats 1000000 in
theorem close47_any (x : Cs) (w : World) : Calls Try.prog 47 #[.agg #[.string x.reason, .int .i64 x.d]] w fun e w' => e = .returned (.bool (oddC x)) ∧ Below w.heap.size w w' := by
  unfold oddC
  have F0 : Below w.heap.size w (w.alloc (.cells #[.string x.reason, .int .i64 x.d] 103)) := (Below.refl _ _).alloc (Nat.le_refl _) _
  have HF := Troupe.hid F0
  have NM := Troupe.hid (named_any x.reason (w.alloc (.cells #[.string x.reason, .int .i64 x.d] 103)))
  obtain ⟨b1, hb1⟩ : ∃ b, namedV x.reason = b := ⟨_, rfl⟩
  obtain ⟨b2, hb2⟩ : ∃ b, decide (x.d < 1) = b := ⟨_, rfl⟩
  obtain ⟨b3, hb3⟩ : ∃ b, decide (4 < x.d) = b := ⟨_, rfl⟩
  rw [hb1] at NM
  rw [hb1, hb2, hb3]
  clear hb1 F0
  go_enter Try.func47, Try.ntmps47
  go_wp2_with fail
  refine NM.out.mono ?_
  rintro e w1 ⟨rfl, rfl⟩
  cases b1 with
  | false =>
    go_wp2_with fail
    go_ret
    exact ⟨by simp, HF.out⟩
  | true =>
    cases b2 with
    | true =>
      go_wp2_with fail
      go_ret
      exact ⟨by simp, HF.out⟩
    | false =>
      go_wp2_with fail
      go_ret
      exact ⟨by simp, HF.out⟩
theorem close49_any (x : Cs) (want : ByteArray) (g : Nat) (w : World) (h : w.cell? ⟨g, 0, none⟩ = some (.string want)) :
    Calls Try.prog 49 #[.agg #[.string x.reason, .int .i64 x.d], .pointer (some ⟨g, 0, none⟩)] w fun e w' => e = .returned (.bool (sameC want x)) ∧ Below w.heap.size w w' := by
  unfold sameC
  have hgl := block_lt_of_cell h
  have h' : (w.alloc (.cells #[.string x.reason, .int .i64 x.d] 103)).cell? ⟨g, 0, none⟩ = some (.string want) := (World.cell?_of_block (Below.heap_alloc _ _ _ hgl)).trans h
  clear h
  go_enter Try.func49, Try.ntmps49
  go_wp2
  go_ret
  exact ⟨rfl, (Below.refl _ _).alloc (Nat.le_refl _) _⟩
theorem close52_any (x : Kf) (want : ByteArray) (g : Nat) (w : World) (h : w.cell? ⟨g, 0, none⟩ = some (.string want)) :
    Calls Try.prog 52 #[.agg #[.string x.name, .int .i64 x.limit, .int .i64 x.within, .slice x.Ac x.cases.length x.cc, .slice x.A x.sts.length x.cap], .pointer (some ⟨g, 0, none⟩)] w fun e w' => e = .returned (.bool (nameK want x)) ∧ Below w.heap.size w w' := by
  unfold nameK
  have hgl := block_lt_of_cell h
  have h' : (w.alloc (.cells #[.string x.name, .int .i64 x.limit, .int .i64 x.within, .slice x.Ac x.cases.length x.cc, .slice x.A x.sts.length x.cap] 67)).cell? ⟨g, 0, none⟩ = some (.string want) := (World.cell?_of_block (Below.heap_alloc _ _ _ hgl)).trans h
  clear h
  go_enter Try.func52, Try.ntmps52
  go_wp2
  go_ret
  exact ⟨rfl, (Below.refl _ _).alloc (Nat.le_refl _) _⟩
set_option maxRecDepth 100000 in
set_option maxHeartbeats 1000000 in
theorem close53_any (Ak : Option Addr) (ck : Nat) (ks : List Kf) (k : Kf) (gp gk i : Nat) (w : World) (hp : Blk w gp 24 [.slice Ak ks.length ck]) (hkb : Blk w gk 67 [.string k.name, .int .i64 k.limit, .int .i64 k.within, .slice k.Ac k.cases.length k.cc, .slice k.A k.sts.length k.cap])
    (hc : Cells w w.heap.size Ak (flatK ks)) (hkl : ks.length ≤ 140737488355328) (hk : KfIn w w.heap.size k) (hkc : k.sts.length ≤ k.cap) (hsc : ∀ s ∈ k.sts, s.rows.length ≤ s.cap) (hi : i < k.sts.length) :
    Calls Try.prog 53 #[.int .i64 i, .pointer (some ⟨gp, 0, none⟩), .pointer (some ⟨gk, 0, none⟩)] w (Badly (stateB ks k.sts i) 2 w) := by
  have CR := Troupe.hid (checkState_any Ak ck ks k i w hc hkl hk hkc hsc hi)
  have e1 := hp.cell
  have e2 := hkb.cell
  clear hp hkb hc hkl hk hsc hi hkc
  go_enter Try.func53, Try.ntmps53
  go_wp2_with fail
  refine CR.out.mono ?_
  rintro en w7 ⟨v, rfl, hbad, hb7⟩
  have HBD := Troupe.hid hbad
  have B7 := Troupe.hid hb7
  clear hbad hb7
  go_wp2_with fail
  go_ret
  exact ⟨_, rfl, HBD.out, B7.out⟩
theorem flatK_take (l : List Kf) (i : Nat) : (flatK l).take (i * 5) = flatK (l.take i) := by
  induction l generalizing i with
  | nil => simp [flatK]
  | cons x l ih =>
    cases i with
    | zero => simp [flatK]
    | succ i =>
      have h := ih i
      unfold flatK at h ⊢
      rw [List.take_succ_cons, List.flatMap_cons, List.flatMap_cons, ← h, show (i + 1) * 5 = i * 5 + 1 + 1 + 1 + 1 + 1 by omega]
      simp [Kf.cells]
theorem flatC_take (l : List Cs) (i : Nat) : (flatC l).take (i * 2) = flatC (l.take i) := by
  induction l generalizing i with
  | nil => simp [flatC]
  | cons x l ih =>
    cases i with
    | zero => simp [flatC]
    | succ i =>
      have h := ih i
      unfold flatC at h ⊢
      rw [List.take_succ_cons, List.flatMap_cons, List.flatMap_cons, ← h, show (i + 1) * 2 = i * 2 + 1 + 1 by omega]
      simp [Cs.cells]
/-- The slices' capacities hold their lengths. -/
def CapK (k : Kf) : Prop := k.cases.length ≤ k.cc ∧ k.sts.length ≤ k.cap ∧ ∀ s ∈ k.sts, s.rows.length ≤ s.cap
set_option pp.deepTerms true in
set_option pp.maxSteps 1000000 in
set_option maxRecDepth 100000 in
set_option maxHeartbeats 8000000 in
theorem checkKind_any (Ak : Option Addr) (ck : Nat) (ks : List Kf) (i : Nat) (w : World) (hc : Cells w w.heap.size Ak (flatK ks)) (hkl : ks.length ≤ 140737488355328) (hk : KindsIn w w.heap.size ks) (hck : ks.length ≤ ck) (hcap : ∀ k ∈ ks, CapK k) (hi : i < ks.length) :
    Calls Try.prog 34 #[.agg #[.slice Ak ks.length ck], .int .i64 i] w (Badly (kindB ks i) 3 w) := by
  obtain ⟨k, hr⟩ : ∃ k, ks[i]? = some k := ⟨_, List.getElem?_eq_getElem hi⟩
  have HIK := Troupe.hid hr
  have hmem := List.mem_of_getElem? hr
  have HKF := Troupe.hid (hk k hmem)
  obtain ⟨hcc0, hsc0, hrc0⟩ := hcap k hmem
  have HSC0 := Troupe.hid hsc0
  have HRC0 := Troupe.hid hrc0
  have HP1 : Hid (Blk (w.alloc (.cells #[.slice Ak ks.length ck] 24)) w.heap.size 24 [.slice Ak ks.length ck]) := Blk.new w 24 [.slice Ak ks.length ck]
  have A0 : Hid (Below w.heap.size w (w.alloc (.cells #[.slice Ak ks.length ck] 24))) := (Below.refl _ _).alloc (Nat.le_refl _) _
  obtain ⟨b, off, rfl, hb0, h1⟩ := cells_at (sz := 5) (fun _ => rfl) (by decide) hc hr
  have BW : Hid (∀ q v, q < 5 → (Kf.cells k)[q]? = some v → (w.alloc (.cells #[.slice (some ⟨b, off, none⟩) ks.length ck] 24)).cell? ⟨b, off + i * 5 + q, none⟩ = some v) := fun q v hq hv =>
    (A0.out.cell (p := ⟨b, off + i * 5 + q, none⟩) hb0).trans (h1 q hq v hv)
  have hcl : k.cases.length ≤ 5864062014805 := by have := HKF.out.1.2.2; omega
  have hsl : k.sts.length ≤ 3518437208883 := by have := HKF.out.2.2.2.2; omega
  have hick : i ≤ ck := by omega
  have ROW : Hid (kindB ks i = withinV (kindOwn ks i k) k.sts.length (stateB ks k.sts)) := by unfold Hid kindB; rw [hr]
  have HC := Troupe.hid hc
  have HKL := Troupe.hid hkl
  have HKI := Troupe.hid hk
  clear hr hmem hk hcap hsc0 hrc0 h1 hc hck hkl
  go_enter Try.func34, Try.ntmps34
  go_upto_region 1 with (fail)
  have k0 : (w.alloc (.cells #[.slice (some ⟨b, off, none⟩) ks.length ck] 24)).cell? ⟨b, off + i * 5, none⟩ = _ := BW.out 0 _ (by decide) rfl
  have k1 := BW.out 1 _ (by decide) rfl
  have k2 := BW.out 2 _ (by decide) rfl
  have k3 := BW.out 3 _ (by decide) rfl
  have k4 := BW.out 4 _ (by decide) rfl
  generalize w.alloc (.cells #[.slice (some ⟨b, off, none⟩) ks.length ck] 24) = wa at *
  have p0 := HP1.out.cell
  have hi2 : i < ks.length := hi
  go_upto_region 2 with (fail)
  clear k0 k1 k2 k3 k4 p0
  have FA : Below wa.heap.size wa (wa.alloc (.cells #[.string k.name, .int .i64 k.limit, .int .i64 k.within, .slice k.Ac k.cases.length k.cc, .slice k.A k.sts.length k.cap] 67)) := (Below.refl _ _).alloc (Nat.le_refl _) _
  have B0 := Troupe.hid (A0.out.trans (FA.mono A0.out.size))
  have HB0 := Troupe.hid (HP1.out.below FA HP1.out.lt)
  have HB1 := Troupe.hid (Blk.new wa 67 [.string k.name, .int .i64 k.limit, .int .i64 k.within, .slice k.Ac k.cases.length k.cc, .slice k.A k.sts.length k.cap])
  clear FA HP1
  generalize wa.alloc (.cells #[.string k.name, .int .i64 k.limit, .int .i64 k.within, .slice k.Ac k.cases.length k.cc, .slice k.A k.sts.length k.cap] 67) = wb at *
  obtain ⟨g1, hg1⟩ : ∃ g1, wa.heap.size = g1 := ⟨_, rfl⟩
  rw [hg1] at HB1 ⊢
  clear hg1
  have e1 := HB1.out.cell
  obtain ⟨odd, hodd⟩ : ∃ b, k.cases.any oddC = b := ⟨_, rfl⟩
  have HODD := Troupe.hid hodd
  have HE : Hid (Calls Try.prog 46 #[.slice k.Ac k.cases.length k.cc, .func (.func 47) #[] #[]] wb fun en w' => en = .returned (.bool odd) ∧ Below wb.heap.size wb w') := by
    rw [← hodd]
    exact hasC_gen 47 [] oddC k.Ac k.cases.length k.cc w.heap.size k.cases wb rfl (by unfold maxLen; omega) (HKF.out.1.1.below B0.out) B0.out.size ent47 (fun x _ w' _ => close47_any x w')
  clear hodd
  go_wp2_with fail
  refine HE.out.mono ?_
  rintro en w1 ⟨rfl, hu1⟩
  have U1 := Troupe.hid hu1
  have B1 := Troupe.hid (B0.out.trans (hu1.mono B0.out.size))
  clear hu1 e1
  have e1 := (HB1.out.below U1.out HB1.out.lt).cell
  obtain ⟨n, hn⟩ : ∃ n, k.cases.length = n := ⟨_, rfl⟩
  have HN := Troupe.hid hn
  have hnb : n ≤ 5864062014805 := by omega
  have hncc : n ≤ k.cc := by omega
  obtain ⟨sn, hsn⟩ : ∃ n, k.sts.length = n := ⟨_, rfl⟩
  have HSN := Troupe.hid hsn
  have hsnb : sn ≤ 3518437208883 := by omega
  clear hsn
  obtain ⟨cA, hcA⟩ : ∃ cA, k.Ac = cA := ⟨_, rfl⟩
  have HCA : Hid (Cells w w.heap.size cA (flatC k.cases)) := by rw [← hcA]; exact HKF.out.1.1
  have HCE := Troupe.hid hcA
  have E1 : Hid (∀ y, Up w1 y → ∀ q : Nat, y.cell? ⟨g1, q, none⟩ = [.string k.name, .int .i64 k.limit, .int .i64 k.within, .slice cA n k.cc, .slice k.A sn k.cap][q]?) := fun y hy q => by
    rw [← HCE.out, ← HN.out, ← HSN.out]; exact (HB1.out.below (Up.trans U1.out hy) HB1.out.lt).cell q
  clear hn hcA e1
  have e1 := E1.out w1 (Up.refl _)
  go_wp2_with fail
  go_loopw [7, 22] (fun v7 v22 wr => ∃ j : Nat, j ≤ n ∧ v22 = .int .i64 j ∧ v7 = .bool (twC k.cases j) ∧ Up w1 wr) (fun _ v22 _ => n - (intOf v22).toNat)
  case atStart => exact ⟨0, Nat.zero_le _, rfl, rfl, Up.refl _⟩
  case round =>
    obtain ⟨j, hj, rfl, rfl, hur⟩ := hrel
    obtain ⟨wz, rfl⟩ : ∃ wz : World, wz = wr := ⟨_, rfl⟩
    have UR := Troupe.hid hur
    have BR := Troupe.hid (B1.out.trans (hur.mono B1.out.size))
    clear hur e1
    have e1 := E1.out wz UR.out
    obtain ⟨tb, htb⟩ : ∃ b, twC k.cases j = b := ⟨_, rfl⟩
    rw [htb]
    have HTB := Troupe.hid htb
    clear htb
    by_cases hlt : j < n
    · obtain ⟨x, hx⟩ : ∃ x, k.cases[j]? = some x := ⟨_, List.getElem?_eq_getElem (by have := HN.out; omega)⟩
      obtain ⟨b2, off2, rfl, hb2, h2⟩ := cells_at (sz := 2) (fun _ => rfl) (by decide) (HCA.out.below BR.out) hx
      have d0 : wz.cell? ⟨b2, off2 + j * 2, none⟩ = some (.string x.reason) := h2 0 (by decide) _ rfl
      have d1 : wz.cell? ⟨b2, off2 + j * 2 + 1, none⟩ = some (.int .i64 x.d) := h2 1 (by decide) _ rfl
      have FX : Below wz.heap.size wz (wz.alloc (.cells #[.string x.reason, .int .i64 x.d] 103)) := (Below.refl _ _).alloc (Nat.le_refl _) _
      have UX := Troupe.hid (Up.trans UR.out FX)
      have HCX := Troupe.hid (Blk.new wz 103 [.string x.reason, .int .i64 x.d])
      have BX := Troupe.hid (BR.out.trans (FX.mono BR.out.size))
      have hjc : j ≤ k.cc := by omega
      have ex := E1.out _ UX.out
      have NXT : Hid (∀ r, (tb = false → (k.cases.take j).any (sameC x.reason) = r) → (tb = true → r = false) → twC k.cases (j + 1) = (tb || r)) := fun r h3 h4 => by
        unfold twC
        rw [HTB.out, hx]
        dsimp only
        cases tb with
        | true => simp
        | false => rw [h3 rfl]
      have HX := Troupe.hid hx
      clear h2 hx FX
      cases tb with
      | true =>
        go_wp2_with fail
        go_roundw
        case rel => exact ⟨j + 1, by omega, by go_num, by rw [NXT.out false (by simp) (by simp)]; rfl, UX.out⟩
        case measure => simp [intOf]; omega
      | false =>
        obtain ⟨r, hr⟩ : ∃ r, (k.cases.take j).any (sameC x.reason) = r := ⟨_, rfl⟩
        have HRX := Troupe.hid hr
        have HS : Hid (Calls Try.prog 46 #[.slice (some ⟨b2, off2, none⟩) j k.cc, .func (.func 49) #[] #[.pointer (some ⟨wz.heap.size, 0, none⟩)]] (wz.alloc (.cells #[.string x.reason, .int .i64 x.d] 103)) fun en w' => en = .returned (.bool r) ∧ Below (wz.alloc (.cells #[.string x.reason, .int .i64 x.d] 103)).heap.size (wz.alloc (.cells #[.string x.reason, .int .i64 x.d] 103)) w') := by
          rw [← hr]
          have hcc : Cells w w.heap.size (some ⟨b2, off2, none⟩) (flatC (k.cases.take j)) := by
            have h2 := HCA.out.take (j * 2)
            rwa [flatC_take] at h2
          exact hasC_gen 49 [.pointer (some ⟨wz.heap.size, 0, none⟩)] (sameC x.reason) (some ⟨b2, off2, none⟩) j k.cc w.heap.size (k.cases.take j) _ (by rw [List.length_take]; have := HN.out; omega) (by unfold maxLen; omega) (hcc.below BX.out) BX.out.size ent49 (fun y _ w' hb => close49_any y x.reason _ w' ((HCX.out.below hb HCX.out.lt).cell 0))
        clear hr
        go_wp2_with fail
        generalize wz.alloc (.cells #[.string x.reason, .int .i64 x.d] 103) = wy at *
        refine HS.out.mono ?_
        rintro en w4 ⟨rfl, hb4⟩
        have U4 := Troupe.hid (Up.trans UX.out hb4)
        clear hb4 ex d0 d1 e1
        go_wp2_with fail
        go_roundw
        case rel => exact ⟨j + 1, by omega, by go_num, by rw [NXT.out r (fun _ => HRX.out) (by simp)]; rfl, U4.out⟩
        case measure => simp [intOf]; omega
    · obtain rfl : n = j := by omega
      have HTW : Hid (twC k.cases k.cases.length = tb) := by rw [HN.out]; exact HTB.out
      go_upto_region 9 with (fail)
      clear e1
      have hne := UW.inh wz
      have fr := fun (y : UW wz) => E1.out y.w (Up.trans UR.out y.h)
      have fp : ∀ (y : UW wz) (q : Nat), y.w.cell? ⟨w.heap.size, q, none⟩ = ([.slice (some ⟨b, off, none⟩) ks.length ck] : List Value)[q]? := fun y => (HB0.out.below (Up.trans U1.out (Up.trans UR.out y.h)) HB0.out.lt).cell
      obtain ⟨tk, htk⟩ : ∃ b, (ks.take i).any (nameK k.name) = b := ⟨_, rfl⟩
      have HTK := Troupe.hid htk
      have NM : Hid (∀ y : UW wz, Calls Try.prog 50 #[.string k.name] y.w fun en w' => en = .returned (.bool (lexV k.name)) ∧ Up y.w w') := fun y => (lex_any k.name y.w).mono fun _ _ ⟨h1, h2⟩ => ⟨h1, h2 ▸ Up.refl _⟩
      have HRR : Hid (∀ y : UW wz, Calls Try.prog 51 #[.slice (some ⟨b, off, none⟩) i ck, .func (.func 52) #[] #[.pointer (some ⟨g1, 0, none⟩)]] y.w fun en w' => en = .returned (.bool tk) ∧ Up y.w w') := fun y => by
        rw [← HTK.out]
        have hb1 : Below w.heap.size w y.w := BR.out.trans (y.h.mono BR.out.size)
        have hcc : Cells w w.heap.size (some ⟨b, off, none⟩) (flatK (ks.take i)) := by
          have h2 := HC.out.take (i * 5)
          rwa [flatK_take] at h2
        exact hasK_gen 52 [.pointer (some ⟨g1, 0, none⟩)] (nameK k.name) (some ⟨b, off, none⟩) i ck w.heap.size (ks.take i) y.w (by rw [List.length_take]; omega) (by have := HKL.out; unfold maxLen; omega) (hcc.below hb1) hb1.size ent52 (fun x _ w' hb => close52_any x k.name _ w' (E1.out w' (Up.trans UR.out (Up.trans y.h hb)) 0))
      clear htk
      obtain ⟨nx, hnx⟩ : ∃ b, (!lexV k.name) = b := ⟨_, rfl⟩
      have Hnx := Troupe.hid hnx
      obtain ⟨x1, hx1⟩ : ∃ b, decide (k.limit < 0) = b := ⟨_, rfl⟩
      have Hx1 := Troupe.hid hx1
      obtain ⟨c1, hc1⟩ : ∃ b, (nx || x1) = b := ⟨_, rfl⟩
      have Hc1 := Troupe.hid hc1
      obtain ⟨x2, hx2⟩ : ∃ b, decide (100 < k.limit) = b := ⟨_, rfl⟩
      have Hx2 := Troupe.hid hx2
      obtain ⟨c2, hc2⟩ : ∃ b, (c1 || x2) = b := ⟨_, rfl⟩
      have Hc2 := Troupe.hid hc2
      obtain ⟨x3, hx3⟩ : ∃ b, decide (k.within < 1) = b := ⟨_, rfl⟩
      have Hx3 := Troupe.hid hx3
      obtain ⟨c3, hc3⟩ : ∃ b, (c2 || x3) = b := ⟨_, rfl⟩
      have Hc3 := Troupe.hid hc3
      obtain ⟨x4, hx4⟩ : ∃ b, decide (4095 < k.within) = b := ⟨_, rfl⟩
      have Hx4 := Troupe.hid hx4
      obtain ⟨c4, hc4⟩ : ∃ b, (c3 || x4) = b := ⟨_, rfl⟩
      have Hc4 := Troupe.hid hc4
      obtain ⟨l8, hl8⟩ : ∃ b, decide ((8 : Int) < (n : Int)) = b := ⟨_, rfl⟩
      have Hl8 := Troupe.hid hl8
      obtain ⟨z1, hz1⟩ : ∃ b, decide ((sn : Int) < 1) = b := ⟨_, rfl⟩
      have Hz1 := Troupe.hid hz1
      obtain ⟨c5, hc5⟩ : ∃ b, (l8 || z1) = b := ⟨_, rfl⟩
      have Hc5 := Troupe.hid hc5
      obtain ⟨z2, hz2⟩ : ∃ b, decide ((8 : Int) < (sn : Int)) = b := ⟨_, rfl⟩
      have Hz2 := Troupe.hid hz2
      obtain ⟨c6, hc6⟩ : ∃ b, (c5 || z2) = b := ⟨_, rfl⟩
      have Hc6 := Troupe.hid hc6
      have hz1' : decide (sn = 0) = z1 := by
        rw [← hz1]
        by_cases h : sn = 0
        · subst h; rfl
        · rw [decide_eq_false h, decide_eq_false (by omega)]
      have FIN : Hid (kindOwn ks i k = firstV [⟨c4, 43⟩, ⟨tk, 41⟩, ⟨c6, 40⟩, ⟨odd, 43⟩, ⟨tb, 41⟩]) := by
        unfold Hid kindOwn
        rw [HN.out, HSN.out, Hnx.out, Hx1.out, Hc1.out, Hx2.out, Hc2.out, Hx3.out, Hc3.out, Hx4.out, Hc4.out, HTK.out, Hl8.out, Hz1.out, Hc5.out, Hz2.out, Hc6.out, HODD.out]
        rw [HN.out] at HTW
        rw [HTW.out]
      refine region_upF (.q 0 (.q 1 (.q 2 (.q 3 (.q 4 (.q 5 (.q 6 (.q 7 (.q 8 (.q 9 (.q 10 (.q 11 (.q 12 (.q 13 (.q 14 (.q 15 (.q 16 (.q 17 (.q 18 (.q 19 (.q 20 (.q 21 (.q 22 (.q 23 (.q 24 (.q 25 (.q 26 (.q 27 (.q 28 (.q 29 (.q 30 (.q 31 (.q 32 (.q 33 (.q 34 (.q 35 (.q 36 (.q 37 (.q 38 (.q 39 (.q 40 (.q 41 (.q 42 (.q 43 (.q 44 (.q 45 (.q 46 (.q 47 (.q 48 (.q 49 (.q 50 (.q 51 (.q 52 (.one 53 (.one 54 (.q 55 .done)))))))))))))))))))))))))))))))))))))))))))))))))))))))) [⟨some 37, [5], []⟩, ⟨some 38, [37], [0]⟩, ⟨some 39, [38], [1]⟩, ⟨some 40, [39], [2]⟩, ⟨some 41, [40], [3, 2]⟩, ⟨some 42, [5, 41], [4]⟩, ⟨some 43, [42, 41], [5, 4]⟩, ⟨some 44, [43, 41], [6, 4]⟩, ⟨some 45, [41, 44], [4, 7]⟩, ⟨some 46, [45], [8, 4]⟩, ⟨some 47, [5, 46], [9]⟩, ⟨some 48, [47, 46], [10, 9]⟩, ⟨some 49, [48, 46], [11, 9]⟩, ⟨some 50, [46, 49], [9, 12]⟩, ⟨some 51, [50], [13, 9]⟩, ⟨some 52, [5, 51], [14]⟩, ⟨some 53, [52, 51], [15, 14]⟩, ⟨some 54, [53, 51], [16, 14]⟩, ⟨some 55, [51, 54], [14, 17]⟩, ⟨some 56, [55], [18, 14]⟩, ⟨some 57, [5, 56], [19]⟩, ⟨some 58, [57, 56], [20, 19]⟩, ⟨some 59, [58, 56], [21, 19]⟩, ⟨some 60, [56, 59], [19, 22]⟩, ⟨some 61, [60], [23]⟩, ⟨some 62, [2], []⟩, ⟨some 63, [62], [25]⟩, ⟨some 64, [1], []⟩, ⟨some 65, [63, 64], [26, 27]⟩, ⟨some 66, [5], []⟩, ⟨some 67, [65, 66], [28, 29, 19]⟩, ⟨some 68, [67], [30]⟩, ⟨some 69, [5], []⟩, ⟨some 70, [69], [32]⟩, ⟨some 71, [70], [33]⟩, ⟨some 72, [71], [34]⟩, ⟨some 73, [72], [35, 30]⟩, ⟨some 74, [5, 73], [36]⟩, ⟨some 75, [74, 73], [37, 36]⟩, ⟨some 76, [75, 73], [38, 36]⟩, ⟨some 77, [76, 73], [39, 36]⟩, ⟨some 78, [73, 77], [36, 40]⟩, ⟨some 79, [78], [41, 36]⟩, ⟨some 80, [5, 79], [42]⟩, ⟨some 81, [80, 79], [43, 42]⟩, ⟨some 82, [81, 79], [44, 42]⟩, ⟨some 83, [82, 79], [45, 42]⟩, ⟨some 84, [79, 83], [42, 46]⟩, ⟨some 85, [84], [47]⟩, ⟨some 86, [6], []⟩, ⟨some 87, [86], [49]⟩, ⟨some 88, [7], []⟩, ⟨some 89, [88], [51]⟩, ⟨some 90, [61, 68, 85, 87, 89], [24, 31, 48, 50, 52]⟩, ⟨some 91, [90], [53, 42]⟩, ⟨some 10, [91], [54, 54, 0, 1, 2, 3, 4, 5, 6, 7, 8, 9, 10, 11, 12, 13, 14, 15, 16, 17, 18, 19, 20, 21, 22, 23, 24, 25, 26, 27, 28, 29, 30, 31, 32, 33, 34, 35, 36, 37, 38, 39, 40, 41, 42, 43, 44, 45, 46, 47, 48, 49, 50, 51, 52, 53, 54]⟩] (by kernel_rfl) (by kernel_rfl) (by kernel_rfl) (by kernel_rfl) (fun _ _ d _ _ h => by cases d <;> exact h) ?_
      iterate 2 (refine wpUP_q rfl (fun K hK => ?_); go_simp; refine hK _ ?_; clear hK K)
      refine wpUP_q rfl (fun K hK => ?_)
      go_simp
      refine ⟨_, NM.out, hK _ ?_⟩
      clear hK K
      iterate 2 (refine wpUP_q rfl (fun K hK => ?_); go_simp; refine hK _ ?_; clear hK K)
      apply wpUP_g2 rfl
      case hb => intro F hF; go_simp; exact hF
      case h1 => intro hb K hK; (try simp only [Bool.not_eq_true'] at hb); go_simp; exact hK
      apply wpUP_g2 rfl
      case hb => intro F hF; go_simp; exact hF
      case h1 => intro hb K hK; (try simp only [Bool.not_eq_true'] at hb); go_simp; exact hK
      apply wpUP_g2 rfl
      case hb => intro F hF; go_simp; exact hF
      case h1 => intro hb K hK; (try simp only [Bool.not_eq_true'] at hb); go_simp; exact hK
      iterate 2 (refine wpUP_q rfl (fun K hK => ?_); go_simp; refine hK _ ?_; clear hK K)
      apply wpUP_g2 rfl
      case hb => intro F hF; go_simp; exact hF
      case h1 => intro hb K hK; (try simp only [Bool.not_eq_true'] at hb); go_simp; exact hK
      apply wpUP_g2 rfl
      case hb => intro F hF; go_simp; exact hF
      case h1 => intro hb K hK; (try simp only [Bool.not_eq_true'] at hb); go_simp; exact hK
      apply wpUP_g2 rfl
      case hb => intro F hF; go_simp; exact hF
      case h1 => intro hb K hK; (try simp only [Bool.not_eq_true'] at hb); go_simp; exact hK
      iterate 2 (refine wpUP_q rfl (fun K hK => ?_); go_simp; refine hK _ ?_; clear hK K)
      apply wpUP_g2 rfl
      case hb => intro F hF; go_simp; exact hF
      case h1 => intro hb K hK; (try simp only [Bool.not_eq_true'] at hb); go_simp; exact hK
      apply wpUP_g2 rfl
      case hb => intro F hF; go_simp; exact hF
      case h1 => intro hb K hK; (try simp only [Bool.not_eq_true'] at hb); go_simp; exact hK
      apply wpUP_g2 rfl
      case hb => intro F hF; go_simp; exact hF
      case h1 => intro hb K hK; (try simp only [Bool.not_eq_true'] at hb); go_simp; exact hK
      iterate 2 (refine wpUP_q rfl (fun K hK => ?_); go_simp; refine hK _ ?_; clear hK K)
      apply wpUP_g2 rfl
      case hb => intro F hF; go_simp; exact hF
      case h1 => intro hb K hK; (try simp only [Bool.not_eq_true'] at hb); go_simp; exact hK
      apply wpUP_g2 rfl
      case hb => intro F hF; go_simp; exact hF
      case h1 => intro hb K hK; (try simp only [Bool.not_eq_true'] at hb); go_simp; exact hK
      apply wpUP_g2 rfl
      case hb => intro F hF; go_simp; exact hF
      case h1 => intro hb K hK; (try simp only [Bool.not_eq_true'] at hb); go_simp; exact hK
      iterate 7 (refine wpUP_q rfl (fun K hK => ?_); go_simp; refine hK _ ?_; clear hK K)
      refine wpUP_q rfl (fun K hK => ?_)
      go_simp
      refine ⟨_, HRR.out, hK _ ?_⟩
      clear hK K
      iterate 6 (refine wpUP_q rfl (fun K hK => ?_); go_simp; refine hK _ ?_; clear hK K)
      apply wpUP_g2 rfl
      case hb => intro F hF; go_simp; exact hF
      case h1 => intro hb K hK; (try simp only [Bool.not_eq_true'] at hb); go_simp; exact hK
      apply wpUP_g2 rfl
      case hb => intro F hF; go_simp; exact hF
      case h1 => intro hb K hK; (try simp only [Bool.not_eq_true'] at hb); go_simp; exact hK
      apply wpUP_g2 rfl
      case hb => intro F hF; go_simp; exact hF
      case h1 => intro hb K hK; (try simp only [Bool.not_eq_true'] at hb); go_simp; exact hK
      apply wpUP_g2 rfl
      case hb => intro F hF; go_simp; exact hF
      case h1 => intro hb K hK; (try simp only [Bool.not_eq_true'] at hb); go_simp; exact hK
      iterate 2 (refine wpUP_q rfl (fun K hK => ?_); go_simp; refine hK _ ?_; clear hK K)
      apply wpUP_g2 rfl
      case hb => intro F hF; go_simp; exact hF
      case h1 => intro hb K hK; (try simp only [Bool.not_eq_true'] at hb); go_simp; exact hK
      apply wpUP_g2 rfl
      case hb => intro F hF; go_simp; exact hF
      case h1 => intro hb K hK; (try simp only [Bool.not_eq_true'] at hb); go_simp; exact hK
      apply wpUP_g2 rfl
      case hb => intro F hF; go_simp; exact hF
      case h1 => intro hb K hK; (try simp only [Bool.not_eq_true'] at hb); go_simp; exact hK
      apply wpUP_g2 rfl
      case hb => intro F hF; go_simp; exact hF
      case h1 => intro hb K hK; (try simp only [Bool.not_eq_true'] at hb); go_simp; exact hK
      iterate 6 (refine wpUP_q rfl (fun K hK => ?_); go_simp; refine hK _ ?_; clear hK K)
      clear fr fp hne hnx hx1 hc1 hx2 hc2 hx3 hc3 hx4 hc4 hl8 hz1 hc5 hz2 hc6 hz1'
      refine wpUP_one rfl ?_
      intro wx hux
      go_wp2_with fail
      refine ⟨(Below.refl _ _).alloc (Nat.le_refl _) _, ?_⟩
      have hblk := Blk.new wx 71 [.bool c4, .int .i64 43, .bool tk, .int .i64 41, .bool c6, .int .i64 40, .bool odd, .int .i64 43, .bool tb, .int .i64 41]
      have UV : Hid (Up wz (wx.alloc (.cells #[.bool c4, .int .i64 43, .bool tk, .int .i64 41, .bool c6, .int .i64 40, .bool odd, .int .i64 43, .bool tb, .int .i64 41] 71))) := Up.trans hux ((Below.refl _ _).alloc (Nat.le_refl _) _)
      have HBV := Troupe.hid hblk
      clear hblk hux
      generalize wx.alloc (.cells #[.bool c4, .int .i64 43, .bool tk, .int .i64 41, .bool c6, .int .i64 40, .bool odd, .int .i64 43, .bool tb, .int .i64 41] 71) = wv at *
      generalize wx.heap.size = gv at *
      refine wpUP_one rfl ?_
      intro wd hud
      have FR := Troupe.hid (first_any (some ⟨gv, 0, none⟩) 5 5 wd.heap.size [⟨c4, 43⟩, ⟨tk, 41⟩, ⟨c6, 40⟩, ⟨odd, 43⟩, ⟨tb, 41⟩] wd rfl (by unfold maxLen; omega) ((HBV.out.below hud HBV.out.lt).blk_cells.mono (HBV.out.below hud HBV.out.lt).lt) (Nat.le_refl _))
      have UD := Troupe.hid (UV.out.trans hud)
      clear hud
      go_wp2_with fail
      refine FR.out.mono ?_
      rintro en we ⟨rfl, hue⟩
      have UE := Troupe.hid (UD.out.trans hue)
      go_wp2_with fail
      refine ⟨hue, ?_⟩
      have hne := UW.inh we
      clear hue
      refine wpUP_q rfl (fun K hK => ?_); go_simp; refine hK _ ?_; clear hK K
      refine wpUP_done ?_
      intro w6 huf
      have UF := Troupe.hid (UE.out.trans huf)
      clear huf hne
      have hw6 : Below w.heap.size w w6 := BR.out.trans (UF.out.mono BR.out.size)
      have B6 := Troupe.hid hw6
      have P6 := Troupe.hid (HB0.out.below (Up.trans U1.out (Up.trans UR.out UF.out)) HB0.out.lt)
      have R6 := Troupe.hid (HB1.out.below (Up.trans U1.out (Up.trans UR.out UF.out)) HB1.out.lt)
      have e6 := E1.out w6 (Up.trans UR.out UF.out)
      obtain ⟨own, hown⟩ : ∃ n, firstV [⟨c4, 43⟩, ⟨tk, 41⟩, ⟨c6, 40⟩, ⟨odd, 43⟩, ⟨tb, 41⟩] = n := ⟨_, rfl⟩
      rw [hown] at FIN ⊢
      have WI : Hid (Calls Try.prog 32 #[.int .i64 own, .int .i64 sn, .func (.func 53) #[] #[.pointer (some ⟨w.heap.size, 0, none⟩), .pointer (some ⟨g1, 0, none⟩)]] w6 (Badly (kindB ks i) 3 w6)) := by
        rw [ROW.out, FIN.out, HSN.out]
        exact within_gen 53 [.pointer (some ⟨w.heap.size, 0, none⟩), .pointer (some ⟨g1, 0, none⟩)] (stateB ks k.sts) own sn 2 w6 (by omega) (by omega) ent53 (fun j hj w' hb => by
          have hb' : Below w.heap.size w w' := B6.out.trans (hb.mono B6.out.size)
          exact close53_any (some ⟨b, off, none⟩) ck ks k w.heap.size g1 j w' (P6.out.below hb P6.out.lt) (R6.out.below hb R6.out.lt) ((HC.out.below hb').mono hb'.size) HKL.out ((HKF.out.below hb').mono hb'.size) HSC0.out HRC0.out (by have := HSN.out; omega))
      clear hown hw6
      go_wp2_with fail
      refine WI.out.mono ?_
      rintro en w7 ⟨v, rfl, hbad, hb7⟩
      have HBD := Troupe.hid (hbad.base B6.out.size)
      have B7 := Troupe.hid (B6.out.trans (hb7.mono B6.out.size))
      clear hbad hb7
      go_wp2_with fail
      go_ret
      exact ⟨_, rfl, HBD.out, B7.out⟩
end Go.Proofs.Ytkjjhndccelbcaa
