/- audit's Check, by contract. -/
import Derived.Laws.EntriesVeiled
import Derived.Test.YtkjjhndccelbcaaRunV
import Derived.Test.YtkjjhndccelbcaaCheckP
import Derived.Test.YtkjjhndccelbcaaSpawned
import Derived.Test.YtkjjhndccelbcaaStart
import Derived.Test.YtkjjhndccelbcaaDead
import Derived.Test.YtkjjhndccelbcaaTold
namespace Go.Proofs.Ytkjjhndccelbcaa
open Go.RowKit Go.Maps Go.Troupe
attribute [local go_sem] reads readAt readUpon Cls

/-! ### what a right program has -/
theorem firstV_zero : ∀ (l : List Fl), (∀ r ∈ l, r.code ≠ 0) → firstV l = 0 → ∀ r ∈ l, r.broken = false
  | [], _, _, r, hr => by cases hr
  | x :: l, hc, h, r, hr => by
    unfold firstV at h
    cases hb : x.broken with
    | true => rw [hb] at h; exact absurd h (hc x (by simp))
    | false =>
      rw [hb] at h
      rcases List.mem_cons.1 hr with rfl | hr
      · exact hb
      · exact firstV_zero l (fun r hr => hc r (by simp [hr])) h r hr
theorem withinV_no {own : Int} {n : Nat} {p : Nat → Bool} (h : withinV own n p = false) : own = 0 ∧ ∀ i, i < n → p i = false := by
  unfold withinV at h
  rw [Bool.or_eq_false_iff] at h
  exact ⟨by simpa using h.1, fun i hi => by
    have := List.any_eq_false.1 h.2 i (List.mem_range.2 hi)
    simpa using this⟩
theorem prog_has {ks : List Kf} (h : progB ks = false) : ks ≠ [] ∧ ∀ k ∈ ks, k.sts ≠ [] := by
  obtain ⟨h1, h2⟩ := withinV_no h
  have h3 := firstV_zero _ (by simp) h1 _ (List.mem_singleton.2 rfl)
  simp only [Bool.or_eq_false_iff, decide_eq_false_iff_not] at h3
  refine ⟨fun e => by rw [e] at h3; simp at h3, fun k hk => ?_⟩
  obtain ⟨i, hi⟩ := List.getElem?_of_mem hk
  have h4 := h2 i (List.getElem?_eq_some_iff.1 hi).1
  unfold kindB at h4
  rw [hi] at h4
  obtain ⟨h5, -⟩ := withinV_no h4
  have h6 := firstV_zero _ (by simp) h5 ⟨(decide ((8 : Int) < (k.cases.length : Int)) || decide ((k.sts.length : Int) < 1)) || decide ((8 : Int) < (k.sts.length : Int)), 40⟩ (by simp)
  simp only [Bool.or_eq_false_iff, decide_eq_false_iff_not] at h6
  intro e
  rw [e] at h6
  simp at h6

def checkV (ks : List Kf) (evs : List Ev) : Int × Int := if progB ks = true then (1, 0) else runV ks bk0 0 evs
/-! ### one event -/
def fnum (d : Int) : Nat := if d = 1 then 16 else if d = 2 then 17 else if d = 3 then 18 else if d = 4 then 19 else if d = 5 then 18 else if d = 6 then 20 else if d = 7 then 21 else if d = 8 then 22 else if d = 9 then 23 else if d = 10 then 24 else if d = 11 then 25 else if d = 12 then 26 else if d = 13 then 27 else if d = 14 then 28 else 29
def RUL : List Value := [.nilFunc, .func (.func 16) #[] #[], .func (.func 17) #[] #[], .func (.func 18) #[] #[], .func (.func 19) #[] #[], .func (.func 18) #[] #[], .func (.func 20) #[] #[], .func (.func 21) #[] #[], .func (.func 22) #[] #[], .func (.func 23) #[] #[], .func (.func 24) #[] #[], .func (.func 25) #[] #[], .func (.func 26) #[] #[], .func (.func 27) #[] #[], .func (.func 28) #[] #[], .func (.func 29) #[] #[]]
theorem rul_at (d : Int) (h1 : 1 ≤ d) (h2 : d ≤ 15) : RUL[d.toNat]? = some (.func (.func (fnum d)) #[] #[]) ∧ ∀ (args : Array Value) (w' : World), (callFunc (fnum d) args).run Try.prog w' = .ok (.enter (fnum d) args) w' := by
  have hd : d = 1 ∨ d = 2 ∨ d = 3 ∨ d = 4 ∨ d = 5 ∨ d = 6 ∨ d = 7 ∨ d = 8 ∨ d = 9 ∨ d = 10 ∨ d = 11 ∨ d = 12 ∨ d = 13 ∨ d = 14 ∨ d = 15 := by omega
  rcases hd with rfl | rfl | rfl | rfl | rfl | rfl | rfl | rfl | rfl | rfl | rfl | rfl | rfl | rfl | rfl <;> exact ⟨rfl, fun args w' => by kernel_rfl⟩
theorem rule_any {w : World} {base gb : Nat} {Ak : Option Addr} {ck : Nat} {bk : Bk} {ks : List Kf} {i : Nat} (h : Kept w base gb (.slice Ak ks.length ck) bk) (hw : base ≤ w.heap.size) (e : Ev) (he : EvOk e) (hinv : InvB i bk) (hi : i ≤ 1759218604441)
    (hc : Cells w w.heap.size Ak (flatK ks)) (hk : KindsIn w w.heap.size ks) (hkl : ks.length ≤ 140737488355328) (hks : ks ≠ []) (hst : ∀ k ∈ ks, k.sts ≠ []) (_h1 : 1 ≤ e.kd) (_h2 : e.kd ≤ 15) :
    Calls Try.prog (fnum e.kd) #[.pointer (some ⟨gb, 0, none⟩), .agg e.cells.toArray] w (Ruled w base gb (.slice Ak ks.length ck) (ruleV ks bk e)) := by
  obtain ⟨Aa, ca, Al, cl, ag, lg, hb⟩ := h
  have a1 := hinv.ac
  have a2 := hinv.lt
  have a3 := hinv.tk
  unfold fnum ruleV
  by_cases h10 : e.kd = 1
  · rw [if_pos h10, if_pos h10]; exact refused_any hb hw e
  rw [if_neg h10, if_neg h10]
  by_cases h20 : e.kd = 2
  · rw [if_pos h20, if_pos h20]; exact sent_any hb hw e (by omega) (by omega) he.id
  rw [if_neg h20, if_neg h20]
  by_cases h30 : e.kd = 3
  · rw [if_pos h30, if_pos h30]; exact start_any hb hw e (by omega) (by omega) he.id hinv.n
  rw [if_neg h30, if_neg h30]
  by_cases h40 : e.kd = 4
  · rw [if_pos h40, if_pos h40]; exact end_any hb hw e (by omega)
  rw [if_neg h40, if_neg h40]
  by_cases h50 : e.kd = 5
  · rw [if_pos h50, if_pos h50]; exact start_any hb hw e (by omega) (by omega) he.id hinv.n
  rw [if_neg h50, if_neg h50]
  by_cases h60 : e.kd = 6
  · rw [if_pos h60, if_pos h60]; exact dead_any hb hw e (by omega) (by omega) he.id
  rw [if_neg h60, if_neg h60]
  by_cases h70 : e.kd = 7
  · rw [if_pos h70, if_pos h70]; exact spawned_any hb hw e (by omega) hc hk hkl hks hst
  rw [if_neg h70, if_neg h70]
  by_cases h80 : e.kd = 8
  · rw [if_pos h80, if_pos h80]; exact noRoom_any hb hw e (by omega) hc hk hkl
  rw [if_neg h80, if_neg h80]
  by_cases h90 : e.kd = 9
  · rw [if_pos h90, if_pos h90]; exact failed_any hb hw e (by omega)
  rw [if_neg h90, if_neg h90]
  by_cases h100 : e.kd = 10
  · rw [if_pos h100, if_pos h100]; exact told_any hb hw e (by omega)
  rw [if_neg h100, if_neg h100]
  by_cases h110 : e.kd = 11
  · rw [if_pos h110, if_pos h110]; exact resumed_any hb hw e (by omega)
  rw [if_neg h110, if_neg h110]
  by_cases h120 : e.kd = 12
  · rw [if_pos h120, if_pos h120]; exact restarted_any hb hw e (by omega)
  rw [if_neg h120, if_neg h120]
  by_cases h130 : e.kd = 13
  · rw [if_pos h130, if_pos h130]; exact stopping_any hb hw e (by omega)
  rw [if_neg h130, if_neg h130]
  by_cases h140 : e.kd = 14
  · rw [if_pos h140, if_pos h140]; exact ended_any hb hw e (by omega)
  rw [if_neg h140, if_neg h140]
  exact tick_any hb hw e (by omega)
structure Looped (ks : List Kf) (evs : List Ev) (k : Nat) (bk : Bk) (wr w w2 : World) (gb : Nat) (pv : Value) : Prop where
  run : runV ks bk k (evs.drop k) = runV ks bk0 0 evs
  inv : InvB k bk
  kept : Kept wr w.heap.size gb pv bk
  below : Below w.heap.size w wr
  k52 : K52 w2 wr

set_option pp.deepTerms true in
set_option pp.maxSteps 1000000 in
set_option maxRecDepth 100000 in
set_option maxHeartbeats 8000000 in
theorem check_any {Ak Al : Option Addr} {ck cl : Nat} {ks : List Kf} {evs : List Ev} (w : World) (hc : Cells w w.heap.size Ak (flatK ks)) (hk : KindsIn w w.heap.size ks) (hkl : ks.length ≤ 140737488355328) (hck : ks.length ≤ ck) (hcap : ∀ k ∈ ks, CapK k)
    (hl : Cells w w.heap.size Al (flatV evs)) (hel : evs.length ≤ 1759218604441) (heo : ∀ e ∈ evs, EvOk e) :
    Calls Try.prog 8 #[.agg #[.slice Ak ks.length ck], .slice Al evs.length cl] w fun en w' => en = .returned (.tuple #[.int .i64 (checkV ks evs).1, .int .i64 (checkV ks evs).2]) ∧ Below w.heap.size w w' := by
  have F0 : Below w.heap.size w (w.alloc (.cells #[.slice Ak ks.length ck] 24)) := (Below.refl _ _).alloc (Nat.le_refl _) _
  have K0 := Troupe.hid (Blk.new w 24 [.slice Ak ks.length ck])
  have HF := Troupe.hid F0
  have e0 := (Blk.new w 24 [.slice Ak ks.length ck]).cell
  obtain ⟨pb, hpb⟩ : ∃ b, progB ks = b := ⟨_, rfl⟩
  have HPB := Troupe.hid hpb
  have PG : Hid (Calls Try.prog 15 #[.agg #[.slice Ak ks.length ck]] (w.alloc (.cells #[.slice Ak ks.length ck] 24)) (Progged pb (w.alloc (.cells #[.slice Ak ks.length ck] 24)))) := by
    rw [← hpb]
    exact program_any Ak ck ks _ ((hc.below F0).mono F0.size) hkl ((hk.below F0).mono F0.size) hck hcap
  have HC := Troupe.hid hc
  have HK := Troupe.hid hk
  have HKL := Troupe.hid hkl
  have HL := Troupe.hid hl
  have HEO := Troupe.hid heo
  obtain ⟨n, hn⟩ : ∃ n, evs.length = n := ⟨_, rfl⟩
  have HN := Troupe.hid hn
  have hnb : n ≤ 1759218604441 := by omega
  rw [hn]
  clear F0 hc hk hkl hck hcap hl heo hn hpb hel
  go_enter Try.func8, Try.ntmps8
  go_wp2_with fail
  generalize w.alloc (.cells #[.slice Ak ks.length ck] 24) = wa at *
  refine PG.out.mono ?_
  rintro en w1 ⟨hb1, hpg⟩
  have U1 := Troupe.hid hb1
  have B1 := Troupe.hid (HF.out.trans (hb1.mono HF.out.size))
  have e1 := (K0.out.below hb1 K0.out.lt).cell
  clear hb1 e0
  rcases hpg with ⟨rfl, rfl⟩ | ⟨rfl, g, rfl⟩
  rotate_left
  · have FIN : Hid (checkV ks evs = (1, 0)) := by unfold Hid checkV; rw [HPB.out]; rfl
    go_wp2_with fail
    go_ret2
    exact ⟨by rw [FIN.out]; rfl, B1.out⟩
  have FIN0 : Hid (checkV ks evs = runV ks bk0 0 evs) := by unfold Hid checkV; rw [HPB.out]; rfl
  go_wp2_with fail
  obtain ⟨hks, hst⟩ := prog_has HPB.out
  have HKS := Troupe.hid hks
  have HST := Troupe.hid hst
  have G1 := Troupe.hid ((Blk.new w1 49 [.slice Ak ks.length ck, .slice none 0 0, .slice none 0 0, .int .i64 0]).alloc (.cells #[.nilFunc, .func (.func 16) #[] #[], .func (.func 17) #[] #[], .func (.func 18) #[] #[], .func (.func 19) #[] #[], .func (.func 18) #[] #[], .func (.func 20) #[] #[], .func (.func 21) #[] #[], .func (.func 22) #[] #[], .func (.func 23) #[] #[], .func (.func 24) #[] #[], .func (.func 25) #[] #[], .func (.func 26) #[] #[], .func (.func 27) #[] #[], .func (.func 28) #[] #[], .func (.func 29) #[] #[]] 52))
  have G2 : Hid (Blk ((w1.alloc (.cells #[.slice Ak ks.length ck, .slice none 0 0, .slice none 0 0, .int .i64 0] 49)).alloc (.cells #[.nilFunc, .func (.func 16) #[] #[], .func (.func 17) #[] #[], .func (.func 18) #[] #[], .func (.func 19) #[] #[], .func (.func 18) #[] #[], .func (.func 20) #[] #[], .func (.func 21) #[] #[], .func (.func 22) #[] #[], .func (.func 23) #[] #[], .func (.func 24) #[] #[], .func (.func 25) #[] #[], .func (.func 26) #[] #[], .func (.func 27) #[] #[], .func (.func 28) #[] #[], .func (.func 29) #[] #[]] 52)) (w1.heap.size + 1) 52 RUL) := by
    have := Blk.new (w1.alloc (.cells #[.slice Ak ks.length ck, .slice none 0 0, .slice none 0 0, .int .i64 0] 49)) 52 RUL
    rw [show (w1.alloc (.cells #[.slice Ak ks.length ck, .slice none 0 0, .slice none 0 0, .int .i64 0] 49)).heap.size = w1.heap.size + 1 by simp] at this
    exact this
  have F2 : Below w1.heap.size w1 ((w1.alloc (.cells #[.slice Ak ks.length ck, .slice none 0 0, .slice none 0 0, .int .i64 0] 49)).alloc (.cells #[.nilFunc, .func (.func 16) #[] #[], .func (.func 17) #[] #[], .func (.func 18) #[] #[], .func (.func 19) #[] #[], .func (.func 18) #[] #[], .func (.func 20) #[] #[], .func (.func 21) #[] #[], .func (.func 22) #[] #[], .func (.func 23) #[] #[], .func (.func 24) #[] #[], .func (.func 25) #[] #[], .func (.func 26) #[] #[], .func (.func 27) #[] #[], .func (.func 28) #[] #[], .func (.func 29) #[] #[]] 52)) := ((Below.refl _ _).alloc (Nat.le_refl _) _).alloc (by simp) _
  have B2 := Troupe.hid (B1.out.trans (F2.mono B1.out.size))
  have hgb := B1.out.size
  clear F2 hks hst e1
  generalize (w1.alloc (.cells #[.slice Ak ks.length ck, .slice none 0 0, .slice none 0 0, .int .i64 0] 49)).alloc (.cells #[.nilFunc, .func (.func 16) #[] #[], .func (.func 17) #[] #[], .func (.func 18) #[] #[], .func (.func 19) #[] #[], .func (.func 18) #[] #[], .func (.func 20) #[] #[], .func (.func 21) #[] #[], .func (.func 22) #[] #[], .func (.func 23) #[] #[], .func (.func 24) #[] #[], .func (.func 25) #[] #[], .func (.func 26) #[] #[], .func (.func 27) #[] #[], .func (.func 28) #[] #[], .func (.func 29) #[] #[]] 52) = w2 at *
  generalize hgr : w1.heap.size + 1 = gr at *
  clear hgr
  generalize w1.heap.size = gb at *
  have KP : Hid (Kept w2 w.heap.size gb (.slice Ak ks.length ck) bk0) := ⟨none, 0, none, 0, [], [], G1.out, hgb, World.ownsRow_nil _ _ _ _, World.ownsRow_nil _ _ _ _, rfl, rfl, List.nodup_nil, List.nodup_nil, fun g hg => (by cases hg), fun g hg => (by cases hg), fun i a g h => (by simp [bk0] at h), fun i a g h => (by simp [bk0] at h), fun a h => (by simp [bk0] at h), fun a h => (by simp [bk0] at h)⟩
  go_loopw [20] (fun v20 wr => ∃ (k : Nat) (bk : Bk), k ≤ n ∧ v20 = .int .i64 k ∧ Looped ks evs k bk wr w w2 gb (.slice Ak ks.length ck)) (fun v20 _ => n - (intOf v20).toNat)
  case atStart => exact ⟨0, bk0, Nat.zero_le _, rfl, ⟨rfl, InvB.zero, KP.out, B2.out, fun _ _ h => h⟩⟩
  case round =>
    obtain ⟨k, bk, hk, rfl, hlo⟩ := hrel
    obtain ⟨wa2, rfl⟩ : ∃ wa2 : World, wa2 = wr := ⟨_, rfl⟩
    have LO := Troupe.hid hlo
    clear hlo
    by_cases hlt : k < n
    · obtain ⟨e, hx⟩ : ∃ e, evs[k]? = some e := ⟨_, List.getElem?_eq_getElem (by have := HN.out; omega)⟩
      have HX := Troupe.hid hx
      have EO := Troupe.hid (HEO.out e (List.mem_of_getElem? hx))
      obtain ⟨b, off, rfl, -, h1⟩ := cells_at (sz := 9) (fun _ => rfl) (by decide) (HL.out.below LO.out.below) hx
      have d0 : wa2.cell? ⟨b, off + k * 9, none⟩ = some (.int .i64 e.kd) := h1 0 (by decide) _ rfl
      have d1 : wa2.cell? ⟨b, off + k * 9 + 1, none⟩ = some (.int .i64 e.actor) := h1 1 (by decide) _ rfl
      have d2 : wa2.cell? ⟨b, off + k * 9 + 2, none⟩ = some (.int .u64 e.id) := h1 2 (by decide) _ rfl
      have d3 : wa2.cell? ⟨b, off + k * 9 + 3, none⟩ = some (.int .i64 e.src) := h1 3 (by decide) _ rfl
      have d4 : wa2.cell? ⟨b, off + k * 9 + 4, none⟩ = some (.int .i64 e.dst) := h1 4 (by decide) _ rfl
      have d5 : wa2.cell? ⟨b, off + k * 9 + 5, none⟩ = some (.string e.name) := h1 5 (by decide) _ rfl
      have d6 : wa2.cell? ⟨b, off + k * 9 + 6, none⟩ = some (.int .i64 e.n) := h1 6 (by decide) _ rfl
      have d7 : wa2.cell? ⟨b, off + k * 9 + 7, none⟩ = some (.int .i64 e.why) := h1 7 (by decide) _ rfl
      have d8 : wa2.cell? ⟨b, off + k * 9 + 8, none⟩ = some (.bool e.timed) := h1 8 (by decide) _ rfl
      have FE : Below wa2.heap.size wa2 (wa2.alloc (.cells #[.int .i64 e.kd, .int .i64 e.actor, .int .u64 e.id, .int .i64 e.src, .int .i64 e.dst, .string e.name, .int .i64 e.n, .int .i64 e.why, .bool e.timed] 32)) := (Below.refl _ _).alloc (Nat.le_refl _) _
      have KE := Troupe.hid (Blk.new wa2 32 [.int .i64 e.kd, .int .i64 e.actor, .int .u64 e.id, .int .i64 e.src, .int .i64 e.dst, .string e.name, .int .i64 e.n, .int .i64 e.why, .bool e.timed])
      have B3 := Troupe.hid (LO.out.below.trans (FE.mono LO.out.below.size))
      have KP3 := Troupe.hid (LO.out.kept.below FE)
      have K53 : Hid (K52 w2 (wa2.alloc (.cells #[.int .i64 e.kd, .int .i64 e.actor, .int .u64 e.id, .int .i64 e.src, .int .i64 e.dst, .string e.name, .int .i64 e.n, .int .i64 e.why, .bool e.timed] 32))) := fun g cs h => (LO.out.k52 g cs h).below FE (LO.out.k52 g cs h).lt
      have RUN : Hid (runV ks bk0 0 evs = if badKd k e = true then (1, (k : Int)) else if (ruleV ks bk e).1 ≠ 0 then ((ruleV ks bk e).1, (k : Int)) else runV ks (ruleV ks bk e).2 (k + 1) (evs.drop (k + 1))) := by
        have h2 := LO.out.run
        rw [List.drop_eq_getElem_cons (List.getElem?_eq_some_iff.1 hx).1, (List.getElem?_eq_some_iff.1 hx).2] at h2
        exact h2.symm
      clear h1 hx FE
      obtain ⟨x1, hx1⟩ : ∃ b, decide (e.kd < 1) = b := ⟨_, rfl⟩
      obtain ⟨x2, hx2⟩ : ∃ b, decide (15 < e.kd) = b := ⟨_, rfl⟩
      obtain ⟨z, hz⟩ : ∃ b, (k == 0) = b := ⟨_, rfl⟩
      obtain ⟨y, hy⟩ : ∃ b, (e.kd != 7) = b := ⟨_, rfl⟩
      have hz2 : ((k : Int) == 0) = z := by
        rw [← hz]
        by_cases h : k = 0
        · subst h; rfl
        · rw [beq_eq_false_iff_ne.2 h, beq_eq_false_iff_ne.2 (by omega)]
      have BK : Hid (badKd k e = ((x1 || x2) || (z && y))) := by unfold Hid badKd; rw [hx1, hx2, hz, hy]
      have HX1 := Troupe.hid hx1
      have HX2 := Troupe.hid hx2
      clear hz
      cases x1 with
      | true =>
        have FIN : Hid (checkV ks evs = (1, (k : Int))) := by rw [FIN0.out, RUN.out, BK.out]; rfl
        go_wp2_with fail
        go_ret2
        exact ⟨by rw [FIN.out]; rfl, B3.out⟩
      | false =>
      cases x2 with
      | true =>
        have FIN : Hid (checkV ks evs = (1, (k : Int))) := by rw [FIN0.out, RUN.out, BK.out]; rfl
        go_wp2_with fail
        go_ret2
        exact ⟨by rw [FIN.out]; rfl, B3.out⟩
      | false =>
      cases z with
      | false =>
        have hb0 : badKd k e = false := BK.out
        have hd1 : 1 ≤ e.kd := by have h2 := of_decide_eq_false HX1.out; omega
        have hd2 : e.kd ≤ 15 := by have h2 := of_decide_eq_false HX2.out; omega
        have RUN2 : Hid (runV ks bk0 0 evs = if (ruleV ks bk e).1 ≠ 0 then ((ruleV ks bk e).1, (k : Int)) else runV ks (ruleV ks bk e).2 (k + 1) (evs.drop (k + 1))) := by
          rw [RUN.out, hb0]; rfl
        obtain ⟨f, hf⟩ : ∃ f, fnum e.kd = f := ⟨_, rfl⟩
        obtain ⟨hr1, hr2⟩ := rul_at e.kd hd1 hd2
        rw [hf] at hr1 hr2
        have HR1 := Troupe.hid hr1
        have HR2 := Troupe.hid hr2
        have HF2 := Troupe.hid hf
        clear hb0 hr1 hr2 hf RUN BK
        go_upto_region 10 with (fail)
        clear hx1 hx2 hy
        generalize wa2.alloc (.cells #[.int .i64 e.kd, .int .i64 e.actor, .int .u64 e.id, .int .i64 e.src, .int .i64 e.dst, .string e.name, .int .i64 e.n, .int .i64 e.why, .bool e.timed] 32) = w3 at *
        generalize wa2.heap.size = ge at *
        clear d0 d1 d2 d3 d4 d5 d6 d7 d8 hz2
        refine region_still_tail 6 (by kernel_rfl) (by kernel_rfl) ?_
        intro w4 hh hfr
        have F4 : Below w3.heap.size w3 w4 := hfr.below (Nat.le_refl _) (fun _ h => h.elim)
        have B4 := Troupe.hid (B3.out.trans (F4.mono B3.out.size))
        have KP4 := Troupe.hid (KP3.out.below F4)
        have K54 : Hid (K52 w2 w4) := fun g cs h => (K53.out g cs h).below F4 (K53.out g cs h).lt
        have ke := (KE.out.heap hh).cell
        have kr : w4.cell? ⟨gr, e.kd.toNat, none⟩ = some (.func (.func f) #[] #[]) := by rw [(K54.out gr _ G2.out).cell]; exact HR1.out
        have RA : Hid (Calls Try.prog f #[.pointer (some ⟨gb, 0, none⟩), .agg #[.int .i64 e.kd, .int .i64 e.actor, .int .u64 e.id, .int .i64 e.src, .int .i64 e.dst, .string e.name, .int .i64 e.n, .int .i64 e.why, .bool e.timed]] w4 (Ruled w4 w.heap.size gb (.slice Ak ks.length ck) (ruleV ks bk e))) := by
          rw [← HF2.out]
          exact rule_any KP4.out B4.out.size e EO.out LO.out.inv (by omega) ((HC.out.below B4.out).mono B4.out.size) ((HK.out.below B4.out).mono B4.out.size) HKL.out HKS.out HST.out hd1 hd2
        have heg := HR2.out
        have hd0 : 0 ≤ e.kd := by omega
        have hd3 : e.kd < 16 := by omega
        clear F4 hh hfr
        simp only [List.take_succ_cons, List.take_zero, List.drop_succ_cons, List.drop_zero]
        iterate 6 still_step
        refine wpStill_nil ?_
        go_wp2_with fail
        refine RA.out.mono ?_
        rintro en w5 ⟨rfl, hk5, hb5, h52⟩
        have B5 := Troupe.hid (B4.out.trans hb5)
        have KP5 := Troupe.hid hk5
        have K55 : Hid (K52 w2 w5) := fun g cs h => h52 g cs (K54.out g cs h)
        have INV := Troupe.hid (ruleV_inv ks LO.out.inv EO.out.n)
        obtain ⟨rn, hrn⟩ : ∃ rn, (ruleV ks bk e).1 = rn := ⟨_, rfl⟩
        rw [hrn] at RUN2 ⊢
        clear hk5 hb5 h52 ke kr heg hrn
        by_cases h0 : rn = 0
        · subst h0
          have RUN3 : Hid (runV ks (ruleV ks bk e).2 (k + 1) (evs.drop (k + 1)) = runV ks bk0 0 evs) := by rw [RUN2.out]; rfl
          go_wp2_with fail
          go_roundw
          case rel => exact ⟨k + 1, (ruleV ks bk e).2, by omega, by go_num, ⟨RUN3.out, INV.out, KP5.out, B5.out, K55.out⟩⟩
          case measure => simp [intOf]; omega
        · have FIN : Hid (checkV ks evs = (rn, (k : Int))) := by unfold Hid; rw [FIN0.out, RUN2.out, if_pos h0]
          have h0' : (rn != 0) = true := by rw [bne_iff_ne]; exact h0
          clear h0
          go_wp2_with fail
          go_ret2
          exact ⟨by rw [FIN.out]; rfl, B5.out⟩
      | true =>
        cases y with
        | true =>
          have FIN : Hid (checkV ks evs = (1, (k : Int))) := by rw [FIN0.out, RUN.out, BK.out]; rfl
          go_wp2_with fail
          go_ret2
          exact ⟨by rw [FIN.out]; rfl, B3.out⟩
        | false =>
          have hb0 : badKd k e = false := BK.out
          have hd1 : 1 ≤ e.kd := by have h2 := of_decide_eq_false HX1.out; omega
          have hd2 : e.kd ≤ 15 := by have h2 := of_decide_eq_false HX2.out; omega
          have RUN2 : Hid (runV ks bk0 0 evs = if (ruleV ks bk e).1 ≠ 0 then ((ruleV ks bk e).1, (k : Int)) else runV ks (ruleV ks bk e).2 (k + 1) (evs.drop (k + 1))) := by
            rw [RUN.out, hb0]; rfl
          obtain ⟨f, hf⟩ : ∃ f, fnum e.kd = f := ⟨_, rfl⟩
          obtain ⟨hr1, hr2⟩ := rul_at e.kd hd1 hd2
          rw [hf] at hr1 hr2
          have HR1 := Troupe.hid hr1
          have HR2 := Troupe.hid hr2
          have HF2 := Troupe.hid hf
          clear hb0 hr1 hr2 hf RUN BK
          go_upto_region 10 with (fail)
          clear hx1 hx2 hy
          generalize wa2.alloc (.cells #[.int .i64 e.kd, .int .i64 e.actor, .int .u64 e.id, .int .i64 e.src, .int .i64 e.dst, .string e.name, .int .i64 e.n, .int .i64 e.why, .bool e.timed] 32) = w3 at *
          generalize wa2.heap.size = ge at *
          clear d0 d1 d2 d3 d4 d5 d6 d7 d8 hz2
          refine region_still_tail 6 (by kernel_rfl) (by kernel_rfl) ?_
          intro w4 hh hfr
          have F4 : Below w3.heap.size w3 w4 := hfr.below (Nat.le_refl _) (fun _ h => h.elim)
          have B4 := Troupe.hid (B3.out.trans (F4.mono B3.out.size))
          have KP4 := Troupe.hid (KP3.out.below F4)
          have K54 : Hid (K52 w2 w4) := fun g cs h => (K53.out g cs h).below F4 (K53.out g cs h).lt
          have ke := (KE.out.heap hh).cell
          have kr : w4.cell? ⟨gr, e.kd.toNat, none⟩ = some (.func (.func f) #[] #[]) := by rw [(K54.out gr _ G2.out).cell]; exact HR1.out
          have RA : Hid (Calls Try.prog f #[.pointer (some ⟨gb, 0, none⟩), .agg #[.int .i64 e.kd, .int .i64 e.actor, .int .u64 e.id, .int .i64 e.src, .int .i64 e.dst, .string e.name, .int .i64 e.n, .int .i64 e.why, .bool e.timed]] w4 (Ruled w4 w.heap.size gb (.slice Ak ks.length ck) (ruleV ks bk e))) := by
            rw [← HF2.out]
            exact rule_any KP4.out B4.out.size e EO.out LO.out.inv (by omega) ((HC.out.below B4.out).mono B4.out.size) ((HK.out.below B4.out).mono B4.out.size) HKL.out HKS.out HST.out hd1 hd2
          have heg := HR2.out
          have hd0 : 0 ≤ e.kd := by omega
          have hd3 : e.kd < 16 := by omega
          clear F4 hh hfr
          simp only [List.take_succ_cons, List.take_zero, List.drop_succ_cons, List.drop_zero]
          iterate 6 still_step
          refine wpStill_nil ?_
          go_wp2_with fail
          refine RA.out.mono ?_
          rintro en w5 ⟨rfl, hk5, hb5, h52⟩
          have B5 := Troupe.hid (B4.out.trans hb5)
          have KP5 := Troupe.hid hk5
          have K55 : Hid (K52 w2 w5) := fun g cs h => h52 g cs (K54.out g cs h)
          have INV := Troupe.hid (ruleV_inv ks LO.out.inv EO.out.n)
          obtain ⟨rn, hrn⟩ : ∃ rn, (ruleV ks bk e).1 = rn := ⟨_, rfl⟩
          rw [hrn] at RUN2 ⊢
          clear hk5 hb5 h52 ke kr heg hrn
          by_cases h0 : rn = 0
          · subst h0
            have RUN3 : Hid (runV ks (ruleV ks bk e).2 (k + 1) (evs.drop (k + 1)) = runV ks bk0 0 evs) := by rw [RUN2.out]; rfl
            go_wp2_with fail
            go_roundw
            case rel => exact ⟨k + 1, (ruleV ks bk e).2, by omega, by go_num, ⟨RUN3.out, INV.out, KP5.out, B5.out, K55.out⟩⟩
            case measure => simp [intOf]; omega
          · have FIN : Hid (checkV ks evs = (rn, (k : Int))) := by unfold Hid; rw [FIN0.out, RUN2.out, if_pos h0]
            have h0' : (rn != 0) = true := by rw [bne_iff_ne]; exact h0
            clear h0
            go_wp2_with fail
            go_ret2
            exact ⟨by rw [FIN.out]; rfl, B5.out⟩
    · obtain rfl : n = k := by omega
      have FIN : Hid (checkV ks evs = (0, (n : Int))) := by
        rw [FIN0.out, ← LO.out.run, List.drop_of_length_le (by have := HN.out; omega)]; rfl
      go_wp2_with fail
      go_ret2
      exact ⟨by rw [FIN.out]; rfl, LO.out.below⟩
end Go.Proofs.Ytkjjhndccelbcaa
