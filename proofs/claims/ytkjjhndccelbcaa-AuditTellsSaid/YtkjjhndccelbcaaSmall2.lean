/- broken, alone and Directive, by contracts. -/
import Derived.Test.YtkjjhndccelbcaaSmall
namespace Go.Proofs.Ytkjjhndccelbcaa
open Go.RowKit Go.Maps Go.Troupe

/-! ### the first broken rule -/
structure Ru where
  n : Int
  ok : Bool
def Ru.cells (r : Ru) : List Value := [.int .i64 r.n, .bool r.ok]
def flatU (l : List Ru) : List Value := l.flatMap Ru.cells
def brokenV : List Ru → Int
  | [] => 0
  | r :: l => if r.ok then brokenV l else r.n
theorem brokenV_drop (l : List Ru) (j : Nat) (r : Ru) (h : l[j]? = some r) : brokenV (l.drop j) = if r.ok then brokenV (l.drop (j + 1)) else r.n := by
  obtain ⟨hj, rfl⟩ := List.getElem?_eq_some_iff.1 h
  rw [List.drop_eq_getElem_cons hj, brokenV]
set_option maxRecDepth 100000 in
theorem broken_any (Ad : Option Addr) (n c B : Nat) (l : List Ru) (w : World) (hl : l.length = n) (hn : n ≤ maxLen) (hc : Cells w B Ad (flatU l)) (hB : B ≤ w.heap.size) :
    Calls Try.prog 38 #[.slice Ad n c] w fun e w' => e = .returned (.int .i64 (brokenV l)) ∧ Below w.heap.size w w' := by
  have hn' : n ≤ 9223372036854775807 := hn
  have C0 := Troupe.hid hc
  clear hn hc
  go_enter Try.func38, Try.ntmps38
  go_wp2_with fail
  go_loopw [7] (fun i wr => ∃ j : Nat, j ≤ n ∧ i = .int .i64 j ∧ brokenV (l.drop j) = brokenV l ∧ Below w.heap.size w wr) (fun i _ => n - (intOf i).toNat)
  case atStart => exact ⟨0, Nat.zero_le _, rfl, by simp, Below.refl _ _⟩
  case round =>
    obtain ⟨j, hj, rfl, hno, hb⟩ := hrel
    obtain ⟨wa, rfl⟩ : ∃ wa : World, wa = wr := ⟨_, rfl⟩
    have NO := Troupe.hid hno
    have HB := Troupe.hid hb
    have C1 := Troupe.hid ((C0.out.mono hB).below hb)
    clear hno hb
    by_cases hlt : j < n
    · obtain ⟨x, hx⟩ : ∃ x, l[j]? = some x := ⟨_, List.getElem?_eq_getElem (by omega)⟩
      obtain ⟨b, off, rfl, _, h1⟩ := cells_at (sz := 2) (fun _ => rfl) (by decide) C1.out hx
      have d0 : wa.cell? ⟨b, off + j * 2, none⟩ = some (.int .i64 x.n) := h1 0 (by decide) _ rfl
      have d1 : wa.cell? ⟨b, off + j * 2 + 1, none⟩ = some (.bool x.ok) := h1 1 (by decide) _ rfl
      have hd := brokenV_drop l j x hx
      have B2 := Troupe.hid (HB.out.trans ((Below.refl wa.heap.size wa).alloc (Nat.le_refl _) (.cells #[.int .i64 x.n, .bool x.ok] 81) |>.mono HB.out.size))
      clear h1 hx
      cases hok : x.ok with
      | false =>
        rw [hok] at d1 hd B2
        have FIN : Hid (brokenV l = x.n) := by rw [← NO.out, hd]; rfl
        clear hd hok
        go_wp2_with fail
        go_ret
        exact ⟨by rw [FIN.out]; rfl, B2.out⟩
      | true =>
        rw [hok] at d1 hd B2
        have FIN : Hid (brokenV (l.drop (j + 1)) = brokenV l) := by rw [← NO.out, hd]; rfl
        clear hd hok
        go_wp2_with fail
        go_roundw
        case rel => exact ⟨j + 1, by omega, by go_num, FIN.out, B2.out⟩
        case measure => simp [intOf]; omega
    · have FIN : Hid (brokenV l = 0) := by rw [← NO.out, List.drop_of_length_le (by omega)]; rfl
      go_wp2_with fail
      go_ret
      exact ⟨by rw [FIN.out]; rfl, HB.out⟩

/-! ### are all children over? -/
def childV (id : Int) (a : Ac) : Bool := a.parent == id && a.mode != 5
def aloneV (l : List Ac) (id : Int) : Bool := !l.any (childV id)
set_option maxRecDepth 100000 in
set_option maxHeartbeats 2000000 in
theorem alone1_any {w : World} {base g i gi : Nat} {lg : List Nat} {a : Ac} (h : ActorAt w base lg g i a) (cid : Int) (hg : w.cell? ⟨gi, 0, none⟩ = some (.int .i64 cid)) :
    Calls Try.prog 64 #[.pointer (some ⟨g, 0, none⟩), .pointer (some ⟨gi, 0, none⟩)] w fun e w' => e = .returned (.bool (childV cid a)) ∧ Below w.heap.size w w' := by
  obtain ⟨k', A, n, c, hb, -, -⟩ := h
  have e0 := Troupe.hid hb.cell
  have HG := Troupe.hid hg
  clear hb hg
  unfold childV
  obtain ⟨ap, hap⟩ : ∃ ap, a.parent = ap := ⟨_, rfl⟩
  obtain ⟨am, ham⟩ : ∃ am, a.mode = am := ⟨_, rfl⟩
  have e1 : Hid (w.cell? ⟨g, 1, none⟩ = some (.int .i64 ap)) := by rw [← hap]; exact e0.out 1
  have e2 : Hid (w.cell? ⟨g, 8, none⟩ = some (.int .i64 am)) := by rw [← ham]; exact e0.out 8
  rw [hap, ham]
  clear hap ham e0
  by_cases hp : ap = cid
  · subst hp
    go_enter Try.func64, Try.ntmps64
    go_upto_region 1 with (fail)
    refine region_still (by kernel_rfl) (by kernel_rfl) ?_
    intro w' hh hf
    have k1 : w'.cell? ⟨g, 1, none⟩ = some (.int .i64 ap) := (World.cell?_of_block (by rw [hh])).trans e1.out
    have k2 : w'.cell? ⟨g, 8, none⟩ = some (.int .i64 am) := (World.cell?_of_block (by rw [hh])).trans e2.out
    have g1 : w'.cell? ⟨gi, 0, none⟩ = some (.int .i64 ap) := (World.cell?_of_block (by rw [hh])).trans HG.out
    have F := Troupe.hid (hf.below (Nat.le_refl _) (fun _ h => h.elim))
    clear hf hh
    iterate 14 still_step
    refine wpStill_nil ?_
    go_wp2_with fail
    go_ret
    exact ⟨by simp, F.out⟩
  · have hpb : (ap == cid) = false := beq_eq_false_iff_ne.2 hp
    rw [hpb]
    clear hp
    go_enter Try.func64, Try.ntmps64
    go_upto_region 1 with (fail)
    refine region_still (by kernel_rfl) (by kernel_rfl) ?_
    intro w' hh hf
    have k1 : w'.cell? ⟨g, 1, none⟩ = some (.int .i64 ap) := (World.cell?_of_block (by rw [hh])).trans e1.out
    have k2 : w'.cell? ⟨g, 8, none⟩ = some (.int .i64 am) := (World.cell?_of_block (by rw [hh])).trans e2.out
    have g1 : w'.cell? ⟨gi, 0, none⟩ = some (.int .i64 cid) := (World.cell?_of_block (by rw [hh])).trans HG.out
    have F := Troupe.hid (hf.below (Nat.le_refl _) (fun _ h => h.elim))
    clear hf hh
    iterate 14 still_step
    refine wpStill_nil ?_
    go_wp2_with fail
    go_ret
    exact ⟨by simp, F.out⟩
theorem ent64 : ∀ (args : Array Value) (w' : World), (callFunc 64 args).run Try.prog w' = .ok (.enter 64 args) w' := fun args w' => by kernel_rfl
theorem any_at {α : Type} (ag : List Nat) (l : List α) (hl : ag.length = l.length) (p : α → Bool) (q : Nat → Bool) (h : ∀ (i : Nat) (a : α) (g : Nat), l[i]? = some a → ag[i]? = some g → q g = p a) : ag.any q = l.any p := by
  induction l generalizing ag with
  | nil =>
    have : ag = [] := List.eq_nil_of_length_eq_zero (by simpa using hl)
    subst this; rfl
  | cons a l ih =>
    cases ag with
    | nil => simp at hl
    | cons g ag =>
      rw [List.any_cons, List.any_cons, h 0 a g rfl rfl, ih ag (by simpa using hl) (fun i a' g' h1 h2 => h (i + 1) a' g' (by simpa using h1) (by simpa using h2))]
theorem nodup_at {ag : List Nat} (h : ag.Nodup) {i j : Nat} {g : Nat} (hi : ag[i]? = some g) (hj : ag[j]? = some g) : i = j :=
  (List.getElem?_inj (List.getElem?_eq_some_iff.1 hi).1 h).1 (hi.trans hj.symm)
open Classical in
set_option maxRecDepth 100000 in
theorem alone_any {w : World} {base gb ca cl : Nat} {pv : Value} {Aa Al : Option Addr} {bk : Bk} {ag lg : List Nat} (h : BookAt w base gb pv Aa ca Al cl bk ag lg) (cid : Int) (hl : bk.acs.length ≤ 140737488355328) :
    Calls Try.prog 43 #[.pointer (some ⟨gb, 0, none⟩), .int .i64 cid] w fun e w' => e = .returned (.bool (aloneV bk.acs cid)) ∧ Below w.heap.size w w' := by
  have F0 : Below w.heap.size w (w.alloc (.cells #[.int .i64 cid] 3)) := (Below.refl _ _).alloc (Nat.le_refl _) _
  have B0 : Blk (w.alloc (.cells #[.int .i64 cid] 3)) w.heap.size 3 [.int .i64 cid] := Blk.new _ _ _
  have h1 := h.below F0
  have e1 := h1.blk.cell
  let q : Nat → Bool := fun g => decide (∃ (i : Nat) (a : Ac), ag[i]? = some g ∧ bk.acs[i]? = some a ∧ childV cid a = true)
  have hq : ∀ (i : Nat) (a : Ac) (g : Nat), bk.acs[i]? = some a → ag[i]? = some g → q g = childV cid a := by
    intro i a g hx hg
    cases hc : childV cid a with
    | true => exact decide_eq_true ⟨i, a, hg, hx, hc⟩
    | false =>
      refine decide_eq_false ?_
      rintro ⟨j, a', hg', hx', hc'⟩
      have := nodup_at h.nda hg hg'
      subst this
      rw [hx] at hx'
      cases hx'
      rw [hc] at hc'
      cases hc'
  have HA := Troupe.hid (hasA_gen 64 [.pointer (some ⟨w.heap.size, 0, none⟩)] q Aa ag.length ca (w.alloc (.cells #[.int .i64 cid] 3)).heap.size ag (w.alloc (.cells #[.int .i64 cid] 3)) rfl (by have := h.la; unfold maxLen; omega) (own_cells h1.oa) (Nat.le_refl _) ent64 (fun x hx w' hb => by
    obtain ⟨i, hi⟩ := List.mem_iff_getElem?.1 hx
    have hil : i < bk.acs.length := by rw [← h.la]; exact (List.getElem?_eq_some_iff.1 hi).1
    have hxa := List.getElem?_eq_getElem hil
    rw [hq i _ x hxa hi]
    exact alone1_any ((h1.ac i _ x hxa hi).below hb) cid ((hb.cell (p := ⟨w.heap.size, 0, none⟩) B0.lt).trans (B0.cell 0))))
  rw [any_at ag bk.acs h.la (childV cid) q hq] at HA
  have HF := Troupe.hid F0
  clear_value q
  clear h h1 hq B0 F0
  unfold aloneV
  generalize bk.acs.any (childV cid) = r at *
  go_enter Try.func43, Try.ntmps43
  go_wp2_with fail
  refine HA.out.mono ?_
  rintro e w2 ⟨rfl, hb⟩
  have HB := Troupe.hid (HF.out.trans (hb.mono HF.out.size))
  clear hb
  go_wp2_with fail
  go_ret
  exact ⟨rfl, HB.out⟩

/-! ### what a parent's cases say -/
def caseV (want : ByteArray) (c : Cs) : Bool := c.reason.toList == want.toList
def dirV (cs : List Cs) (reason : ByteArray) : Int := match cs.find? (caseV reason) with
  | some c => c.d
  | none => match cs.find? (caseV noS) with
    | some c => c.d
    | none => 3
theorem ent62 : ∀ (args : Array Value) (w' : World), (callFunc 62 args).run Try.prog w' = .ok (.enter 62 args) w' := fun args w' => by kernel_rfl
theorem closC_any (x : Cs) (want : ByteArray) (g : Nat) (w : World) (h : w.cell? ⟨g, 0, none⟩ = some (.string want)) :
    Calls Try.prog 62 #[.agg #[.string x.reason, .int .i64 x.d], .pointer (some ⟨g, 0, none⟩)] w fun e w' => e = .returned (.bool (caseV want x)) ∧ Below w.heap.size w w' := by
  unfold caseV
  have hgl := block_lt_of_cell h
  have h' : (w.alloc (.cells #[.string x.reason, .int .i64 x.d] 103)).cell? ⟨g, 0, none⟩ = some (.string want) := (World.cell?_of_block (Below.heap_alloc _ _ _ hgl)).trans h
  clear h
  go_enter Try.func62, Try.ntmps62
  go_wp2
  go_ret
  exact ⟨rfl, (Below.refl _ _).alloc (Nat.le_refl _) _⟩
theorem indexC_any (want : ByteArray) (g : Nat) (A : Option Addr) (c : Nat) (cs : List Cs) (w : World) (hl : cs.length * 24 ≤ 140737488355328) (hc : Cells w w.heap.size A (flatC cs)) (hg : w.cell? ⟨g, 0, none⟩ = some (.string want)) :
    Calls Try.prog 61 #[.slice A cs.length c, .func (.func 62) #[] #[.pointer (some ⟨g, 0, none⟩)]] w fun e w' => e = .returned (.int .i64 (idxV cs (caseV want))) ∧ Below w.heap.size w w' :=
  indexC_gen 62 [.pointer (some ⟨g, 0, none⟩)] (caseV want) A cs.length c w.heap.size cs w rfl (by unfold maxLen; omega) hc (Nat.le_refl _) ent62 (fun x _ w' hb => closC_any x want g w' ((hb.cell (p := ⟨g, 0, none⟩) (block_lt_of_cell hg)).trans hg))
end Go.Proofs.Ytkjjhndccelbcaa
