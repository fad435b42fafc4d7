/- The book's rules, as Lean functions; an actor or a message written over in memory. -/
import Derived.Test.YtkjjhndccelbcaaDir
namespace Go.Proofs.Ytkjjhndccelbcaa
open Go.RowKit Go.Maps Go.Troupe

/-! ### Find, both ways as one -/
def zF : Kf := ⟨noS, 0, 0, [], none, 0, [], none, 0⟩
theorem zF_own (w : World) (b : Nat) : KOwn w b zF := ⟨World.ownsRow_nil _ _ _ _, World.ownsRow_nil _ _ _ _, fun s hs => (by simp [zF] at hs)⟩
theorem zF_in (w : World) (B : Nat) : KfIn w B zF := ⟨⟨.nil _ _ _, fun _ => rfl, by simp [zF]⟩, .nil _ _ _, fun _ => rfl, fun s hs => (by simp [zF] at hs), by simp [zF]⟩
def foundV (ks : List Kf) (kind : ByteArray) : Kf := (findV ks kind).getD zF
theorem found_in {ks : List Kf} {w : World} {B : Nat} (h : KindsIn w B ks) (kind : ByteArray) : KfIn w B (foundV ks kind) := by
  unfold foundV
  cases hf : findV ks kind with
  | none => exact zF_in w B
  | some k => exact h k (List.mem_of_find?_eq_some hf)
theorem found_one {ks : List Kf} {kind : ByteArray} {w w' : World} {e : Ending} (h : Found ks kind w e w') :
    Below w.heap.size w w' ∧ ∃ k', e = .returned (.tuple #[k'.val, .bool (findV ks kind).isSome]) ∧ SameK (foundV ks kind) k' ∧ KOwn w' w.heap.size k' := by
  obtain ⟨hb, h⟩ := h
  refine ⟨hb, ?_⟩
  unfold foundV
  cases hf : findV ks kind with
  | none =>
    rw [hf] at h
    exact ⟨zF, h, ⟨rfl, rfl, rfl, rfl, .nil⟩, zF_own _ _⟩
  | some k =>
    rw [hf] at h
    exact h


def Bk.setA (bk : Bk) (i : Nat) (a : Ac) : Bk := { bk with acs := bk.acs.set i a }
def Bk.setL (bk : Bk) (i : Nat) (l : Lt) : Bk := { bk with lts := bk.lts.set i l }
def sGone : ByteArray := ⟨#[103, 111, 110, 101]⟩
def sentV (bk : Bk) (e : Ev) : Int × Bk :=
  let f := acV bk.acs e.src
  let n := brokenV [⟨2, e.id == (bk.lts.length : Int) + 1⟩, ⟨2, e.dst == 0 || (acV bk.acs e.dst).isSome⟩,
    ⟨2, (decide (e.src < 0) && !e.timed) || (worksV f && (!e.timed || e.dst == e.src)) || (isV f [5] && e.name.toList == sGone.toList && e.n == 0 && !e.timed)⟩]
  if n = 0 then (0, { bk with lts := bk.lts ++ [⟨e, isV f [5], false, true⟩] }) else (n, bk)
def earlierV (l : Lt) (o : Lt) : Bool := o.ev.src == l.ev.src && o.ev.dst == l.ev.dst && o.held && !o.ev.timed && !o.arrived
def startV (bk : Bk) (e : Ev) : Int × Bk := match acV bk.acs e.actor, ltV bk.lts e.id with
  | some (i, a), some (j, l) =>
    if isV (some (i, a)) [1] && !worksV (some (i, a)) && l.held && l.ev.dst == e.actor then
      let plan := planV a.k.sts a.state l.ev.name l.ev.n
      if plan.stash != (e.kd == 5) then (3, bk)
      else if (!l.ev.timed && !l.arrived) && (bk.lts.take j).any (earlierV l) then (4, bk)
      else if e.kd = 3 then (0, (bk.setL j { l with arrived := true, held := false }).setA i { a with work := some j, plan := plan })
      else (0, bk.setL j { l with arrived := true })
    else (3, bk)
  | _, _ => (3, bk)
def endV (bk : Bk) (e : Ev) : Int × Bk := match acV bk.acs e.actor with
  | some (i, a) => match a.work.bind fun j => bk.lts[j]? with
    | some l => if l.ev.id == e.id && a.plan.state.toList == e.name.toList then (0, bk.setA i { a with work := none, state := e.name }) else (5, bk)
    | none => (5, bk)
  | none => (5, bk)
def deadV (bk : Bk) (e : Ev) : Int × Bk := match ltV bk.lts e.id with
  | some (j, l) =>
    if l.held && l.ev.dst == e.dst && (decide (1 ≤ e.why) && decide (e.why ≤ 5) && ((e.why == 3) == (e.dst == 0))) && (e.why != 2 || isV (acV bk.acs e.dst) [4, 5]) && ((e.why != 4 || l.ev.timed) && (e.why != 5 || l.notice))
    then (0, bk.setL j { l with held := false }) else (6, bk)
  | none => (6, bk)
def spawnedV (ks : List Kf) (bk : Bk) (e : Ev) : Int × Bk :=
  let first := bk.acs.isEmpty
  let root := e.actor == 1 && e.src == 0 && (ks.head?.any fun k => e.name.toList == k.name.toList)
  let n := brokenV [⟨1, (first == (e.src == 0)) && (!first || root)⟩, ⟨7, first || (e.actor == (bk.acs.length : Int) + 1 && worksV (acV bk.acs e.src))⟩, ⟨7, (findV ks e.name).isSome⟩]
  if n = 0 then (0, { bk with acs := bk.acs ++ [⟨e.src, foundV ks e.name, ((foundV ks e.name).sts.head?.map (·.name)).getD noS, 1, none, ⟨false, [], noS, false, noS⟩, noS, false, 0⟩] }) else (n, bk)
def noRoomV (ks : List Kf) (bk : Bk) (e : Ev) : Int × Bk := (if (findV ks e.name).isSome && worksV (acV bk.acs e.actor) then 0 else 7, bk)
def failedV (bk : Bk) (e : Ev) : Int × Bk := match acV bk.acs e.actor with
  | some (i, a) => if isV (some (i, a)) [1] && !worksV (some (i, a)) then (0, bk.setA i { a with mode := 2, open_ := e.name, failed := true }) else (8, bk)
  | none => (8, bk)
def toldV (bk : Bk) (e : Ev) : Int × Bk := match acV bk.acs e.actor, acV bk.acs e.src with
  | some (i, a), some (_, up) =>
    if a.parent == e.src && isV (some (0, up)) [1, 2] && a.failed && a.open_.toList == e.name.toList then
      let d := dirV up.k.cases e.name
      if e.why == d || (d == 2 && e.why == 3) then (0, bk.setA i { a with failed := false, told := e.why }) else (9, bk)
    else (9, bk)
  | _, _ => (9, bk)
def resumedV (bk : Bk) (e : Ev) : Int × Bk := match acV bk.acs e.actor with
  | some (i, a) => if isV (some (i, a)) [2] && (a.told == 1 || a.told == 4) then (0, bk.setA i { a with mode := 1, told := 0 }) else (10, bk)
  | none => (10, bk)
def restartedV (bk : Bk) (e : Ev) : Int × Bk := match acV bk.acs e.actor with
  | some (i, a) => if isV (some (i, a)) [2] && a.told == 2 && aloneV bk.acs e.actor then (0, bk.setA i { a with mode := 1, told := 0, state := (a.k.sts.head?.map (·.name)).getD noS }) else (11, bk)
  | none => (11, bk)
def stoppingV (bk : Bk) (e : Ev) : Int × Bk := match acV bk.acs e.actor with
  | some (i, a) => if isV (some (i, a)) [1, 2] && !worksV (some (i, a)) then (0, bk.setA i { a with mode := 4 }) else (12, bk)
  | none => (12, bk)
def endedV (bk : Bk) (e : Ev) : Int × Bk := match acV bk.acs e.actor with
  | some (i, a) => if isV (some (i, a)) [4] && aloneV bk.acs e.actor then (0, bk.setA i { a with mode := 5 }) else (13, bk)
  | none => (13, bk)
def tickV (bk : Bk) (e : Ev) : Int × Bk := if e.n = bk.ticks + 1 then (0, { bk with ticks := bk.ticks + 1 }) else (14, bk)
def ruleV (ks : List Kf) (bk : Bk) (e : Ev) : Int × Bk :=
  if e.kd = 1 then (0, bk) else if e.kd = 2 then sentV bk e else if e.kd = 3 then startV bk e else if e.kd = 4 then endV bk e else if e.kd = 5 then startV bk e else if e.kd = 6 then deadV bk e
  else if e.kd = 7 then spawnedV ks bk e else if e.kd = 8 then noRoomV ks bk e else if e.kd = 9 then failedV bk e else if e.kd = 10 then toldV bk e else if e.kd = 11 then resumedV bk e
  else if e.kd = 12 then restartedV bk e else if e.kd = 13 then stoppingV bk e else if e.kd = 14 then endedV bk e else tickV bk e

/-! ### written over -/
theorem KOwn.frm90 {w w' : World} {base g : Nat} {k : Kf} {cs : List Value} (h : KOwn w base k) (hb : Blk w g 90 cs) (hf : Frm (fun x => x = g) w w') : KOwn w' base k := by
  refine ⟨own_frm h.cases hf (fun b hb' e => ?_), own_frm h.sts hf (fun b hb' e => ?_), fun s hs => ⟨own_frm (h.all s hs).1 hf (fun b hb' e => ?_), fun r hr => own_frm ((h.all s hs).2 r hr) hf (fun b hb' e => ?_)⟩⟩
  · obtain ⟨cs', hbk⟩ := own_at h.cases hb'
    exact hbk.ne hb (by decide) e
  · obtain ⟨cs', hbk⟩ := own_at h.sts hb'
    exact hbk.ne hb (by decide) e
  · obtain ⟨cs', hbk⟩ := own_at (h.all s hs).1 hb'
    exact hbk.ne hb (by decide) e
  · obtain ⟨cs', hbk⟩ := own_at ((h.all s hs).2 r hr) hb'
    exact hbk.ne hb (by decide) e
theorem set_at {α : Type} {l : List α} {i j : Nat} {x y : α} (h : (l.set i x)[j]? = some y) : (i = j ∧ y = x) ∨ (i ≠ j ∧ l[j]? = some y) := by
  by_cases hij : i = j
  · subst hij
    have hl : i < l.length := by have := (List.getElem?_eq_some_iff.1 h).1; simpa using this
    rw [List.getElem?_set_self hl] at h
    cases h
    exact .inl ⟨rfl, rfl⟩
  · rw [List.getElem?_set_ne hij] at h
    exact .inr ⟨hij, h⟩
section
variable {w w' : World} {base gb ca cl : Nat} {pv : Value} {Aa Al : Option Addr} {bk : Bk} {ag lg : List Nat}
theorem BookAt.setA (h : BookAt w base gb pv Aa ca Al cl bk ag lg) {i g : Nat} {a a' : Ac} (hx : bk.acs[i]? = some a) (hg : ag[i]? = some g) (hf : Frm (fun x => x = g) w w') (ha : ActorAt w' base lg g i a')
    (hw : ∀ j, a'.work = some j → j < bk.lts.length) (hk : a'.k = a.k) : BookAt w' base gb pv Aa ca Al cl (bk.setA i a') ag lg := by
  obtain ⟨k0, A0, n0, c0, hb0, -, -⟩ := h.ac i a g hx hg
  refine ⟨h.blk.frm hf (h.blk.ne hb0 (by decide)), h.hb, own_frm h.oa hf (fun b hb e => ?_), own_frm h.ol hf (fun b hb e => ?_), by simp [Bk.setA, h.la], h.ll, h.nda, h.ndl, h.ga, h.gl, ?_, ?_, ?_, ?_⟩
  · obtain ⟨cs', hbk⟩ := own_at h.oa hb
    exact hbk.ne hb0 (by decide) e
  · obtain ⟨cs', hbk⟩ := own_at h.ol hb
    exact hbk.ne hb0 (by decide) e
  · intro j b gj hj hgj
    rcases set_at hj with ⟨rfl, rfl⟩ | ⟨hij, hj'⟩
    · rw [hg] at hgj; cases hgj; exact ha
    · obtain ⟨k1, A1, n1, c1, hb1, hs1, ho1⟩ := h.ac j b gj hj' hgj
      have hne : gj ≠ g := fun e => hij (nodup_at h.nda hg (e ▸ hgj))
      exact ⟨k1, A1, n1, c1, hb1.frm hf hne, hs1, ho1.frm90 hb0 hf⟩
  · intro j l gj hj hgj
    have hb1 := h.lt j l gj hj hgj
    exact hb1.frm hf (hb1.ne hb0 (by decide))
  · intro b hb j hj
    rcases List.mem_or_eq_of_mem_set hb with hb | rfl
    · exact h.wk b hb j hj
    · exact hw j hj
  · intro b hb
    rcases List.mem_or_eq_of_mem_set hb with hb | rfl
    · exact h.kf b hb
    · rw [hk]; exact h.kf a (List.mem_of_getElem? hx)
/-- The whole of it, wherever it lies. -/
def Kept (w : World) (base gb : Nat) (pv : Value) (bk : Bk) : Prop := ∃ Aa ca Al cl ag lg, BookAt w base gb pv Aa ca Al cl bk ag lg
theorem Kept.below (h : Kept w base gb pv bk) (hb : Below w.heap.size w w') : Kept w' base gb pv bk := by
  obtain ⟨Aa, ca, Al, cl, ag, lg, h⟩ := h
  exact ⟨Aa, ca, Al, cl, ag, lg, h.below hb⟩
end
end Go.Proofs.Ytkjjhndccelbcaa
