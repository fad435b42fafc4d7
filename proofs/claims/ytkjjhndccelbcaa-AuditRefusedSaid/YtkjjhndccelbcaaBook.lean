/- Events, messages, actors and the book, as Lean data and as they lie in memory. -/
import Derived.Test.YtkjjhndccelbcaaFind
import Derived.Test.YtkjjhndccelbcaaGen
import Derived.Test.YtkjjhndccelbcaaUp
namespace Go.Proofs.Ytkjjhndccelbcaa
open Go.RowKit Go.Maps Go.Troupe

structure Ev where
  kd : Int
  actor : Int
  id : Int
  src : Int
  dst : Int
  name : ByteArray
  n : Int
  why : Int
  timed : Bool
def Ev.cells (e : Ev) : List Value := [.int .i64 e.kd, .int .i64 e.actor, .int .u64 e.id, .int .i64 e.src, .int .i64 e.dst, .string e.name, .int .i64 e.n, .int .i64 e.why, .bool e.timed]
def flatV (l : List Ev) : List Value := l.flatMap Ev.cells
theorem flatV_length (l : List Ev) : (flatV l).length = l.length * 9 := by
  induction l with
  | nil => rfl
  | cons x l ih => simp [flatV, Ev.cells] at ih ⊢; omega
/-- The numbers are what their types hold. -/
structure EvOk (e : Ev) : Prop where
  kd : -9223372036854775808 ≤ e.kd ∧ e.kd ≤ 9223372036854775807
  actor : -9223372036854775808 ≤ e.actor ∧ e.actor ≤ 9223372036854775807
  id : 0 ≤ e.id ∧ e.id < 18446744073709551616
  src : -9223372036854775808 ≤ e.src ∧ e.src ≤ 9223372036854775807
  dst : -9223372036854775808 ≤ e.dst ∧ e.dst ≤ 9223372036854775807
  n : -9223372036854775808 ≤ e.n ∧ e.n ≤ 9223372036854775807
structure Lt where
  ev : Ev
  notice : Bool
  arrived : Bool
  held : Bool
def Lt.cells (l : Lt) : List Value := [.int .i64 l.ev.kd, .int .i64 l.ev.actor, .int .u64 l.ev.id, .int .i64 l.ev.src, .int .i64 l.ev.dst, .string l.ev.name, .int .i64 l.ev.n, .int .i64 l.ev.why, .bool l.ev.timed, .bool l.notice, .bool l.arrived, .bool l.held]
structure Ac where
  parent : Int
  k : Kf
  state : ByteArray
  mode : Int
  work : Option Nat
  plan : Pl
  open_ : ByteArray
  failed : Bool
  told : Int
structure Bk where
  acs : List Ac
  lts : List Lt
  ticks : Int
def gptr (l : List Nat) (j : Option Nat) : Value := .pointer ((j.bind fun i => l[i]?).map fun g => ⟨g, 0, none⟩)
def Ac.cells (a : Ac) (i : Nat) (k' : Kf) (wp v : Value) : List Value :=
  [.int .i64 (i + 1 : Nat), .int .i64 a.parent, .string k'.name, .int .i64 k'.limit, .int .i64 k'.within, .slice k'.Ac k'.cases.length k'.cc, .slice k'.A k'.sts.length k'.cap, .string a.state, .int .i64 a.mode, wp,
    .bool a.plan.stash, v, .string a.plan.state, .bool a.plan.stop, .string a.plan.fail, .string a.open_, .bool a.failed, .int .i64 a.told]
/-- An actor in memory. -/
def ActorAt (w : World) (base : Nat) (lg : List Nat) (g i : Nat) (a : Ac) : Prop :=
  ∃ (k' : Kf) (A : Option Addr) (n c : Nat), Blk w g 90 (a.cells i k' (gptr lg a.work) (.slice A n c)) ∧ SameK a.k k' ∧ KOwn w base k'
/-- The book in memory. -/
structure BookAt (w : World) (base gb : Nat) (pv : Value) (Aa : Option Addr) (ca : Nat) (Al : Option Addr) (cl : Nat) (bk : Bk) (ag lg : List Nat) : Prop where
  blk : Blk w gb 49 [pv, .slice Aa ag.length ca, .slice Al lg.length cl, .int .i64 bk.ticks]
  hb : base ≤ gb
  oa : w.ownsRow base 76 1 (.slice Aa ag.length ca) ag.length (flatP ag)
  ol : w.ownsRow base 82 1 (.slice Al lg.length cl) lg.length (flatP lg)
  la : ag.length = bk.acs.length
  ll : lg.length = bk.lts.length
  nda : ag.Nodup
  ndl : lg.Nodup
  ga : ∀ g ∈ ag, base ≤ g
  gl : ∀ g ∈ lg, base ≤ g
  ac : ∀ (i : Nat) (a : Ac) (g : Nat), bk.acs[i]? = some a → ag[i]? = some g → ActorAt w base lg g i a
  lt : ∀ (i : Nat) (l : Lt) (g : Nat), bk.lts[i]? = some l → lg[i]? = some g → Blk w g 84 l.cells
  wk : ∀ a ∈ bk.acs, ∀ j, a.work = some j → j < bk.lts.length
  kf : ∀ a ∈ bk.acs, a.k.sts ≠ [] ∧ ∃ w0 B, KfIn w0 B a.k
theorem ActorAt.below {w w' : World} {base g i : Nat} {lg : List Nat} {a : Ac} (h : ActorAt w base lg g i a) (hb : Below w.heap.size w w') : ActorAt w' base lg g i a := by
  obtain ⟨k', A, n, c, h1, h2, h3⟩ := h
  exact ⟨k', A, n, c, h1.below hb h1.lt, h2, h3.below hb⟩
section
variable {w w' : World} {base gb ca cl : Nat} {pv : Value} {Aa Al : Option Addr} {bk : Bk} {ag lg : List Nat}
theorem BookAt.below (h : BookAt w base gb pv Aa ca Al cl bk ag lg) (hb : Below w.heap.size w w') : BookAt w' base gb pv Aa ca Al cl bk ag lg :=
  ⟨h.blk.below hb h.blk.lt, h.hb, own_below h.oa hb, own_below h.ol hb, h.la, h.ll, h.nda, h.ndl, h.ga, h.gl, fun i a g h1 h2 => (h.ac i a g h1 h2).below hb, fun i l g h1 h2 => (h.lt i l g h1 h2).below hb (h.lt i l g h1 h2).lt, h.wk, h.kf⟩
end
/-! ### who and what -/
def acV (l : List Ac) (id : Int) : Option (Nat × Ac) := if id < 1 ∨ (l.length : Int) < id then none else (l[(id - 1).toNat]?).map fun a => ((id - 1).toNat, a)
def ltV (l : List Lt) (id : Int) : Option (Nat × Lt) := if id < 1 ∨ (l.length : Int) < id then none else (l[(id - 1).toNat]?).map fun a => ((id - 1).toNat, a)
theorem acV_cases (l : List Ac) (id : Int) : (acV l id = none ∧ (id < 1 ∨ (l.length : Int) < id)) ∨ ∃ (i : Nat) (a : Ac), acV l id = some (i, a) ∧ id = (i : Int) + 1 ∧ l[i]? = some a ∧ i < l.length := by
  unfold acV
  by_cases h : id < 1 ∨ (l.length : Int) < id
  · rw [if_pos h]; exact .inl ⟨rfl, h⟩
  · rw [if_neg h]
    have hi : (id - 1).toNat < l.length := by omega
    exact .inr ⟨(id - 1).toNat, l[(id - 1).toNat], by rw [List.getElem?_eq_getElem hi]; rfl, by omega, List.getElem?_eq_getElem hi, hi⟩
theorem ltV_cases (l : List Lt) (id : Int) : (ltV l id = none ∧ (id < 1 ∨ (l.length : Int) < id)) ∨ ∃ (i : Nat) (a : Lt), ltV l id = some (i, a) ∧ id = (i : Int) + 1 ∧ l[i]? = some a ∧ i < l.length := by
  unfold ltV
  by_cases h : id < 1 ∨ (l.length : Int) < id
  · rw [if_pos h]; exact .inl ⟨rfl, h⟩
  · rw [if_neg h]
    have hi : (id - 1).toNat < l.length := by omega
    exact .inr ⟨(id - 1).toNat, l[(id - 1).toNat], by rw [List.getElem?_eq_getElem hi]; rfl, by omega, List.getElem?_eq_getElem hi, hi⟩
def aptr (ag : List Nat) (x : Option (Nat × Ac)) : Value := gptr ag (x.map (·.1))
def lptr (lg : List Nat) (x : Option (Nat × Lt)) : Value := gptr lg (x.map (·.1))
set_option maxRecDepth 100000 in
theorem actor_any {w : World} {base gb ca cl : Nat} {pv : Value} {Aa Al : Option Addr} {bk : Bk} {ag lg : List Nat} (h : BookAt w base gb pv Aa ca Al cl bk ag lg) (id : Int) (hl : bk.acs.length ≤ 140737488355328) :
    Calls Try.prog 35 #[.pointer (some ⟨gb, 0, none⟩), .int .i64 id] w fun e w' => e = .returned (aptr ag (acV bk.acs id)) ∧ w = w' := by
  have e0 := h.blk.cell
  have la := h.la
  have HB := Troupe.hid h
  rcases acV_cases bk.acs id with ⟨hv, hc⟩ | ⟨i, a, hv, rfl, hx, hi⟩
  · rw [hv]
    clear h hv
    by_cases h1 : id < 1
    · go_enter Try.func35, Try.ntmps35
      go_wp2_with fail
      go_ret
      exact ⟨rfl, rfl⟩
    · have h2 : (ag.length : Int) < id := by omega
      have h1' : 1 ≤ id := by omega
      clear hc la
      go_enter Try.func35, Try.ntmps35
      go_wp2_with fail
      go_ret
      exact ⟨rfl, rfl⟩
  · rw [hv]
    obtain ⟨g, hg⟩ : ∃ g, ag[i]? = some g := ⟨_, List.getElem?_eq_getElem (by omega)⟩
    have hA : aptr ag (some (i, a)) = .pointer (some ⟨g, 0, none⟩) := by unfold aptr gptr; simp [hg]
    rw [hA]
    obtain ⟨b, o, rfl, _, hc⟩ := cells_at (sz := 1) (fun _ => rfl) (by decide) (own_cells h.oa) hg
    have d0 : w.cell? ⟨b, o + i, none⟩ = some (.pointer (some ⟨g, 0, none⟩)) := by have := hc 0 (by decide) _ rfl; rwa [Nat.mul_one, Nat.add_zero] at this
    have hi3 : i < 140737488355328 := by omega
    have h1 : ¬ ((i : Int) + 1 < 1) := by omega
    have h2 : ¬ ((ag.length : Int) < (i : Int) + 1) := by omega
    have hi' : i < ag.length := by omega
    have h3 : (1 : Int) ≤ (i : Int) + 1 := by omega
    have h4 : (i : Int) + 1 ≤ (ag.length : Int) := by omega
    clear h hv la hA hc hg hx hi
    go_enter Try.func35, Try.ntmps35
    go_wp2_with fail
    go_ret
    exact ⟨rfl, rfl⟩
end Go.Proofs.Ytkjjhndccelbcaa
