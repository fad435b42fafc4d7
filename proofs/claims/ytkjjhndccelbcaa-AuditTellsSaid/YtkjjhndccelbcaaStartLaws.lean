/- A kind's copy has the same plans; a plan that was made, in memory. -/
import Derived.Test.YtkjjhndccelbcaaSetL
namespace Go.Proofs.Ytkjjhndccelbcaa
open Go.RowKit Go.Maps Go.Troupe

theorem find_all2 {α β : Type} {R : α → β → Prop} {p : α → Bool} {q : β → Bool} (hq : ∀ x y, R x y → q y = p x) {l : List α} {l' : List β} (h : All2 R l l') :
    (l.find? p = none ∧ l'.find? q = none) ∨ ∃ x y, l.find? p = some x ∧ l'.find? q = some y ∧ R x y := by
  induction h with
  | nil => exact .inl ⟨rfl, rfl⟩
  | @cons x y l l' hxy _ ih =>
    rw [List.find?_cons, List.find?_cons, hq x y hxy]
    cases hp : p x with
    | true => exact .inr ⟨x, y, rfl, rfl, hxy⟩
    | false => exact ih
theorem plan_same {k k' : Kf} (h : SameK k k') (st tag : ByteArray) (n : Int) : planV k'.sts st tag n = planV k.sts st tag n := by
  unfold planV rowV
  rcases find_all2 (p := nameV st) (q := nameV st) (fun x y hxy => by unfold nameV; rw [hxy.name]) h.sts with ⟨h1, h2⟩ | ⟨s, s', h1, h2, hss⟩
  · rw [h1, h2]
  · rw [h1, h2]
    dsimp only [Option.bind_some]
    rcases find_all2 (p := fitsV tag n) (q := fitsV tag n) (fun x y hxy => by unfold fitsV; rw [hxy.tag, hxy.only, hxy.n]) hss.rows with ⟨h3, h4⟩ | ⟨r, r', h3, h4, hrr⟩
    · rw [h3, h4]
    · rw [h3, h4]
      dsimp only
      rw [hrr.effs]
def Pl.cells (p : Pl) (A : Option Addr) (c : Nat) : List Value := [.bool p.stash, .slice A p.effs.length c, .string p.state, .bool p.stop, .string p.fail]
/-- A plan that was made: where it lies. -/
def PlanMade (pl : Pl) (w : World) (v : Value) (w' : World) : Prop :=
  ∃ (gp : Nat) (A : Option Addr) (c : Nat), v = .pointer (some ⟨gp, 0, none⟩) ∧ Blk w' gp 87 (pl.cells A c) ∧ Up w w'
end Go.Proofs.Ytkjjhndccelbcaa
