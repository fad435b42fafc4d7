/- ActNamed, the plain law: with states named anew the plans are the same, but for their states. -/
import Derived.Test.YtfeeajodgcdflaaDo
namespace Go.Proofs.Ytfeeajodgcdflaa
open Go.RowKit Go.Maps Go.Troupe

def qn (s : ByteArray) : ByteArray := (⟨#[113]⟩ : ByteArray) ++ s
theorem qn_list (s : ByteArray) : (qn s).toList = 113 :: s.toList := by
  unfold qn
  rw [ByteArray.toList_eq, ByteArray.toList_eq, ByteArray.data_append]
  simp
theorem qn_size (s : ByteArray) : (qn s).size = s.size + 1 := by
  unfold qn
  rw [ByteArray.size_append]
  have : (⟨#[113]⟩ : ByteArray).size = 1 := rfl
  omega
theorem qn_beq (a b : ByteArray) : ((qn a).toList == (qn b).toList) = (a.toList == b.toList) := by
  rw [qn_list, qn_list]
  rw [Bool.eq_iff_iff]
  simp
def nmE (e : Eff) : Eff := if e.d = 3 then { e with name := qn e.name } else e
theorem nmE_d (e : Eff) : (nmE e).d = e.d := by unfold nmE; split <;> rfl
inductive All2 {α β : Type} (R : α → β → Prop) : List α → List β → Prop
  | nil : All2 R [] []
  | cons {x : α} {y : β} {l : List α} {l' : List β} : R x y → All2 R l l' → All2 R (x :: l) (y :: l')
theorem All2.len {α β : Type} {R : α → β → Prop} {l : List α} {l' : List β} (h : All2 R l l') : l'.length = l.length := by
  induction h with
  | nil => rfl
  | cons _ _ ih => rw [List.length_cons, List.length_cons, ih]
theorem All2.snoc {α β : Type} {R : α → β → Prop} {l : List α} {l' : List β} (h : All2 R l l') {x : α} {y : β} (hxy : R x y) : All2 R (l ++ [x]) (l' ++ [y]) := by
  induction h with
  | nil => exact .cons hxy .nil
  | cons h1 _ ih => exact .cons h1 ih
theorem All2.mem {α β : Type} {R : α → β → Prop} {l : List α} {l' : List β} (h : All2 R l l') {y : β} (hy : y ∈ l') : ∃ x, x ∈ l ∧ R x y := by
  induction h with
  | nil => cases hy
  | @cons x0 y0 l l' h1 _ ih =>
    rcases List.mem_cons.1 hy with rfl | hy
    · exact ⟨x0, List.mem_cons_self .., h1⟩
    · obtain ⟨x, hx, hr⟩ := ih hy
      exact ⟨x, List.mem_cons_of_mem _ hx, hr⟩
structure RelR (r r' : Rw) : Prop where
  tag : r'.tag = r.tag
  only : r'.only = r.only
  n : r'.n = r.n
  effs : r'.effs = r.effs.map nmE
structure RelS (s s' : St) : Prop where
  name : s'.name = qn s.name
  rows : All2 RelR s.rows s'.rows

theorem find_rel {α β : Type} {R : α → β → Prop} {p : α → Bool} {q : β → Bool} {l : List α} {l' : List β} (h : All2 R l l') (hp : ∀ x y, R x y → q y = p x) :
    (l.find? p = none ∧ l'.find? q = none) ∨ ∃ x y, l.find? p = some x ∧ l'.find? q = some y ∧ R x y := by
  induction h with
  | nil => exact .inl ⟨rfl, rfl⟩
  | @cons x y l l' hxy _ ih =>
    rw [List.find?_cons, List.find?_cons, hp x y hxy]
    cases p x with
    | true => exact .inr ⟨x, y, rfl, rfl, hxy⟩
    | false => exact ih
def nmP (p : Pl) : Pl := { p with state := qn p.state }
theorem doGo_nm (n : Int) (st0 : ByteArray) : ∀ (l : List Eff) (first : Bool) (p : Pl), doGo n (qn st0) first (l.map nmE) (nmP p) = nmP (doGo n st0 first l p)
  | [], first, p => rfl
  | e :: l, first, p => by
    rw [List.map_cons, doGo, doGo, nmE_d]
    by_cases h4 : e.d = 4
    · rw [if_pos h4, if_pos h4]
      cases first with
      | true => rfl
      | false => exact doGo_nm n st0 l false p
    rw [if_neg h4, if_neg h4]
    by_cases h3 : e.d = 3
    · rw [if_pos h3, if_pos h3]
      have : nmE e = { e with name := qn e.name } := by unfold nmE; rw [if_pos h3]
      rw [this]
      exact doGo_nm n st0 l false { p with state := e.name }
    rw [if_neg h3, if_neg h3]
    have hn : nmE e = e := by unfold nmE; rw [if_neg h3]
    rw [hn]
    by_cases h11 : e.d = 11
    · rw [if_pos h11, if_pos h11]; rfl
    rw [if_neg h11, if_neg h11]
    by_cases h12 : e.d = 12
    · rw [if_pos h12, if_pos h12]; rfl
    rw [if_neg h12, if_neg h12]
    by_cases h18 : e.d = 1 ∨ e.d = 8
    · rw [if_pos h18, if_pos h18]
      exact doGo_nm n st0 l false { p with effs := p.effs ++ [{ e with n := numV e n, v := 2 }] }
    · rw [if_neg h18, if_neg h18]
      exact doGo_nm n st0 l false { p with effs := p.effs ++ [e] }
theorem fits_nm (tag : ByteArray) (n : Int) (x y : Rw) (h : RelR x y) : fitsV tag n y = fitsV tag n x := by
  unfold fitsV
  rw [h.tag, h.only, h.n]
theorem plan_named {sts sts' : List St} (h : All2 RelS sts sts') (state tag : ByteArray) (n : Int) : planV sts' (qn state) tag n = nmP (planV sts state tag n) := by
  unfold planV rowV
  rcases find_rel (p := nameV state) (q := nameV (qn state)) h (fun x y hxy => by unfold nameV; rw [hxy.name, qn_beq]) with ⟨h1, h2⟩ | ⟨s, s', h1, h2, hs⟩
  · rw [h1, h2]; rfl
  · rw [h1, h2]
    dsimp only [Option.bind]
    rcases find_rel (p := fitsV tag n) (q := fitsV tag n) hs.rows (fun x y hxy => fits_nm tag n x y hxy) with ⟨h3, h4⟩ | ⟨r, r', h3, h4, hr⟩
    · rw [h3, h4]; rfl
    · rw [h3, h4]
      dsimp only
      rw [hr.effs]
      exact doGo_nm n state r.effs true ⟨false, [], state, false, noS⟩
/-! how long a plan's state can be -/
def NamesE (l : List Eff) : Prop := ∀ e ∈ l, e.name.size ≤ 140737488355328
def NamesS (l : List St) : Prop := ∀ s ∈ l, s.name.size ≤ 140737488355328 ∧ ∀ r ∈ s.rows, NamesE r.effs
theorem doGo_size (n : Int) (st0 : ByteArray) (h0 : st0.size ≤ 140737488355328) : ∀ (l : List Eff) (first : Bool) (p : Pl), NamesE l → p.state.size ≤ 140737488355328 → (doGo n st0 first l p).state.size ≤ 140737488355328
  | [], first, p, _, hp => hp
  | e :: l, first, p, hl, hp => by
    have hl' : NamesE l := fun x hx => hl x (List.mem_cons_of_mem _ hx)
    have he := hl e (List.mem_cons_self ..)
    rw [doGo]
    split
    · split
      · exact h0
      · exact doGo_size n st0 h0 l _ _ hl' hp
    · split
      · exact doGo_size n st0 h0 l _ _ hl' he
      · split
        · exact hp
        · split
          · exact hp
          · split
            · exact doGo_size n st0 h0 l _ _ hl' hp
            · exact doGo_size n st0 h0 l _ _ hl' hp
theorem plan_size {sts : List St} (h : NamesS sts) (state tag : ByteArray) (n : Int) (h0 : state.size ≤ 140737488355328) : (planV sts state tag n).state.size ≤ 140737488355328 := by
  unfold planV
  split
  · exact h0
  · rename_i r hr
    unfold rowV at hr
    obtain ⟨s, hs, hr⟩ := Option.bind_eq_some_iff.1 hr
    have hsm := List.mem_of_find?_eq_some hs
    have hrm := List.mem_of_find?_eq_some hr
    exact doGo_size n state h0 _ _ _ ((h s hsm).2 r hrm) h0
end Go.Proofs.Ytfeeajodgcdflaa
