/- The tree's members, in plain Lean. -/
import Derived.Test.YtmdiagcmfcjleaaChecked
import Derived.Test.YtmdiagcmfcjleaaMem
import Derived.Lib.SliceRun
import Derived.Deep.CutRange
import Derived.Deep.CutBlock
namespace Go.Proofs.Ytmdiagcmfcjleaa
open Go.RowKit Go.Maps Go.Troupe

/-- a member: its number, its parent's -/
abbrev Mb := Int × Int
def kidsV (M : List Mb) (id : Int) : List Int := (M.filter fun x => x.2 == id).map (·.1)
def hasV (M : List Mb) (id : Int) : Bool := M.any fun x => x.1 == id
def addV (M : List Mb) (par id : Int) : List Mb × Int :=
  if id < 1 then (M, 1) else if hasV M id = true then (M, 3) else if par = 0 ∧ M ≠ [] then (M, 4) else if par ≠ 0 ∧ hasV M par = false then (M, 2) else (M ++ [(id, par)], 0)
def cutV (M : List Mb) (id : Int) : List Mb × Int :=
  if hasV M id = false then (M, 2) else if kidsV M id ≠ [] then (M, 6) else (M.filter (fun x => x.1 != id), 0)
/-- Members in the order in which they came: the first is the root, each other one's parent came ahead of it. -/
def Vd : List Int → List Mb → Prop
  | _, [] => True
  | seen, x :: l => 1 ≤ x.1 ∧ x.1 ∉ seen ∧ ((seen = [] ∧ x.2 = 0) ∨ x.2 ∈ seen) ∧ Vd (x.1 :: seen) l

theorem hasV_iff {M : List Mb} {id : Int} : hasV M id = true ↔ ∃ x ∈ M, x.1 = id := by
  simp [hasV, List.any_eq_true]
theorem hasV_not {M : List Mb} {id : Int} : hasV M id = false ↔ ∀ x ∈ M, x.1 ≠ id := by
  rw [← Bool.not_eq_true, hasV_iff]
  constructor
  · exact fun h x hx e => h ⟨x, hx, e⟩
  · rintro h ⟨x, hx, e⟩; exact h x hx e
theorem mem_kidsV {M : List Mb} {id k : Int} : k ∈ kidsV M id ↔ (k, id) ∈ M := by
  unfold kidsV
  constructor
  · intro h
    obtain ⟨x, hx, rfl⟩ := List.mem_map.1 h
    obtain ⟨h1, h2⟩ := List.mem_filter.1 hx
    have : x.2 = id := by simpa using h2
    subst this
    exact h1
  · intro h
    exact List.mem_map.2 ⟨(k, id), List.mem_filter.2 ⟨h, by simp⟩, rfl⟩
theorem Vd.pos : ∀ {M : List Mb} {seen : List Int}, Vd seen M → ∀ x ∈ M, 1 ≤ x.1
  | [], _, _, x, hx => by simp at hx
  | y :: l, seen, ⟨h1, _, _, h4⟩, x, hx => by
    rcases List.mem_cons.1 hx with rfl | hx
    · exact h1
    · exact h4.pos x hx
theorem Vd.fresh : ∀ {M : List Mb} {seen : List Int}, Vd seen M → ∀ x ∈ M, x.1 ∉ seen
  | [], _, _, x, hx => by simp at hx
  | y :: l, seen, ⟨_, h2, _, h4⟩, x, hx => by
    rcases List.mem_cons.1 hx with rfl | hx'
    · exact h2
    · exact fun h => h4.fresh x hx' (List.mem_cons_of_mem _ h)
theorem Vd.inj : ∀ {M : List Mb} {seen : List Int}, Vd seen M → ∀ x ∈ M, ∀ y ∈ M, x.1 = y.1 → x = y
  | [], _, _, x, hx, _, _, _ => by simp at hx
  | z :: l, seen, ⟨_, h2, _, h4⟩, x, hx, y, hy, he => by
    rcases List.mem_cons.1 hx with hx' | hx'
    · rcases List.mem_cons.1 hy with hy' | hy'
      · rw [hx', hy']
      · exact absurd (by rw [← he, hx']; exact List.mem_cons_self) (h4.fresh y hy')
    · rcases List.mem_cons.1 hy with hy' | hy'
      · exact absurd (by rw [he, hy']; exact List.mem_cons_self) (h4.fresh x hx')
      · exact h4.inj x hx' y hy' he
/-- A parent is the root's none, or was seen, or is a member. -/
theorem Vd.par : ∀ {M : List Mb} {seen : List Int}, Vd seen M → ∀ x ∈ M, (seen = [] ∧ x.2 = 0) ∨ x.2 ∈ seen ∨ ∃ y ∈ M, y.1 = x.2
  | [], _, _, x, hx => by simp at hx
  | z :: l, seen, ⟨_, h2, h3, h4⟩, x, hx => by
    rcases List.mem_cons.1 hx with rfl | hx
    · rcases h3 with h | h
      · exact .inl h
      · exact .inr (.inl h)
    · rcases h4.par x hx with ⟨h, _⟩ | h | ⟨y, hy, h⟩
      · cases h
      · rcases List.mem_cons.1 h with h | h
        · exact .inr (.inr ⟨z, List.mem_cons_self, h.symm⟩)
        · exact .inr (.inl h)
      · exact .inr (.inr ⟨y, List.mem_cons_of_mem _ hy, h⟩)
theorem Vd.snoc : ∀ {M : List Mb} {seen : List Int} {x : Mb}, Vd seen M → 1 ≤ x.1 → x.1 ∉ seen → (∀ y ∈ M, y.1 ≠ x.1) → ((seen = [] ∧ M = [] ∧ x.2 = 0) ∨ x.2 ∈ seen ∨ ∃ y ∈ M, y.1 = x.2) → Vd seen (M ++ [x])
  | [], seen, x, _, h1, h2, _, h4 => by
    refine ⟨h1, h2, ?_, trivial⟩
    rcases h4 with ⟨h, _, h'⟩ | h | ⟨y, hy, _⟩
    · exact .inl ⟨h, h'⟩
    · exact .inr h
    · simp at hy
  | z :: l, seen, x, ⟨g1, g2, g3, g4⟩, h1, h2, h3, h4 => by
    refine ⟨g1, g2, g3, g4.snoc h1 ?_ (fun y hy => h3 y (List.mem_cons_of_mem _ hy)) ?_⟩
    · intro h
      rcases List.mem_cons.1 h with h | h
      · exact h3 z List.mem_cons_self h.symm
      · exact h2 h
    · rcases h4 with ⟨_, h, _⟩ | h | ⟨y, hy, h⟩
      · cases h
      · exact .inr (.inl (List.mem_cons_of_mem _ h))
      · rcases List.mem_cons.1 hy with rfl | hy
        · exact .inr (.inl (by rw [← h]; exact List.mem_cons_self))
        · exact .inr (.inr ⟨y, hy, h⟩)
theorem Vd.filter : ∀ {M : List Mb} {seen : List Int} {id : Int}, Vd seen M → (∀ x ∈ M, x.2 ≠ id) → Vd (seen.filter (· != id)) (M.filter fun x => x.1 != id)
  | [], _, _, _, _ => trivial
  | z :: l, seen, id, ⟨g1, g2, g3, g4⟩, hl => by
    have ih := g4.filter (id := id) (fun x hx => hl x (List.mem_cons_of_mem _ hx))
    by_cases hz : z.1 = id
    · rw [List.filter_cons_of_neg (by simp [hz])]
      rw [List.filter_cons_of_neg (by simp [hz])] at ih
      exact ih
    · rw [List.filter_cons_of_pos (by simp [hz])]
      rw [List.filter_cons_of_pos (by simp [hz])] at ih
      refine ⟨g1, fun h => g2 (List.mem_filter.1 h).1, ?_, ih⟩
      rcases g3 with ⟨h, h'⟩ | h
      · subst h; exact .inl ⟨rfl, h'⟩
      · exact .inr (List.mem_filter.2 ⟨h, by simpa using hl z List.mem_cons_self⟩)
theorem addV_vd {M : List Mb} (h : Vd [] M) (par id : Int) : Vd [] (addV M par id).1 := by
  unfold addV
  split
  · exact h
  · split
    · exact h
    · split
      · exact h
      · split
        · exact h
        · rename_i h1 h2 h3 h4
          refine h.snoc (by show 1 ≤ id; omega) (by simp) (hasV_not.1 (by simpa using h2)) ?_
          show (_ ∧ _ ∧ par = 0) ∨ _
          by_cases hp : par = 0
          · refine .inl ⟨rfl, ?_, hp⟩
            exact Classical.byContradiction fun hM => h3 ⟨hp, hM⟩
          · have : hasV M par = true := by
              cases hh : hasV M par with
              | true => rfl
              | false => exact absurd ⟨hp, hh⟩ h4
            obtain ⟨y, hy, e⟩ := hasV_iff.1 this
            exact .inr (.inr ⟨y, hy, e⟩)
theorem leaf_of {M : List Mb} {id : Int} (h : kidsV M id = []) : ∀ x ∈ M, x.2 ≠ id := by
  intro x hx e
  have : x.1 ∈ kidsV M id := mem_kidsV.2 (by rw [← e]; exact hx)
  rw [h] at this
  simp at this
theorem cutV_vd {M : List Mb} (h : Vd [] M) (id : Int) : Vd [] (cutV M id).1 := by
  unfold cutV
  split
  · exact h
  · split
    · exact h
    · rename_i h2
      have h2' : kidsV M id = [] := Classical.byContradiction h2
      exact h.filter (leaf_of h2')
/-- Kids, behind an Add and behind a Cut. -/
theorem kidsV_snoc (M : List Mb) (id par k : Int) : kidsV (M ++ [(id, par)]) k = if par = k then kidsV M k ++ [id] else kidsV M k := by
  unfold kidsV
  rw [List.filter_append, List.map_append]
  by_cases h : par = k
  · simp [h]
  · simp [h]
theorem kidsV_none {M : List Mb} (h : Vd [] M) {id : Int} (hid : 1 ≤ id) (hn : hasV M id = false) : kidsV M id = [] := by
  refine List.eq_nil_iff_forall_not_mem.2 fun k hk => ?_
  rw [mem_kidsV] at hk
  rcases h.par _ hk with ⟨_, h'⟩ | h' | ⟨y, hy, e⟩
  · simp only at h'; omega
  · simp at h'
  · exact hasV_not.1 hn y hy e
theorem kidsV_filter (M : List Mb) (id k : Int) : kidsV (M.filter fun x => x.1 != id) k = (kidsV M k).filter (· != id) := by
  unfold kidsV
  induction M with
  | nil => rfl
  | cons x M ih =>
    by_cases h1 : x.1 = id
    · rw [List.filter_cons_of_neg (by simp [h1])]
      by_cases h2 : x.2 = k
      · rw [ih]; simp [h1, h2]
      · rw [ih]; simp [h2]
    · rw [List.filter_cons_of_pos (by simp [h1])]
      by_cases h2 : x.2 = k
      · rw [List.filter_cons_of_pos (by simp [h2]), List.filter_cons_of_pos (by simp [h2]), List.map_cons, List.map_cons, List.filter_cons_of_pos (by simp [h1]), ih]
      · rw [List.filter_cons_of_neg (by simp [h2]), List.filter_cons_of_neg (by simp [h2]), ih]
theorem filter_same {l : List Int} {id : Int} (h : id ∉ l) : l.filter (· != id) = l :=
  List.filter_eq_self.2 fun x hx => by simp only [bne_iff_ne]; rintro rfl; exact h hx
theorem Vd.nodup_kids : ∀ {M : List Mb} {seen : List Int}, Vd seen M → ∀ k, (kidsV M k).Nodup
  | [], _, _, k => by simp [kidsV]
  | x :: l, seen, ⟨_, _, _, h4⟩, k => by
    have ih := h4.nodup_kids k
    unfold kidsV at ih ⊢
    by_cases h : x.2 = k
    · rw [List.filter_cons_of_pos (by simp [h]), List.map_cons, List.nodup_cons]
      refine ⟨fun hm => ?_, ih⟩
      obtain ⟨y, hy, e⟩ := List.mem_map.1 hm
      exact h4.fresh y (List.mem_filter.1 hy).1 (by rw [e]; exact List.mem_cons_self)
    · rw [List.filter_cons_of_neg (by simp [h])]; exact ih
/-- The root, cut, was all. -/
theorem cut_root {M : List Mb} (h : Vd [] M) {x : Mb} (hx : x ∈ M) (h0 : x.2 = 0) (hl : kidsV M x.1 = []) : M.filter (fun y => y.1 != x.1) = [] := by
  cases M with
  | nil => rfl
  | cons z l =>
    obtain ⟨g1, _, g3, g4⟩ := h
    have hz : x = z := by
      rcases List.mem_cons.1 hx with h | h
      · exact h
      · exfalso
        rcases g4.par x h with ⟨h', _⟩ | h' | ⟨y, hy, e⟩
        · cases h'
        · simp at h'; omega
        · have := g4.pos y hy; omega
    subst hz
    cases l with
    | nil => simp
    | cons y l =>
      exfalso
      obtain ⟨_, _, h3, _⟩ := g4
      rcases h3 with ⟨h', _⟩ | h'
      · cases h'
      · simp at h'
        exact leaf_of hl y (by simp) h'
theorem cut_notroot {M : List Mb} (h : Vd [] M) {x : Mb} (hx : x ∈ M) (h0 : x.2 ≠ 0) : ∃ y ∈ M, y.1 = x.2 ∧ y.1 ≠ x.1 := by
  rcases h.par x hx with ⟨_, h'⟩ | h' | ⟨y, hy, e⟩
  · exact absurd h' h0
  · simp at h'
  · refine ⟨y, hy, e, fun e2 => ?_⟩
    -- nobody is its own parent
    have : ∀ {M : List Mb} {seen : List Int}, Vd seen M → ∀ x ∈ M, x.2 ≠ x.1 := by
      intro M
      induction M with
      | nil => intro seen _ x hx; simp at hx
      | cons z l ih =>
        rintro seen ⟨g1, g2, g3, g4⟩ x hx e
        rcases List.mem_cons.1 hx with rfl | hx
        · rcases g3 with ⟨_, h⟩ | h
          · omega
          · rw [e] at h; exact g2 h
        · exact ih g4 x hx e
    exact this h x hx (by rw [← e, e2])
end Go.Proofs.Ytmdiagcmfcjleaa
