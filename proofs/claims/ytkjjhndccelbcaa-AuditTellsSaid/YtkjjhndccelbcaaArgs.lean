/- What came in: kinds of actors, their states, rows and effects, each row within the form's reach. -/
import Derived.Test.YtkjjhndccelbcaaData
import Derived.Test.YtkjjhndccelbcaaOpen
import Derived.SizedLaws
namespace Go.Proofs.Ytkjjhndccelbcaa
open Go.ChangeShapes Go.WideShapes Go.ChangeAt Go.RowKit Go.Deep Go.Troupe

section
variable {H : Type} {enc : TypeId × Value → H} {P : Program} {w : World} {base : Nat} {spare : Nat → Bool} {held : Bool}
/-- Every row in it is within the reach. -/
def Light (P : Program) (t : TypeId) (d : DataW H) : Prop := ∀ n ∈ d.weights P t, n ≤ reachBytes
theorem weightsAll_mem {e : TypeId} : ∀ {l : List (DataW H)} {d : DataW H}, d ∈ l → ∀ n ∈ d.weights P e, n ∈ DataW.weightsAll P e l
  | x :: l, d, h, n, hn => by
    simp only [DataW.weightsAll, List.mem_append]
    rcases List.mem_cons.1 h with rfl | h
    · exact .inl hn
    · exact .inr (weightsAll_mem h n hn)
  | [], d, h, _, _ => by cases h
theorem flat_len {α : Type} {f : α → List Value} {sz : Nat} (hf : ∀ z, (f z).length = sz) : ∀ l : List α, (l.flatMap f).length = l.length * sz
  | [] => by simp
  | x :: l => by rw [List.flatMap_cons, List.length_append, hf, flat_len hf l, List.length_cons, Nat.add_mul]; omega
theorem open_list {α : Type} [Inhabited α] {t e : TypeId} {f : α → List Value} {sz fuel len cap : Nat} {A : Option Addr} {x : DataW H × List MemPlace} (hf : ∀ z, (f z).length = sz) (hsz : 0 < sz) (hC : P.cellsOf e = sz) {Φ : α → Prop} (ht : P.underlying t = some (.slice e))
    (hel : ∀ (n : Nat) (cs' : List Value) (y : DataW H × List MemPlace), DataW.trod enc P w base spare held n e cs' = some y → Light P e y.1 → ∃ z, cs' = f z ∧ Φ z)
    (h : DataW.trod enc P w base spare held fuel t [.slice A len cap] = some x) (hz : Light P t x.1) :
    ∃ L : List α, L.length = len ∧ Cells w w.heap.size A (L.flatMap f) ∧ (∀ z ∈ L, Φ z) ∧ len ≤ cap ∧ (A = none → len = 0 ∧ cap = 0) ∧ cap ≤ maxLen ∧ len * P.bytesOf e ≤ reachBytes := by
  rcases Go.Deep.open_slice ht h with ⟨hcs, rfl⟩ | ⟨a, len', cap', m, n, D, Pl, hcs, _, hl, hm, hmm, rfl, hi⟩
  · simp only [List.cons.injEq, Value.slice.injEq, and_true] at hcs
    obtain ⟨rfl, rfl, rfl⟩ := hcs
    exact ⟨[], rfl, .inl rfl, by simp, Nat.le_refl _, fun _ => ⟨rfl, rfl⟩, by simp [maxLen], by simp⟩
  · simp only [List.cons.injEq, Value.slice.injEq, and_true] at hcs
    obtain ⟨rfl, rfl, rfl⟩ := hcs
    have hlm : len ≤ m := by rw [hmm]; split <;> omega
    have hw0 : (len + (m - len)) * P.bytesOf e ≤ reachBytes := hz _ (by simp [DataW.weights, ht])
    have hwe : ∀ i, i < len → Light P e (D i) := fun i hil k hk => hz k (by
      simp only [DataW.weights, ht, List.mem_cons, List.mem_append]
      exact .inr (.inl (weightsAll_mem (List.mem_map.2 ⟨i, List.mem_range.2 hil, rfl⟩) k hk)))
    have hal : ∀ i, i < len → ∃ z : α, Φ z ∧ ∀ r, r < sz → ∀ u, (f z)[r]? = some u → w.cell? (a.add (i * sz + r)) = some u := by
      intro i hil
      obtain ⟨cs', h1, h2⟩ := hi i (by omega)
      rw [hC] at h1
      obtain ⟨z, rfl, hP⟩ := hel n cs' _ h2 (hwe i hil)
      obtain ⟨_, hcl, hat⟩ := World.cells?_some h1
      refine ⟨z, hP, fun r hr u hu => ?_⟩
      rw [← Go.Deep.add_add, hat r hr]; exact hu
    obtain ⟨g, hg⟩ := Go.Deep.choose_lt hal
    refine ⟨(List.range len).map g, by simp, ?_, ?_, hl, fun h => (by cases h), hm, Nat.le_trans (Nat.mul_le_mul_right _ (by omega)) hw0⟩
    · refine cells_of_rows (len := len) (sz := sz) hsz _ (by rw [flat_len hf]; simp) ?_
      intro i hil r hr
      have hx : ((List.range len).map g)[i]? = some (g i) := by simp [hil]
      have hfr : r < (f (g i)).length := by rw [hf]; exact hr
      refine ⟨a, (f (g i))[r], rfl, ?_, (hg i hil).2 r hr _ (List.getElem?_eq_getElem hfr)⟩
      rw [flat_at f sz hf _ i (g i) hx r hr]
      exact List.getElem?_eq_getElem hfr
    · intro z hz
      obtain ⟨i, hi', rfl⟩ := List.mem_map.1 hz
      exact (hg i (List.mem_range.1 hi')).1
/-- A struct of one-cell fields, each within the reach. -/
theorem fields_light {e : TypeId} {fs : Array Field} {fuel : Nat} {cs : List Value} {x : DataW H × List MemPlace} (he : P.underlying e = some (.struct fs)) (hone : oneCellFields P fs = true) (hC : P.cellsOf e = fs.size)
    (h : DataW.trod enc P w base spare held fuel e cs = some x) (hz : Light P e x.1) : cs.length = P.cellsOf e ∧ ∀ (j : Nat) (f : Field), fs[j]? = some f → ∃ v y n, cs[j]? = some v ∧ DataW.trod enc P w base spare held n f.type [v] = some y ∧ Light P f.type y.1 := by
  obtain ⟨xs, n, _, rfl, hlen, hxl, hf⟩ := DataW.trod_struct he h
  refine ⟨hlen, fun j f hj => ?_⟩
  obtain ⟨ho, hk⟩ := Go.Deep.hone_of hone j f hj
  have hjl : j < fs.size := (Array.getElem?_eq_some_iff.1 hj).1
  have h1 := hf j f hj
  rw [ho, hk, List.getElem?_eq_getElem (by omega)] at h1
  have hlt : j < cs.length := by omega
  rw [List.drop_eq_getElem_cons hlt] at h1
  refine ⟨cs[j], xs[j]'(by omega), n, List.getElem?_eq_getElem hlt, h1, fun k hk => hz k ?_⟩
  simp only [DataW.weights, he]
  exact DataW.weights_mem_each (j := j) (t := f.type) (d := (xs[j]'(by omega)).1) (by simp [hj]) (by simp [List.getElem?_eq_getElem (show j < xs.length by omega)]) k hk
end
section
variable {H : Type} {enc : TypeId × Value → H} {w : World} {base : Nat} {spare : Nat → Bool} {held : Bool}
instance : Inhabited Eff := ⟨⟨0, ⟨#[]⟩, ⟨#[]⟩, ⟨#[]⟩, 0, 0, 0⟩⟩
instance : Inhabited Rw := ⟨⟨⟨#[]⟩, false, 0, [], none, 0⟩⟩
instance : Inhabited St := ⟨⟨⟨#[]⟩, [], none, 0⟩⟩
theorem cells57 : Try.prog.cellsOf 57 = 7 := by kernel_rfl
theorem cells60 : Try.prog.cellsOf 60 = 4 := by kernel_rfl
theorem cells63 : Try.prog.cellsOf 63 = 2 := by kernel_rfl
theorem cells67 : Try.prog.cellsOf 67 = 5 := by kernel_rfl
theorem bytes57 : Try.prog.bytesOf 57 = 80 := by kernel_rfl
theorem bytes60 : Try.prog.bytesOf 60 = 56 := by kernel_rfl
theorem bytes63 : Try.prog.bytesOf 63 = 40 := by kernel_rfl
theorem reach_le : reachBytes ≤ 140737488355328 := by decide
theorem list_of_get {cs : List Value} {xs : List Value} (hl : cs.length = xs.length) (h : ∀ (j : Nat) (v : Value), xs[j]? = some v → cs[j]? = some v) : cs = xs := by
  apply List.ext_getElem?
  intro j
  cases hx : xs[j]? with
  | some v => exact h j v hx
  | none =>
    have := List.getElem?_eq_none_iff.1 hx
    exact List.getElem?_eq_none (by omega)
theorem openE (n : Nat) (cs' : List Value) (y : DataW H × List MemPlace) (h : DataW.trod enc Try.prog w base spare held n 57 cs' = some y) (hz : Light Try.prog 57 y.1) : ∃ z : Eff, cs' = z.cells ∧ True := by
  obtain ⟨hl, hf⟩ := fields_light Try.underlying57 (by kernel_rfl) cells57 h hz
  obtain ⟨v0, y0, n0, h0, t0, _⟩ := hf 0 _ rfl
  obtain ⟨v1, y1, n1, h1, t1, _⟩ := hf 1 _ rfl
  obtain ⟨v2, y2, n2, h2, t2, _⟩ := hf 2 _ rfl
  obtain ⟨v3, y3, n3, h3, t3, _⟩ := hf 3 _ rfl
  obtain ⟨v4, y4, n4, h4, t4, _⟩ := hf 4 _ rfl
  obtain ⟨v5, y5, n5, h5, t5, _⟩ := hf 5 _ rfl
  obtain ⟨v6, y6, n6, h6, t6, _⟩ := hf 6 _ rfl
  obtain ⟨a0, e0, _, _⟩ := DataW.trod_int Try.underlying3 t0
  obtain ⟨a1, e1, _, _⟩ := DataW.trod_string Try.underlying9 t1
  obtain ⟨a2, e2, _, _⟩ := DataW.trod_string Try.underlying9 t2
  obtain ⟨a3, e3, _, _⟩ := DataW.trod_string Try.underlying9 t3
  obtain ⟨a4, e4, _, _⟩ := DataW.trod_int Try.underlying3 t4
  obtain ⟨a5, e5, _, _⟩ := DataW.trod_int Try.underlying3 t5
  obtain ⟨a6, e6, _, _⟩ := DataW.trod_int Try.underlying3 t6
  simp only [List.cons.injEq, and_true] at e0 e1 e2 e3 e4 e5 e6
  subst e0 e1 e2 e3 e4 e5 e6
  refine ⟨⟨a0, a1, a2, a3, a4, a5, a6⟩, list_of_get (by rw [hl, cells57]; rfl) ?_, trivial⟩
  intro j v hv
  match j, hv with
  | 0, hv => exact hv ▸ h0
  | 1, hv => exact hv ▸ h1
  | 2, hv => exact hv ▸ h2
  | 3, hv => exact hv ▸ h3
  | 4, hv => exact hv ▸ h4
  | 5, hv => exact hv ▸ h5
  | 6, hv => exact hv ▸ h6
  | j + 7, hv => simp [Eff.cells] at hv
def RowIn1 (w : World) (r : Rw) : Prop := Cells w w.heap.size r.A (flatE r.effs) ∧ (r.A = none → r.cap = 0) ∧ r.effs.length * 80 ≤ 140737488355328
theorem openR (n : Nat) (cs' : List Value) (y : DataW H × List MemPlace) (h : DataW.trod enc Try.prog w base spare held n 60 cs' = some y) (hz : Light Try.prog 60 y.1) : ∃ z : Rw, cs' = z.cells ∧ RowIn1 w z := by
  obtain ⟨hl, hf⟩ := fields_light Try.underlying60 (by kernel_rfl) cells60 h hz
  obtain ⟨v0, y0, n0, h0, t0, _⟩ := hf 0 _ rfl
  obtain ⟨v1, y1, n1, h1, t1, _⟩ := hf 1 _ rfl
  obtain ⟨v2, y2, n2, h2, t2, _⟩ := hf 2 _ rfl
  obtain ⟨v3, y3, n3, h3, t3, l3⟩ := hf 3 _ rfl
  obtain ⟨a0, e0, _, _⟩ := DataW.trod_string Try.underlying9 t0
  obtain ⟨a1, e1, _⟩ := DataW.trod_bool Try.underlying4 t1
  obtain ⟨a2, e2, _, _⟩ := DataW.trod_int Try.underlying3 t2
  obtain ⟨A, len, cap, hcs, _, _, _, _⟩ := rows_of Try.underlying58 t3
  simp only [List.cons.injEq, and_true] at e0 e1 e2 hcs
  subst e0 e1 e2 hcs
  obtain ⟨L, hL, hc, _, _, hnil, _, hby⟩ := open_list (f := Eff.cells) (sz := 7) (fun _ => rfl) (by decide) cells57 Try.underlying58 openE t3 l3
  rw [bytes57] at hby
  refine ⟨⟨a0, a1, a2, L, A, cap⟩, list_of_get (by rw [hl, cells60]; rfl) ?_, hc, fun h => (hnil h).2, by rw [hL]; exact Nat.le_trans hby reach_le⟩
  intro j v hv
  match j, hv with
  | 0, hv => exact hv ▸ h0
  | 1, hv => exact hv ▸ h1
  | 2, hv => exact hv ▸ h2
  | 3, hv => simp [Rw.cells] at hv; rw [hL] at hv; exact hv ▸ h3
  | j + 4, hv => simp [Rw.cells] at hv
def StateIn1 (w : World) (s : St) : Prop := Cells w w.heap.size s.A (flatR s.rows) ∧ RowsIn w w.heap.size s.rows ∧ s.rows.length * 56 ≤ 140737488355328
theorem openS (n : Nat) (cs' : List Value) (y : DataW H × List MemPlace) (h : DataW.trod enc Try.prog w base spare held n 63 cs' = some y) (hz : Light Try.prog 63 y.1) : ∃ z : St, cs' = z.cells ∧ StateIn1 w z := by
  obtain ⟨hl, hf⟩ := fields_light Try.underlying63 (by kernel_rfl) cells63 h hz
  obtain ⟨v0, y0, n0, h0, t0, _⟩ := hf 0 _ rfl
  obtain ⟨v1, y1, n1, h1, t1, l1⟩ := hf 1 _ rfl
  obtain ⟨a0, e0, _, _⟩ := DataW.trod_string Try.underlying9 t0
  obtain ⟨A, len, cap, hcs, _, _, _, _⟩ := rows_of Try.underlying61 t1
  simp only [List.cons.injEq, and_true] at e0 hcs
  subst e0 hcs
  obtain ⟨L, hL, hc, hP, _, hnil, _, hby⟩ := open_list (f := Rw.cells) (sz := 4) (fun _ => rfl) (by decide) cells60 Try.underlying61 openR t1 l1
  rw [bytes60] at hby
  refine ⟨⟨a0, L, A, cap⟩, list_of_get (by rw [hl, cells63]; rfl) ?_, hc, fun r hr => hP r hr, by rw [hL]; exact Nat.le_trans hby reach_le⟩
  intro j v hv
  match j, hv with
  | 0, hv => exact hv ▸ h0
  | 1, hv => simp [St.cells] at hv; rw [hL] at hv; exact hv ▸ h1
  | j + 2, hv => simp [St.cells] at hv
theorem openK (n : Nat) (cs' : List Value) (y : DataW H × List MemPlace) (h : DataW.trod enc Try.prog w base spare held n 67 cs' = some y) (hz : Light Try.prog 67 y.1) : ∃ z : Kd, cs'.toArray = #[.string z.name, .int .i64 z.limit, .int .i64 z.within, .slice z.Ac z.nc z.cc, .slice z.A z.sts.length z.cap] ∧ KindIn w w.heap.size z := by
  obtain ⟨hl, hf⟩ := fields_light Try.underlying67 (by kernel_rfl) cells67 h hz
  obtain ⟨v0, y0, n0, h0, t0, _⟩ := hf 0 _ rfl
  obtain ⟨v1, y1, n1, h1, t1, _⟩ := hf 1 _ rfl
  obtain ⟨v2, y2, n2, h2, t2, _⟩ := hf 2 _ rfl
  obtain ⟨v3, y3, n3, h3, t3, _⟩ := hf 3 _ rfl
  obtain ⟨v4, y4, n4, h4, t4, l4⟩ := hf 4 _ rfl
  obtain ⟨a0, e0, _, _⟩ := DataW.trod_string Try.underlying9 t0
  obtain ⟨a1, e1, _, _⟩ := DataW.trod_int Try.underlying3 t1
  obtain ⟨a2, e2, _, _⟩ := DataW.trod_int Try.underlying3 t2
  obtain ⟨A3, len3, cap3, hcs3, _, _, _, _⟩ := rows_of Try.underlying65 t3
  obtain ⟨A, len, cap, hcs, _, _, _, _⟩ := rows_of Try.underlying64 t4
  simp only [List.cons.injEq, and_true] at e0 e1 e2 hcs3 hcs
  subst e0 e1 e2 hcs3 hcs
  obtain ⟨L, hL, hc, hP, _, hnil, _, hby⟩ := open_list (f := St.cells) (sz := 2) (fun _ => rfl) (by decide) cells63 Try.underlying64 openS t4 l4
  rw [bytes63] at hby
  refine ⟨⟨a0, a1, a2, A3, len3, cap3, A, cap, L⟩, ?_, hc, fun s hs => hP s hs, by
    dsimp only
    have := Nat.le_trans hby reach_le
    omega⟩
  congr 1
  refine list_of_get (by rw [hl, cells67]; rfl) ?_
  intro j v hv
  match j, hv with
  | 0, hv => exact hv ▸ h0
  | 1, hv => exact hv ▸ h1
  | 2, hv => exact hv ▸ h2
  | 3, hv => exact hv ▸ h3
  | 4, hv => simp at hv; rw [hL] at hv; exact hv ▸ h4
  | j + 5, hv => simp at hv
end
end Go.Proofs.Ytkjjhndccelbcaa
