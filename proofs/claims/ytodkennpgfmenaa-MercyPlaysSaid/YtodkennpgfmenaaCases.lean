/- Directive, and the reference's, over a slice of cases. -/
import Derived.Test.YtodkennpgfmenaaChecked
import Derived.Test.YtodkennpgfmenaaMem
import Derived.RegionTactic
import Derived.Deep.CutRange
import Derived.Deep.CutBlock
namespace Go.Proofs.Ytodkennpgfmenaa
open Go.RowKit Go.Maps Go.Troupe

structure Case where
  r : ByteArray
  d : Int
def cv (x : Case) : List Value := [.string x.r, .int .i64 x.d]
def flatC (l : List Case) : List Value := l.flatMap cv
theorem flatC_length (l : List Case) : (flatC l).length = 2 * l.length := by
  induction l with
  | nil => rfl
  | cons x l ih => simp only [flatC, List.flatMap_cons, List.length_append, cv, List.length_cons, List.length_nil] at ih ⊢; omega
theorem flatC_at (l : List Case) (i : Nat) (x : Case) (h : l[i]? = some x) :
    (flatC l)[i * 2]? = some (.string x.r) ∧ (flatC l)[i * 2 + 1]? = some (.int .i64 x.d) := by
  induction l generalizing i with
  | nil => simp at h
  | cons y l ih =>
    cases i with
    | zero => simp at h; subst h; simp [flatC, cv]
    | succ i =>
      have := ih i (by simpa using h)
      have e1 : (i + 1) * 2 = i * 2 + 1 + 1 := by omega
      have e : flatC (y :: l) = .string y.r :: .int .i64 y.d :: flatC l := rfl
      rw [e1, e, show i * 2 + 1 + 1 + 1 = (i * 2 + 1) + 1 + 1 by omega]
      simp only [List.getElem?_cons_succ]
      exact this

theorem closureC_any (x : Case) (want : ByteArray) (g : Nat) (w : World) (h : w.cell? ⟨g, 0, none⟩ = some (.string want)) :
    Calls Try.prog 19 #[.agg #[.string x.r, .int .i64 x.d], .pointer (some ⟨g, 0, none⟩)] w fun e w' => e = .returned (.bool (x.r.toList == want.toList)) ∧ Below w.heap.size w w' := by
  have hgl := block_lt_of_cell h
  have h' : (w.alloc (.cells #[.string x.r, .int .i64 x.d] 50)).cell? ⟨g, 0, none⟩ = some (.string want) := (World.cell?_of_block (Below.heap_alloc _ _ _ hgl)).trans h
  clear h
  go_enter Try.func19, Try.ntmps19
  go_wp2
  go_ret
  exact ⟨rfl, (Below.refl _ _).alloc (Nat.le_refl _) _⟩

def idxC (l : List Case) (p : Case → Bool) : Int := match l.findIdx? p with | some i => i | none => -1
theorem idxC_none {l : List Case} {p : Case → Bool} (h : ∀ x ∈ l, p x = false) : idxC l p = -1 := by
  have : l.findIdx? p = none := List.findIdx?_eq_none_iff.2 h
  simp [idxC, this]
theorem idxC_some {l : List Case} {p : Case → Bool} {i : Nat} {x : Case} (hx : l[i]? = some x) (h : p x = true) (hl : ∀ y ∈ l.take i, p y = false) : idxC l p = i := by
  have : l.findIdx? p = some i := by
    have hi := (List.getElem?_eq_some_iff.1 hx).1
    rw [List.findIdx?_eq_some_iff_getElem]
    refine ⟨hi, by rw [(List.getElem?_eq_some_iff.1 hx).2]; exact h, fun j hj => ?_⟩
    have := hl (l[j]'(by omega)) (by
      rw [List.mem_iff_getElem?]
      exact ⟨j, by rw [List.getElem?_take, if_pos hj]; simp⟩)
    simp [this]
  simp [idxC, this]
theorem idxC_cases (l : List Case) (p : Case → Bool) : (idxC l p = -1 ∧ ∀ x ∈ l, p x = false) ∨ ∃ i x, idxC l p = (i : Nat) ∧ l[i]? = some x ∧ p x = true ∧ ∀ y ∈ l.take i, p y = false := by
  unfold idxC
  cases h : l.findIdx? p with
  | none => exact .inl ⟨rfl, List.findIdx?_eq_none_iff.1 h⟩
  | some i =>
    obtain ⟨hi, h1, h2⟩ := List.findIdx?_eq_some_iff_getElem.1 h
    refine .inr ⟨i, l[i], rfl, List.getElem?_eq_getElem hi, h1, fun y hy => ?_⟩
    obtain ⟨j, hj⟩ := List.mem_iff_getElem?.1 hy
    rw [List.getElem?_take] at hj
    split at hj
    · rename_i hji
      have := h2 j hji
      rw [List.getElem?_eq_getElem (by omega)] at hj
      cases hj
      simpa using this
    · cases hj
def IdxC (w : World) (l : List Case) (p : Case → Bool) (e : Ending) (w' : World) : Prop := e = .returned (.int .i64 (idxC l p)) ∧ Below w.heap.size w w'
set_option maxRecDepth 100000 in
theorem indexFuncC_any (want : ByteArray) (g : Nat) (Ad : Option Addr) (n c B : Nat) (l : List Case) (w : World) (hl : l.length = n) (hn : n ≤ maxLen) (hc : Cells w B Ad (flatC l)) (hB : B ≤ w.heap.size)
    (hg : w.cell? ⟨g, 0, none⟩ = some (.string want)) :
    Calls Try.prog 18 #[.slice Ad n c, .func (.func 19) #[] #[.pointer (some ⟨g, 0, none⟩)]] w (IdxC w l (fun x => x.r.toList == want.toList)) := by
  have hn' : n ≤ 9223372036854775807 := hn
  have hG := Troupe.hid hg
  have hgl := block_lt_of_cell hg
  clear hg hn
  go_enter Try.func18, Try.ntmps18
  go_wp2_with fail
  go_loopw [8] (fun i wr => ∃ j : Nat, j ≤ n ∧ i = .int .i64 j ∧ (∀ y ∈ l.take j, (y.r.toList == want.toList) = false) ∧ Below w.heap.size w wr) (fun i _ => n - (intOf i).toNat)
  case atStart => exact ⟨0, Nat.zero_le _, rfl, by simp, Below.refl _ _⟩
  case round =>
    obtain ⟨j, hj, rfl, hno, hb⟩ := hrel
    have NO := Troupe.hid hno
    have HB := Troupe.hid hb
    have C1 := Troupe.hid ((hc.mono hB).below hb)
    clear hno hb
    by_cases hlt : j < n
    · obtain ⟨x, hx⟩ : ∃ x, l[j]? = some x := ⟨_, List.getElem?_eq_getElem (by omega)⟩
      obtain ⟨q0, q1⟩ := flatC_at l j x hx
      obtain ⟨b, off, rfl, _, h1⟩ := C1.out.at_ (by intro e; have := congrArg List.length e; rw [flatC_length] at this; simp at this; omega)
      have c0 : wr.cell? ⟨b, off + j * 2, none⟩ = some (.string x.r) := h1 _ _ q0
      have c1 : wr.cell? ⟨b, off + j * 2 + 1, none⟩ = some (.int .i64 x.d) := by rw [Nat.add_assoc]; exact h1 _ _ q1
      have X := Troupe.hid hx
      clear h1 hx q0 q1
      go_wp2_with fail
      refine (closureC_any x want g wr ((HB.out.cell hgl).trans hG.out)).mono ?_
      rintro e w2 ⟨rfl, hb2⟩
      have B2 := Troupe.hid (HB.out.trans (hb2.mono HB.out.size))
      clear hb2 c0 c1
      by_cases hp : (x.r.toList == want.toList) = true
      · simp only [hp]
        have FIN := Troupe.hid (idxC_some (p := fun x => x.r.toList == want.toList) X.out hp NO.out)
        clear hp
        go_wp2_with fail
        go_ret
        exact ⟨by rw [FIN.out]; rfl, B2.out⟩
      · have hp' : (x.r.toList == want.toList) = false := by simpa using hp
        simp only [hp']
        have NO2 : Hid (∀ y ∈ l.take (j + 1), (y.r.toList == want.toList) = false) := by
          intro y hy
          rw [List.take_add_one, X.out] at hy
          rcases List.mem_append.1 hy with h | h
          · exact NO.out y h
          · simp at h; subst h; exact hp'
        clear hp hp'
        go_wp2_with fail
        go_roundw
        case rel => exact ⟨j + 1, by omega, by go_num, NO2.out, B2.out⟩
        case measure => simp [intOf]; omega
    · have hall : idxC l (fun x => x.r.toList == want.toList) = -1 := idxC_none (by have h := NO.out; rwa [List.take_of_length_le (by omega)] at h)
      have FIN := Troupe.hid hall
      clear hall
      go_wp2_with fail
      go_ret
      exact ⟨by rw [FIN.out]; rfl, HB.out⟩
end Go.Proofs.Ytodkennpgfmenaa
