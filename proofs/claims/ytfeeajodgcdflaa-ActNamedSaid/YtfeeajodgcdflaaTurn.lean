/- ActTurned, the plain law: two rows of which no message fits both may be changed about; and rows written over in memory. -/
import Derived.Test.YtfeeajodgcdflaaDo
namespace Go.Proofs.Ytfeeajodgcdflaa
open Go.RowKit Go.Maps Go.Troupe

theorem find_swap {α : Type} (p : α → Bool) : ∀ (l : List α) (i : Nat) (x y : α), l[i]? = some x → l[i + 1]? = some y → ¬ (p x = true ∧ p y = true) → ((l.set i y).set (i + 1) x).find? p = l.find? p
  | [], i, x, y, h, _, _ => by simp at h
  | [a], i, x, y, _, h2, _ => by simp at h2
  | a :: b :: l, 0, x, y, h1, h2, hn => by
    simp at h1 h2
    subst h1 h2
    simp only [List.set_cons_zero, List.set_cons_succ, List.find?_cons]
    cases hx : p a <;> cases hy : p b
    · rfl
    · rfl
    · rfl
    · exact absurd ⟨hx, hy⟩ hn
  | a :: b :: l, i + 1, x, y, h1, h2, hn => by
    rw [List.set_cons_succ, List.set_cons_succ, List.find?_cons, List.find?_cons]
    cases p a with
    | true => rfl
    | false => exact find_swap p (b :: l) i x y (by simpa using h1) (by simpa using h2) hn
/-- A state with other rows, of which each message meets the same. -/
theorem rowV_set (sts : List St) (a : Nat) (s s' : St) (state tag : ByteArray) (n : Int) (hs : sts[a]? = some s) (hn : s'.name = s.name) (hf : s'.rows.find? (fitsV tag n) = s.rows.find? (fitsV tag n)) : rowV (sts.set a s') state tag n = rowV sts state tag n := by
  unfold rowV
  induction sts generalizing a with
  | nil => simp at hs
  | cons b l ih =>
    cases a with
    | zero =>
      simp at hs; subst hs
      rw [List.set_cons_zero, List.find?_cons, List.find?_cons]
      have e : nameV state s' = nameV state b := by unfold nameV; rw [hn]
      rw [e]
      cases nameV state b with
      | true => simpa using hf
      | false => rfl
    | succ a =>
      rw [List.set_cons_succ, List.find?_cons, List.find?_cons]
      cases nameV state b with
      | true => rfl
      | false => exact ih a (by simpa using hs)
theorem planV_set (sts : List St) (a : Nat) (s s' : St) (state tag : ByteArray) (n : Int) (hs : sts[a]? = some s) (hn : s'.name = s.name) (hf : s'.rows.find? (fitsV tag n) = s.rows.find? (fitsV tag n)) : planV (sts.set a s') state tag n = planV sts state tag n := by
  unfold planV
  rw [rowV_set sts a s s' state tag n hs hn hf]

/-! ### a row of cells, written over -/
theorem flat_get {α : Type} (f : α → List Value) (sz : Nat) (hsz : 0 < sz) (hf : ∀ x, (f x).length = sz) (l : List α) (k : Nat) : (l.flatMap f)[k]? = (l[k / sz]?).bind fun x => (f x)[k % sz]? := by
  cases h : l[k / sz]? with
  | some x =>
    have := flat_at f sz hf l (k / sz) x h (k % sz) (Nat.mod_lt _ hsz)
    rw [Nat.div_add_mod' k sz] at this
    exact this
  | none =>
    have h1 := List.getElem?_eq_none_iff.1 h
    have hl : (l.flatMap f).length = l.length * sz := by
      clear h h1
      induction l with
      | nil => simp
      | cons x l ih => rw [List.flatMap_cons, List.length_append, hf, ih, List.length_cons, Nat.add_mul]; omega
    refine List.getElem?_eq_none ?_
    rw [hl]
    have := Nat.div_add_mod' k sz
    have := Nat.mul_le_mul_right sz h1
    omega
theorem flat_set {α : Type} (f : α → List Value) (sz : Nat) (hsz : 0 < sz) (hf : ∀ x, (f x).length = sz) (l : List α) (i : Nat) (z : α) (hi : i < l.length) (cs cs' : List Value) (hc : cs.take (l.length * sz) = l.flatMap f)     (hn : ∀ r, r < sz → cs'[i * sz + r]? = (f z)[r]?) (ho : ∀ k, k < i * sz ∨ i * sz + sz ≤ k → cs'[k]? = cs[k]?) : cs'.take (l.length * sz) = (l.set i z).flatMap f := by
  apply List.ext_getElem?
  intro k
  rw [flat_get f sz hsz hf, List.getElem?_take]
  have hck : ∀ k, k < l.length * sz → cs[k]? = (l[k / sz]?).bind fun x => (f x)[k % sz]? := by
    intro k hk
    rw [← flat_get f sz hsz hf, ← hc, List.getElem?_take, if_pos hk]
  have hm := Nat.div_add_mod' k sz
  have hr := Nat.mod_lt k hsz
  split
  · rename_i hk
    have hq : k / sz < l.length := Nat.div_lt_of_lt_mul (by rw [Nat.mul_comm]; exact hk)
    rw [List.getElem?_set]
    by_cases h : i = k / sz
    · subst h
      rw [if_pos rfl, if_pos hi]
      have := hn (k % sz) hr
      rw [hm] at this
      exact this
    · rw [if_neg h, ho k ?_, hck k hk]
      rcases Nat.lt_or_gt_of_ne h with h' | h'
      · right
        have := Nat.mul_le_mul_right sz (show i + 1 ≤ k / sz by omega)
        rw [Nat.add_mul] at this; omega
      · left
        have := Nat.mul_le_mul_right sz (show k / sz + 1 ≤ i by omega)
        rw [Nat.add_mul] at this; omega
  · rename_i hk
    have hq : l.length ≤ k / sz := (Nat.le_div_iff_mul_le hsz).2 (by omega)
    rw [List.getElem?_eq_none (by rw [List.length_set]; exact hq)]
    rfl

def sets (cs : List Value) (o : Nat) : List Value → List Value
  | [] => cs
  | v :: vs => sets (cs.set o v) (o + 1) vs
theorem sets_len : ∀ (vs : List Value) (cs : List Value) (o : Nat), (sets cs o vs).length = cs.length
  | [], cs, o => rfl
  | v :: vs, cs, o => by unfold sets; rw [sets_len vs]; simp
theorem sets_get : ∀ (vs : List Value) (cs : List Value) (o k : Nat), o + vs.length ≤ cs.length → (sets cs o vs)[k]? = if o ≤ k ∧ k < o + vs.length then vs[k - o]? else cs[k]?
  | [], cs, o, k, _ => by
    unfold sets
    rw [if_neg (by simp only [List.length_nil]; omega)]
  | v :: vs, cs, o, k, h => by
    unfold sets
    rw [List.length_cons] at h
    rw [sets_get vs (cs.set o v) (o + 1) k (by simp; omega), List.getElem?_set]
    by_cases h1 : o = k
    · subst h1
      rw [if_neg (by omega), if_pos rfl, if_pos (by omega), if_pos (by simp)]
      simp
    · by_cases h2 : o + 1 ≤ k ∧ k < o + 1 + vs.length
      · rw [if_pos h2, if_pos (by rw [List.length_cons]; omega)]
        obtain ⟨j, hj⟩ : ∃ j, k - o = j + 1 := ⟨k - o - 1, by omega⟩
        rw [hj, show k - (o + 1) = j by omega]
        simp
      · rw [if_neg h2, if_neg h1, if_neg (by rw [List.length_cons]; omega)]
theorem flat_sets {α : Type} (f : α → List Value) (sz : Nat) (hsz : 0 < sz) (hf : ∀ x, (f x).length = sz) (l : List α) (i : Nat) (z : α) (hi : i < l.length) (cs : List Value) (hc : cs.take (l.length * sz) = l.flatMap f) (hl : l.length * sz ≤ cs.length) :
    (sets cs (i * sz) (f z)).take (l.length * sz) = (l.set i z).flatMap f := by
  have hb := Nat.mul_le_mul_right sz (show i + 1 ≤ l.length by omega)
  rw [Nat.add_mul, Nat.one_mul] at hb
  refine flat_set f sz hsz hf l i z hi cs _ hc (fun r hr => ?_) (fun k hk => ?_)
  · rw [sets_get _ _ _ _ (by rw [hf]; omega), if_pos (by rw [hf]; omega), Nat.add_sub_cancel_left]
  · rw [sets_get _ _ _ _ (by rw [hf]; omega), if_neg (by rw [hf]; omega)]

/-- Cells of a block, one behind the other. -/
theorem set4_at {w : World} {g : Nat} {t : TypeId} {cs : List Value} (h : Blk w g t cs) (o : Nat) (x y z u : Value) :
    Blk ((((w.setCell ⟨g, o, none⟩ x).setCell ⟨g, o + 1, none⟩ y).setCell ⟨g, o + 2, none⟩ z).setCell ⟨g, o + 3, none⟩ u) g t (sets cs o [x, y, z, u]) ∧ Frm (fun k => k = g) w ((((w.setCell ⟨g, o, none⟩ x).setCell ⟨g, o + 1, none⟩ y).setCell ⟨g, o + 2, none⟩ z).setCell ⟨g, o + 3, none⟩ u) :=
  ⟨(((h.set_ o x).set_ (o + 1) y).set_ (o + 2) z).set_ (o + 3) u, (((Frm.one w ⟨g, o, none⟩ x).trans (Frm.one _ ⟨g, o + 1, none⟩ y) (fun _ _ h => h)).trans (Frm.one _ ⟨g, o + 2, none⟩ z) (fun _ _ h => h)).trans (Frm.one _ ⟨g, o + 3, none⟩ u) (fun _ _ h => h)⟩
theorem set2_at {w : World} {g : Nat} {t : TypeId} {cs : List Value} (h : Blk w g t cs) (o : Nat) (x y : Value) :
    Blk ((w.setCell ⟨g, o, none⟩ x).setCell ⟨g, o + 1, none⟩ y) g t (sets cs o [x, y]) ∧ Frm (fun k => k = g) w ((w.setCell ⟨g, o, none⟩ x).setCell ⟨g, o + 1, none⟩ y) :=
  ⟨(h.set_ o x).set_ (o + 1) y, (Frm.one w ⟨g, o, none⟩ x).trans (Frm.one _ ⟨g, o + 1, none⟩ y) (fun _ _ h => h)⟩
end Go.Proofs.Ytfeeajodgcdflaa
