/- A region by region_up, its plan checked off a table of numbers: for regions of many operations. My own, over any program. -/
import Derived.Test.YtkjjhndccelbcaaUpS
namespace Go.Troupe
open Go Go.RowKit

/-- What is known of an operation: its slot, the slots that it looks at, what it waits for. -/
structure URow where
  d : Option Nat
  l : List Nat
  a : List Nat
def rowOk (md : Region.Mode) (ops : Array Oper) (o : Oper) (r : URow) : Bool :=
  o.dst == r.d && o.looksAt ops == r.l && ((o.after.toList.filter (Region.binds md)).map (·.on)) == r.a
def rowsOk (md : Region.Mode) (ops : Array Oper) : List Oper → List URow → Bool
  | [], [] => true
  | o :: os, r :: rs => rowOk md ops o r && rowsOk md ops os rs
  | _, _ => false
def apartR (x y : URow) : Bool :=
  (match x.d with
   | some d => !y.l.contains d && y.d != some d
   | none => true) &&
  (match y.d with
   | some d => !x.l.contains d
   | none => true)
def readyR (n : Nat) (rem : List (Nat × URow)) (r : URow) : Bool := r.a.all fun e => decide (e < n) && rem.all fun x => x.1 != e
def enumR : Nat → List URow → List (Nat × URow)
  | _, [] => []
  | k, r :: l => (k, r) :: enumR (k + 1) l
def UPlan.fast (n : Nat) : UPlan → Nat → List (Nat × URow) → Bool
  | .done, 0, rem => rem.isEmpty
  | .q k p, f + 1, rem => match rem.find? (fun x => x.1 == k) with
    | some (_, r) => readyR n rem r && (rem.all fun x => x.1 == k || x.2.a.contains k || apartR r x.2) && p.fast n f (rem.filter fun x => x.1 != k)
    | none => false
  | .one k p, f + 1, rem => match rem.find? (fun x => x.1 == k) with
    | some (_, r) => readyR n rem r && (rem.all fun x => x.1 == k || !readyR n rem x.2) && p.fast n f (rem.filter fun x => x.1 != k)
    | none => false
  | _, _, _ => false

theorem rowsOk_get {md : Region.Mode} {ops : Array Oper} : ∀ {l : List Oper} {t : List URow}, rowsOk md ops l t = true → l.length = t.length ∧ ∀ (i : Nat) (o : Oper) (r : URow), l[i]? = some o → t[i]? = some r → rowOk md ops o r = true
  | [], [], _ => ⟨rfl, fun i o r h _ => by simp at h⟩
  | o :: os, r :: rs, h => by
    simp only [rowsOk, Bool.and_eq_true] at h
    obtain ⟨h1, h2⟩ := rowsOk_get h.2
    refine ⟨by simp [h1], fun i o' r' ho hr => ?_⟩
    cases i with
    | zero => simp at ho hr; subst ho hr; exact h.1
    | succ i => exact h2 i o' r' (by simpa using ho) (by simpa using hr)
  | [], _ :: _, h => by simp [rowsOk] at h
  | _ :: _, [], h => by simp [rowsOk] at h
theorem apart_of_rows {md : Region.Mode} {ops : Array Oper} {o o' : Oper} {r r' : URow} (h : rowOk md ops o r = true) (h' : rowOk md ops o' r' = true) (ha : apartR r r' = true) : o.apart ops o' = true := by
  simp only [rowOk, Bool.and_eq_true, beq_iff_eq] at h h'
  obtain ⟨⟨h1, h2⟩, -⟩ := h
  obtain ⟨⟨h3, h4⟩, -⟩ := h'
  unfold Oper.apart
  rw [h1, h2, h3, h4]
  exact ha
theorem after_of_rows {md : Region.Mode} {ops : Array Oper} {o : Oper} {r : URow} (h : rowOk md ops o r = true) (k : Nat) : k ∈ r.a ↔ ∃ e ∈ o.after, Region.binds md e = true ∧ e.on = k := by
  simp only [rowOk, Bool.and_eq_true, beq_iff_eq] at h
  rw [← h.2]
  simp [List.mem_map, List.mem_filter, and_assoc]
theorem mem_enumR : ∀ (l : List URow) (k i : Nat) (r : URow), (i, r) ∈ enumR k l ↔ k ≤ i ∧ l[i - k]? = some r
  | [], k, i, r => by simp [enumR]
  | x :: l, k, i, r => by
    simp only [enumR, List.mem_cons, Prod.mk.injEq, mem_enumR l (k + 1) i r]
    constructor
    · rintro (⟨rfl, rfl⟩ | ⟨h1, h2⟩)
      · simp
      · refine ⟨by omega, ?_⟩
        rw [show i - k = (i - (k + 1)) + 1 by omega]
        simpa using h2
    · rintro ⟨h1, h2⟩
      rcases Nat.lt_or_eq_of_le h1 with h | rfl
      · right
        refine ⟨h, ?_⟩
        rw [show i - k = (i - (k + 1)) + 1 by omega] at h2
        simpa using h2
      · left; simp at h2; exact ⟨rfl, h2.symm⟩

structure InvR (tab : List URow) (rem : List (Nat × URow)) (listed : Array Bool) : Prop where
  size : listed.size = tab.length
  mem : ∀ i r, (i, r) ∈ rem ↔ tab[i]? = some r ∧ listed.getD i true = false
theorem InvR.set {tab : List URow} {rem : List (Nat × URow)} {listed : Array Bool} (h : InvR tab rem listed) (k : Nat) : InvR tab (rem.filter fun x => x.1 != k) (listed.setIfInBounds k true) := by
  refine ⟨by simpa using h.size, fun i r => ?_⟩
  rw [List.mem_filter, h.mem]
  by_cases hik : k = i
  · subst hik
    simp only [bne_self_eq_false, Bool.false_eq_true, and_false, false_iff, not_and]
    intro ht
    have hlt : k < listed.size := by rw [h.size]; exact (List.getElem?_eq_some_iff.1 ht).1
    simp [hlt]
  · rw [getD_set_ne true hik]
    simp [Ne.symm hik]

section
variable {P : Program} {Q : Exit → Act → World → Prop} {md : Region.Mode} {l : List Oper} {tab : List URow} {rem : List (Nat × URow)} {listed : Array Bool}
theorem ready_of_rows (hT : rowsOk md l.toArray l tab = true) (inv : InvR tab rem listed) {k : Nat} {r : URow} (hk : (k, r) ∈ rem) (hr : readyR tab.length rem r = true) : k ∈ Region.ready md l.toArray listed := by
  obtain ⟨hl, hrow⟩ := rowsOk_get hT
  obtain ⟨ht, hun⟩ := (inv.mem k r).1 hk
  have hlt : k < l.length := by rw [hl]; exact (List.getElem?_eq_some_iff.1 ht).1
  refine mem_ready.2 ⟨hun, l[k], by simp [hlt], fun e he hb => ?_⟩
  have hmem := (after_of_rows (hrow k l[k] r (List.getElem?_eq_getElem hlt) ht) e.on).2 ⟨e, he, hb, rfl⟩
  simp only [readyR, List.all_eq_true, Bool.and_eq_true, decide_eq_true_eq] at hr
  obtain ⟨h1, h2⟩ := hr e.on hmem
  have h3 : listed.getD e.on true = true := by
    cases hc : listed.getD e.on true with
    | true => rfl
    | false =>
      have := h2 (e.on, tab[e.on]) ((inv.mem _ _).2 ⟨List.getElem?_eq_getElem h1, hc⟩)
      simp at this
  have hs : e.on < listed.size := by rw [inv.size]; exact h1
  simp [hs] at h3 ⊢
  exact h3
theorem rows_of_ready (hT : rowsOk md l.toArray l tab = true) (inv : InvR tab rem listed) {k : Nat} (hk : k ∈ Region.ready md l.toArray listed) : ∃ r, (k, r) ∈ rem ∧ readyR tab.length rem r = true := by
  obtain ⟨hl, hrow⟩ := rowsOk_get hT
  obtain ⟨hun, o, ho, hall⟩ := mem_ready.1 hk
  have ho' : l[k]? = some o := by simpa using ho
  have hlt : k < tab.length := by rw [← hl]; exact (List.getElem?_eq_some_iff.1 ho').1
  refine ⟨tab[k], (inv.mem _ _).2 ⟨List.getElem?_eq_getElem hlt, hun⟩, ?_⟩
  simp only [readyR, List.all_eq_true, Bool.and_eq_true, decide_eq_true_eq]
  intro x hx
  obtain ⟨e, he, hb, rfl⟩ := (after_of_rows (hrow k o tab[k] ho' (List.getElem?_eq_getElem hlt)) x).1 hx
  have h1 := hall e he hb
  have hs : e.on < listed.size := by
    rcases Nat.lt_or_ge e.on listed.size with h | h
    · exact h
    · simp [Array.getElem?_eq_none h] at h1
  refine ⟨by rw [← inv.size]; exact hs, fun y hy => ?_⟩
  by_cases hye : y.1 = e.on
  · have h2 := ((inv.mem y.1 y.2).1 hy).2
    rw [hye] at h2
    simp [hs] at h1 h2
    rw [h1] at h2; cases h2
  · simpa using hye
theorem wpAnyU_fast (hsel : Region.noSelect l.toArray = true) (hT : rowsOk md l.toArray l tab = true) (hQ : ∀ c (a : Act) (d : Option Tmp) v w, Q (.panic c) (a.put d v) w → Q (.panic c) a w) :
    ∀ (p : UPlan) (f : Nat) (rem : List (Nat × URow)) (listed : Array Bool) (a : Act) (w : World), InvR tab rem listed → p.fast tab.length f rem = true → wpUP P l Q p a w → wpAnyU P md l.toArray Q f listed a w
  | .done, 0, rem, listed, a, w, inv, hB, h => by
    refine ⟨?_, h⟩
    cases hr : Region.ready md l.toArray listed with
    | nil => rfl
    | cons x xs =>
      obtain ⟨r, hm, -⟩ := rows_of_ready hT inv (k := x) (by rw [hr]; simp)
      simp only [UPlan.fast, List.isEmpty_iff] at hB
      rw [hB] at hm; cases hm
  | .done, f + 1, rem, listed, a, w, inv, hB, h => by simp [UPlan.fast] at hB
  | .q k p, 0, rem, listed, a, w, inv, hB, h => by simp [UPlan.fast] at hB
  | .one k p, 0, rem, listed, a, w, inv, hB, h => by simp [UPlan.fast] at hB
  | .two _ _ _ _, 0, rem, listed, a, w, inv, hB, h => by simp [UPlan.fast] at hB
  | .two _ _ _ _, f + 1, rem, listed, a, w, inv, hB, h => by simp [UPlan.fast] at hB
  | .q k p, f + 1, rem, listed, a, w, inv, hB, h => by
    simp only [UPlan.fast] at hB
    cases hf : rem.find? (fun x => x.1 == k) with
    | none => rw [hf] at hB; cases hB
    | some x =>
      obtain ⟨k', r⟩ := x
      rw [hf] at hB
      simp only [Bool.and_eq_true] at hB
      obtain ⟨⟨hr, hfree⟩, hB'⟩ := hB
      have hkk : k' = k := by simpa using List.find?_some hf
      subst hkk
      have hm := List.mem_of_find?_eq_some hf
      have hready := ready_of_rows hT inv hm hr
      simp only [wpUP] at h
      cases hk : l[k']? with
      | none => rw [hk] at h; exact h.elim
      | some o =>
        rw [hk] at h
        obtain ⟨v, h1, h2⟩ := h
        have h0 : l.toArray[k']? = some o := by simpa using hk
        refine wpAnyU_first h0 (Region.noSelect_spec hsel) hQ f listed a w (fun j oj hoj hji hun hno => ?_) hready h1 (wpAnyU_fast hsel hT hQ p f _ _ _ w (inv.set k') hB' h2)
        have hoj' : l[j]? = some oj := by simpa using hoj
        obtain ⟨hl, hrow⟩ := rowsOk_get hT
        have hlt : j < tab.length := by rw [← hl]; exact (List.getElem?_eq_some_iff.1 hoj').1
        have hj := List.all_eq_true.1 hfree (j, tab[j]) ((inv.mem _ _).2 ⟨List.getElem?_eq_getElem hlt, hun⟩)
        simp only [Bool.or_eq_true, beq_iff_eq, List.contains_iff_mem] at hj
        rcases hj with (hj | hj) | hj
        · exact absurd hj hji
        · obtain ⟨e, he, hb, heq⟩ := (after_of_rows (hrow j oj tab[j] hoj' (List.getElem?_eq_getElem hlt)) k').1 hj
          exact absurd heq (hno e he hb)
        · exact apart_of_rows (hrow k' o r hk ((inv.mem _ _).1 hm).1) (hrow j oj tab[j] hoj' (List.getElem?_eq_getElem hlt)) hj
  | .one k p, f + 1, rem, listed, a, w, inv, hB, h => by
    simp only [UPlan.fast] at hB
    cases hf : rem.find? (fun x => x.1 == k) with
    | none => rw [hf] at hB; cases hB
    | some x =>
      obtain ⟨k', r⟩ := x
      rw [hf] at hB
      simp only [Bool.and_eq_true] at hB
      obtain ⟨⟨hr, hlone⟩, hB'⟩ := hB
      have hkk : k' = k := by simpa using List.find?_some hf
      subst hkk
      have hm := List.mem_of_find?_eq_some hf
      have hready := ready_of_rows hT inv hm hr
      simp only [wpUP] at h
      cases hk : l[k']? with
      | none => rw [hk] at h; exact h.elim
      | some o =>
        rw [hk] at h
        have h0 : l.toArray[k']? = some o := by simpa using hk
        intro w' hu
        refine ⟨fun e => (by rw [e] at hready; cases hready), fun i hi => ?_⟩
        obtain ⟨ri, hmi, hri⟩ := rows_of_ready hT inv hi
        have hj := List.all_eq_true.1 hlone (i, ri) hmi
        simp only [Bool.or_eq_true, beq_iff_eq, hri, Bool.not_true, Bool.false_eq_true, or_false] at hj
        obtain rfl := hj
        exact wpOp_mono (fun a' w'' h' => ⟨h'.1, wpAnyU_fast hsel hT hQ p f _ _ a' w'' (inv.set i) hB' h'.2⟩) (wpOp_of_one h0 (h w' hu))
/-- A guard that is never what is wanted. -/
theorem wpUP_nF {l : List Oper} {k : Nat} {p : UPlan} {o : Oper} {a : Act} {w : World} {g : Bool} {j d : Nat} (h0 : l[k]? = some o) (hg : o.guard = some (j, true)) (hd : (l.toArray[j]?).bind (·.dst) = some d) (ht : a.tmps[d]? = some (bif g then undef else .bool false))
    (h2 : wpUP P l Q p (a.put o.dst undef) w) : wpUP P l Q (.q k p) a w :=
  wpUP_g h0 false (by rw [wanted_at hg hd ht]; cases g <;> rfl) undef (fun h => by cases h) h2
/-- The region. -/
theorem region_upF {id : Nat} {a : Act} {w : World} {l : List Oper} (p : UPlan) (tab : List URow) (hm : P.follows .mixedOrders = true) (hs : Region.noSelect l.toArray = true) (hT : rowsOk .any l.toArray l tab = true) (hF : p.fast tab.length tab.length (enumR 0 tab) = true)
    (hQ : ∀ c (a : Act) (d : Option Tmp) v w, Q (.panic c) (a.put d v) w → Q (.panic c) a w) (h : wpUP P l Q p a w) : (Code.region id l.toArray true).wp P Q a w := by
  obtain ⟨hl, -⟩ := rowsOk_get hT
  have inv : InvR tab (enumR 0 tab) (Array.replicate l.toArray.size false) := by
    refine ⟨by simp [hl], fun i r => ?_⟩
    rw [mem_enumR]
    simp only [Nat.zero_le, Nat.sub_zero, true_and, iff_self_and]
    intro h
    have hlt : i < l.length := by rw [hl]; exact (List.getElem?_eq_some_iff.1 h).1
    simp [hlt]
  refine wp_region_any hm (wpAny_of_U _ _ _ _ ?_)
  have hsz : l.toArray.size = tab.length := by simp [hl]
  rw [hsz] at inv ⊢
  refine wpAnyU_fast hs hT hQ p _ _ _ a _ inv hF (h.up ?_)
  exact ⟨rfl, rfl, rfl, Nat.le_refl _, fun _ _ => rfl⟩
end
end Go.Troupe
