/- Kinds of actors: states, rows, effects: as Lean data, and how they lie in cells; the small functions by contracts. -/
import Derived.Test.YtkjjhndccelbcaaChecked
import Derived.Test.YtkjjhndccelbcaaMem
import Derived.Lib.SliceRun
import Derived.IntWalk
import Derived.Deep.CutRange
import Derived.Deep.CutBlock
namespace Go.Proofs.Ytkjjhndccelbcaa
open Go.RowKit Go.Maps Go.Troupe

theorem own_at {w : World} {base n size : Nat} {e : TypeId} {v : Value} {xs : List Value} {b : Nat} (h : w.ownsRow base e size v n xs) (hb : v.ownBlock = some b) : ∃ cs, Blk w b e cs := by
  obtain ⟨A, cap, rfl, -⟩ := own_form h
  rcases own_blk h with ⟨rfl, -⟩ | ⟨g, cs, rfl, hbk, -⟩
  · simp [Value.ownBlock] at hb
  · simp [Value.ownBlock] at hb
    subst hb
    exact ⟨cs, hbk⟩
theorem _root_.Go.Troupe.Blk.blk_cells {w : World} {g : Nat} {t : TypeId} {cs : List Value} (h : Blk w g t cs) : Cells w (g + 1) (some ⟨g, 0, none⟩) cs := by
  have := Cells.blk (n := cs.length) h (Nat.lt_succ_self g)
  rwa [List.take_length] at this
theorem own_below {w w' : World} {base n size : Nat} {e : TypeId} {v : Value} {xs : List Value} (h : w.ownsRow base e size v n xs) (hb : Below w.heap.size w w') : w'.ownsRow base e size v n xs :=
  own_frm h (Frm.of_below hb) (fun k hk h' => by have := (h.lt k hk).2; omega)
theorem own_cells {w : World} {base n cap size : Nat} {e : TypeId} {A : Option Addr} {xs : List Value} (h : w.ownsRow base e size (.slice A n cap) n xs) : Cells w w.heap.size A xs := by
  obtain ⟨A', c', e', _, _, hc, _⟩ := own_form h
  simp only [Value.slice.injEq, true_and] at e'
  obtain ⟨rfl, rfl⟩ := e'
  exact hc

structure Eff where
  d : Int
  ref : ByteArray
  slot : ByteArray
  name : ByteArray
  v : Int
  n : Int
  delay : Int
def Eff.cells (e : Eff) : List Value := [.int .i64 e.d, .string e.ref, .string e.slot, .string e.name, .int .i64 e.v, .int .i64 e.n, .int .i64 e.delay]
def flatE (l : List Eff) : List Value := l.flatMap Eff.cells
theorem flatE_length (l : List Eff) : (flatE l).length = l.length * 7 := by
  induction l with
  | nil => rfl
  | cons x l ih => simp [flatE, Eff.cells] at ih ⊢; omega
theorem flatE_app (a b : List Eff) : flatE (a ++ b) = flatE a ++ flatE b := by simp [flatE]
theorem flatE_one (e : Eff) : flatE [e] = e.cells := by simp [flatE]
theorem one_effs (l : List Eff) : ∀ u ∈ flatE l, u.oneCell' = true := by
  intro u hu
  obtain ⟨x, _, h⟩ := List.mem_flatMap.1 hu
  simp [Eff.cells] at h
  rcases h with rfl | rfl | rfl | rfl | rfl | rfl | rfl <;> rfl
/-- A row of a state's table, where its effects lie too. -/
structure Rw where
  tag : ByteArray
  only : Bool
  n : Int
  effs : List Eff
  A : Option Addr
  cap : Nat
def Rw.cells (r : Rw) : List Value := [.string r.tag, .bool r.only, .int .i64 r.n, .slice r.A r.effs.length r.cap]
def flatR (l : List Rw) : List Value := l.flatMap Rw.cells
theorem flatR_length (l : List Rw) : (flatR l).length = l.length * 4 := by
  induction l with
  | nil => rfl
  | cons x l ih => simp [flatR, Rw.cells] at ih ⊢; omega
structure St where
  name : ByteArray
  rows : List Rw
  A : Option Addr
  cap : Nat
def St.cells (s : St) : List Value := [.string s.name, .slice s.A s.rows.length s.cap]
def flatS (l : List St) : List Value := l.flatMap St.cells
theorem flatS_length (l : List St) : (flatS l).length = l.length * 2 := by
  induction l with
  | nil => rfl
  | cons x l ih => simp [flatS, St.cells] at ih ⊢; omega
/-- The cells of the element at i. -/
theorem flat_at {α : Type} (f : α → List Value) (sz : Nat) (hf : ∀ x, (f x).length = sz) : ∀ (l : List α) (i : Nat) (x : α), l[i]? = some x → ∀ r, r < sz → (l.flatMap f)[i * sz + r]? = (f x)[r]?
  | [], i, x, h, r, hr => by simp at h
  | y :: l, 0, x, h, r, hr => by
    simp at h; subst h
    rw [List.flatMap_cons, Nat.zero_mul, Nat.zero_add, List.getElem?_append_left (by rw [hf]; exact hr)]
  | y :: l, i + 1, x, h, r, hr => by
    have h' : l[i]? = some x := by simpa using h
    rw [List.flatMap_cons, List.getElem?_append_right (by rw [hf, Nat.add_mul]; omega), hf, ← flat_at f sz hf l i x h' r hr]
    congr 1
    rw [Nat.add_mul]; omega
theorem cells_at {α : Type} {w : World} {B : Nat} {A : Option Addr} {f : α → List Value} {sz : Nat} (hf : ∀ x, (f x).length = sz) (hsz : 0 < sz) {l : List α} (h : Cells w B A (l.flatMap f)) {i : Nat} {x : α} (hx : l[i]? = some x) :
    ∃ b o, A = some ⟨b, o, none⟩ ∧ b < B ∧ ∀ r, r < sz → ∀ u, (f x)[r]? = some u → w.cell? ⟨b, o + i * sz + r, none⟩ = some u := by
  have hne : l.flatMap f ≠ [] := by
    intro e
    have h0 := flat_at f sz hf l i x hx 0 hsz
    rw [e] at h0
    have : (f x)[0]? = none := by rw [← h0]; rfl
    have h1 := List.getElem?_eq_none_iff.1 this
    rw [hf] at h1; omega
  obtain ⟨b, o, hA, hb, g⟩ := h.at_ hne
  exact ⟨b, o, hA, hb, fun r hr u hu => by rw [Nat.add_assoc]; exact g _ _ (by rw [flat_at f sz hf l i x hx r hr]; exact hu)⟩

/-- The effects of each row lie below B. -/
def RowsIn (w : World) (B : Nat) (l : List Rw) : Prop := ∀ r ∈ l, Cells w B r.A (flatE r.effs) ∧ (r.A = none → r.cap = 0) ∧ r.effs.length * 80 ≤ 140737488355328
/-- The rows of each state lie below B. -/
def StatesIn (w : World) (B : Nat) (l : List St) : Prop := ∀ s ∈ l, Cells w B s.A (flatR s.rows) ∧ RowsIn w B s.rows ∧ s.rows.length * 56 ≤ 140737488355328
structure Kd where
  name : ByteArray
  limit : Int
  within : Int
  Ac : Option Addr
  nc : Nat
  cc : Nat
  A : Option Addr
  cap : Nat
  sts : List St
def Kd.val (k : Kd) : Value := .agg #[.string k.name, .int .i64 k.limit, .int .i64 k.within, .slice k.Ac k.nc k.cc, .slice k.A k.sts.length k.cap]
def KindIn (w : World) (B : Nat) (k : Kd) : Prop := Cells w B k.A (flatS k.sts) ∧ StatesIn w B k.sts ∧ k.sts.length ≤ 140737488355328
section
variable {w w' : World} {B B' : Nat}
theorem RowsIn.below {l : List Rw} (h : RowsIn w B l) (hb : Below B w w') : RowsIn w' B l := fun r hr => ⟨(h r hr).1.below hb, (h r hr).2⟩
theorem RowsIn.mono {l : List Rw} (h : RowsIn w B l) (hb : B ≤ B') : RowsIn w B' l := fun r hr => ⟨(h r hr).1.mono hb, (h r hr).2⟩
theorem StatesIn.below {l : List St} (h : StatesIn w B l) (hb : Below B w w') : StatesIn w' B l := fun s hs => ⟨(h s hs).1.below hb, (h s hs).2.1.below hb, (h s hs).2.2⟩
theorem StatesIn.mono {l : List St} (h : StatesIn w B l) (hb : B ≤ B') : StatesIn w B' l := fun s hs => ⟨(h s hs).1.mono hb, (h s hs).2.1.mono hb, (h s hs).2.2⟩
theorem KindIn.below {k : Kd} (h : KindIn w B k) (hb : Below B w w') : KindIn w' B k := ⟨h.1.below hb, h.2.1.below hb, h.2.2⟩
theorem KindIn.mono {k : Kd} (h : KindIn w B k) (hb : B ≤ B') : KindIn w B' k := ⟨h.1.mono hb, h.2.1.mono hb, h.2.2⟩
end

/-! ### what a message comes to -/
def numV (e : Eff) (n : Int) : Int := if e.v = 0 then n else if e.v = 1 then (if n < 1 then 0 else n - 1) else e.n
def noS : ByteArray := ⟨#[]⟩
def fitsV (tag : ByteArray) (n : Int) (r : Rw) : Bool := r.tag.toList == [] || (r.tag.toList == tag.toList && (!r.only || r.n == n))

set_option maxRecDepth 100000 in
theorem number_any (e : Eff) (n : Int) (hn : -9223372036854775808 ≤ n ∧ n ≤ 9223372036854775807) (w : World) :
    Calls Try.prog 57 #[.agg e.cells.toArray, .int .i64 n] w fun en w' => en = .returned (.int .i64 (numV e n)) ∧ Below w.heap.size w w' := by
  have hb : Below w.heap.size w (w.alloc (.cells e.cells.toArray 57)) := (Below.refl _ _).alloc (Nat.le_refl _) _
  obtain ⟨d, ref, slot, name, v, m, delay⟩ := e
  unfold numV
  dsimp only [Eff.cells] at hb ⊢
  go_enter Try.func57, Try.ntmps57
  by_cases h0 : v = 0
  · subst h0
    go_wp2
    go_ret
    exact ⟨rfl, hb⟩
  · have h0b : (v == 0) = false := by rw [beq_eq_false_iff_ne]; exact h0
    rw [if_neg h0]
    by_cases h1 : v = 1
    · subst h1
      rw [if_pos rfl]
      by_cases h2 : n < 1
      · rw [if_pos h2]
        go_wp2
        go_ret
        exact ⟨rfl, hb⟩
      · rw [if_neg h2]
        have hw : IntKind.i64.wrap (n - 1) = n - 1 := IntWalk.i64_in _ (by omega)
        go_wp2
        go_ret
        exact ⟨rfl, hb⟩
    · have h1b : (v == 1) = false := by rw [beq_eq_false_iff_ne]; exact h1
      rw [if_neg h1]
      go_wp2
      go_ret
      exact ⟨rfl, hb⟩
end Go.Proofs.Ytkjjhndccelbcaa
