/- MercyPlays: what stands between two rounds. -/
import Derived.Test.YtodkennpgfmenaaRefForget
import Derived.Lib.SmallJoins
namespace Go.Proofs.Ytodkennpgfmenaa
open Go.RowKit Go.Maps Go.Troupe

structure Ope where
  k : Fin 256
  c : Int
  t : Int
def ov (x : Ope) : List Value := [.int .u8 ((x.k.val : Nat) : Int), .int .i64 x.c, .int .i64 x.t]
def flatO (l : List Ope) : List Value := l.flatMap ov
theorem flatO_length (l : List Ope) : (flatO l).length = 3 * l.length := by
  induction l with
  | nil => rfl
  | cons x l ih => simp only [flatO, List.flatMap_cons, List.length_append, ov, List.length_cons, List.length_nil] at ih ⊢; omega
theorem flatO_at (l : List Ope) (i : Nat) (x : Ope) (h : l[i]? = some x) :
    (flatO l)[i * 3]? = some (.int .u8 ((x.k.val : Nat) : Int)) ∧ (flatO l)[i * 3 + 1]? = some (.int .i64 x.c) ∧ (flatO l)[i * 3 + 2]? = some (.int .i64 x.t) := by
  induction l generalizing i with
  | nil => simp at h
  | cons y l ih =>
    cases i with
    | zero => simp at h; subst h; simp [flatO, ov]
    | succ i =>
      have := ih i (by simpa using h)
      have e1 : (i + 1) * 3 = i * 3 + 1 + 1 + 1 := by omega
      have e2 : (i + 1) * 3 + 1 = i * 3 + 1 + 1 + 1 + 1 := by omega
      have e3 : (i + 1) * 3 + 2 = i * 3 + 2 + 1 + 1 + 1 := by omega
      have e : flatO (y :: l) = .int .u8 ((y.k.val : Nat) : Int) :: .int .i64 y.c :: .int .i64 y.t :: flatO l := rfl
      rw [e3, e2, e1, e]
      simp only [List.getElem?_cons_succ]
      exact this
theorem gOf_snoc (l : List Giv) (c t : Int) : gOf (l ++ [⟨c, t⟩]) = give (gOf l) c t := by
  funext k
  unfold gOf give
  rw [List.filter_append, List.map_append]
  by_cases h : k = c
  · subst h; simp
  · have : ((⟨c, t⟩ : Giv).c == k) = false := by simp; exact fun e => h e.symm
    simp only [List.filter_cons, List.filter_nil, this]
    simp [h]
theorem gOf_but (l : List Giv) (c : Int) : gOf (but l c) = fun k => if k = c then [] else gOf l k := by
  funext k
  unfold gOf but
  rw [List.filter_filter]
  by_cases h : k = c
  · subst h
    rw [if_pos rfl, List.filter_eq_nil_iff.2 (fun x _ => by simp)]
    rfl
  · rw [if_neg h]
    congr 1
    apply List.filter_congr
    intro x _
    by_cases hx : x.c = k
    · subst hx; simp [h]
    · have : (x.c == k) = false := by simp [hx]
      simp [this]

structure PQ (w wr : World) (p m : Nat) (L W : Int) (l : List Giv) (G : Int → List Int) (A : Option Addr) (ca : Nat) (g : Nat) : Prop where
  own : wr.ownsRow w.heap.size 45 2 (.slice A l.length ca) l.length (flatG l)
  bud : ∃ S, Budget wr p m S L W G ∧ (∀ k, S k → w.heap.size ≤ k ∧ k < wr.heap.size) ∧ (∀ k, (Value.slice A l.length ca).ownBlock = some k → ¬ S k) ∧ ¬ S g
  be : Below w.heap.size w wr
section
variable {w wr w' : World} {p m : Nat} {L W : Int} {l : List Giv} {G : Int → List Int} {A : Option Addr} {ca g : Nat} {cs : List Value}
theorem PQ.seen (h : PQ w wr p m L W l G A ca g) : PQ w wr p m L W l G A ca wr.heap.size := by
  obtain ⟨S, h1, h2, h3, h4⟩ := h.bud
  exact ⟨h.own, ⟨S, h1, h2, h3, fun hs => by have := (h2 _ hs).2; omega⟩, h.be⟩
theorem PQ.below (h : PQ w wr p m L W l G A ca g) (hb : Below wr.heap.size wr w') : PQ w w' p m L W l G A ca g := by
  obtain ⟨S, h1, h2, h3, h4⟩ := h.bud
  have hs := hb.size
  refine ⟨own_frm h.own (Frm.of_below hb) (fun k hk hn => ?_), ⟨S, h1.below hb, fun k hk => by have := h2 k hk; omega, h3, h4⟩, h.be.trans (hb.mono h.be.size)⟩
  obtain ⟨cs, hbk⟩ := own_at h.own hk
  have := hbk.lt
  omega
theorem PQ.step {S S' : Nat → Prop} {G' : Int → List Int} (h : PQ w wr p m L W l G A ca g) (hg : Blk wr g 39 cs) (h2 : ∀ k, S k → w.heap.size ≤ k ∧ k < wr.heap.size) (h3 : ∀ k, (Value.slice A l.length ca).ownBlock = some k → ¬ S k) (h4 : ¬ S g)
    (g1 : Budget w' p m S' L W G') (g2 : ∀ k, S' k → S k ∨ (wr.heap.size ≤ k ∧ k < w'.heap.size)) (g3 : Frm S wr w') : PQ w w' p m L W l G' A ca g ∧ Blk w' g 39 cs := by
  have hs := g3.size
  have hs0 := h.be.size
  refine ⟨⟨own_frm h.own g3 h3, ⟨S', g1, fun k hk => ?_, fun k hk hS => ?_, fun hS => ?_⟩, h.be.trans (g3.below hs0 (fun k hk => (h2 k hk).1))⟩, hg.frm g3 h4⟩
  · rcases g2 k hk with h | h
    · have := h2 k h; omega
    · omega
  · rcases g2 k hS with h' | h'
    · exact h3 k hk h'
    · obtain ⟨cs, hbk⟩ := own_at h.own hk
      have := hbk.lt
      omega
  · rcases g2 g hS with h' | h'
    · exact h4 h'
    · have := hg.lt; omega
theorem PQ.left (h : PQ w wr p m L W l G A ca g) {child now : Int} (N : Int) (hn : (G child).length ≤ 1000000) (hN : clamp now 0 1099511627776 = N) :
    Calls Try.prog 13 #[.pointer (some ⟨p, 0, none⟩), .int .i64 child, .int .i64 now] wr fun e w' => e = .returned (.int .i64 (leftOf L (G child) N W)) ∧ PQ w w' p m L W l G A ca g := by
  subst hN
  obtain ⟨S, h1, h2, h3, h4⟩ := h.bud
  refine (left_any child now wr h1 hn).mono ?_
  rintro e w' ⟨rfl, hb⟩
  exact ⟨rfl, h.below hb⟩
theorem PQ.yes (h : PQ w wr p m L W l G A ca g) (hg : Blk wr g 39 cs) {child now : Int} (N : Int) (hn : (G child).length ≤ 1000000) (hN : clamp now 0 1099511627776 = N) (hz : leftOf L (G child) N W ≠ 0) :
    Calls Try.prog 12 #[.pointer (some ⟨p, 0, none⟩), .int .i64 child, .int .i64 now] wr fun e w' => e = .returned (.bool true) ∧ PQ w w' p m L W l (give G child N) A ca g ∧ Blk w' g 39 cs := by
  obtain ⟨S, h1, h2, h3, h4⟩ := h.bud
  refine (ask_yes h1 hn hN hz).mono ?_
  rintro e w' ⟨rfl, S', g1, g2, g3⟩
  exact ⟨rfl, h.step hg h2 h3 h4 g1 g2 g3⟩
theorem PQ.no (h : PQ w wr p m L W l G A ca g) (hg : Blk wr g 39 cs) {child now : Int} (N : Int) (hn : (G child).length ≤ 1000000) (hN : clamp now 0 1099511627776 = N) (hz : leftOf L (G child) N W = 0) :
    Calls Try.prog 12 #[.pointer (some ⟨p, 0, none⟩), .int .i64 child, .int .i64 now] wr fun e w' => e = .returned (.bool false) ∧ PQ w w' p m L W l G A ca g ∧ Blk w' g 39 cs := by
  obtain ⟨S, h1, h2, h3, h4⟩ := h.bud
  refine (ask_no h1 hn hN hz).mono ?_
  rintro e w' ⟨rfl, S', g1, g2, g3⟩
  exact ⟨rfl, h.step hg h2 h3 h4 g1 g2 g3⟩
theorem PQ.forget (h : PQ w wr p m L W l G A ca g) (hg : Blk wr g 39 cs) (child : Int) :
    Calls Try.prog 15 #[.pointer (some ⟨p, 0, none⟩), .int .i64 child] wr fun e w' => e = .returned (.tuple #[]) ∧ PQ w w' p m L W l (fun k => if k = child then [] else G k) A ca g ∧ Blk w' g 39 cs := by
  obtain ⟨S, h1, h2, h3, h4⟩ := h.bud
  refine (forget_any child wr h1).mono ?_
  rintro e w' ⟨rfl, g1, g3⟩
  exact ⟨rfl, h.step hg h2 h3 h4 g1 (fun k hk => .inl hk) g3⟩
/-- Another row takes the place of the list. -/
theorem PQ.newRow {l' : List Giv} {A' : Option Addr} {ca' : Nat} (h : PQ w wr p m L W l G A ca g) (hb : Below wr.heap.size wr w') (hown : w'.ownsRow wr.heap.size 45 2 (.slice A' l'.length ca') l'.length (flatG l')) : PQ w w' p m L W l' G A' ca' g := by
  obtain ⟨S0, h10, h20, h30, h40⟩ := h.bud
  have hs := hb.size
  refine ⟨Go.Joins.ownsRow_le hown h.be.size, ⟨S0, h10.below hb, fun k hk => by have := h20 k hk; omega, fun k hk hS => ?_, h40⟩, (h.below hb).be⟩
  have := (hown.lt k hk).1
  have := h20 k hS
  omega
/-- The row has grown. -/
theorem PQ.grown {l' : List Giv} {v' : Value} {n' : Nat} {xs : List Value} (h : PQ w wr p m L W l G A ca g) (ha : Appended wr w' w.heap.size 45 2 (.slice A l.length ca) v' n' xs) (hn : n' = l'.length) (hx : xs = flatG l') : ∃ A' ca', v' = .slice A' l'.length ca' ∧ PQ w w' p m L W l' G A' ca' g := by
  subst hn hx
  obtain ⟨A', ca', rfl, -⟩ := own_form ha.own
  obtain ⟨S, h1, h2, h3, h4⟩ := h.bud
  have hs := ha.frm.size
  refine ⟨A', ca', rfl, ha.own, ⟨S, h1.frm ha.frm (fun k _ hk hS => h3 k hk hS), fun k hk => by have := h2 k hk; omega, fun k hk hS => ?_, h4⟩, h.be.trans (ha.frm.below h.be.size (fun k hk => (h.own.lt k hk).1))⟩
  rcases ha.at_ with e | e
  · exact h3 k (e ▸ hk) hS
  · rw [e] at hk
    cases hk
    have := (h2 _ hS).2
    omega
theorem PQ.heap (h : PQ w wr p m L W l G A ca g) (hf : Frm (fun _ => False) wr w') : PQ w w' p m L W l G A ca g := h.below (hf.below (Nat.le_refl _) (fun _ h => h.elim))
end
theorem left_ge (L : Int) (T : List Int) (N W : Int) : 0 ≤ leftOf L T N W := by unfold leftOf; split <;> omega
end Go.Proofs.Ytodkennpgfmenaa
