/- ActKept: what stays of a kind that is written over, and the plain law. -/
import Derived.Test.YtfeeajodgcdflaaFind
import Derived.Deep.MidRow
namespace Go.Proofs.Ytfeeajodgcdflaa
open Go.RowKit Go.Maps Go.Troupe

/-! ### the same states have the same plans -/
theorem find_all2 {α β : Type} {R : α → β → Prop} {p : α → Bool} {q : β → Bool} {l : List α} {l' : List β} (h : All2 R l l') (hp : ∀ x y, R x y → q y = p x) :
    (l.find? p = none ∧ l'.find? q = none) ∨ ∃ x y, l.find? p = some x ∧ l'.find? q = some y ∧ R x y := by
  induction h with
  | nil => exact .inl ⟨rfl, rfl⟩
  | @cons x y l l' hxy _ ih =>
    rw [List.find?_cons, List.find?_cons, hp x y hxy]
    cases p x with
    | true => exact .inr ⟨x, y, rfl, rfl, hxy⟩
    | false => exact ih
theorem plan_same {sts sts' : List St} (h : All2 SameS sts sts') (state tag : ByteArray) (n : Int) : planV sts' state tag n = planV sts state tag n := by
  unfold planV rowV
  rcases find_all2 (p := nameV state) (q := nameV state) h (fun x y hxy => by unfold nameV; rw [hxy.name]) with ⟨h1, h2⟩ | ⟨s, s', h1, h2, hs⟩
  · rw [h1, h2]
  · rw [h1, h2]
    dsimp only [Option.bind]
    rcases find_all2 (p := fitsV tag n) (q := fitsV tag n) hs.rows (fun x y hxy => by unfold fitsV; rw [hxy.tag, hxy.only, hxy.n]) with ⟨h3, h4⟩ | ⟨r, r', h3, h4, hr⟩
    · rw [h3, h4]
    · rw [h3, h4]
      dsimp only
      rw [hr.effs]

/-! ### Find, both ways as one -/
def zF : Kf := ⟨noS, 0, 0, [], none, 0, [], none, 0⟩
theorem zF_own (w : World) (b : Nat) : KOwn w b zF := ⟨World.ownsRow_nil _ _ _ _, World.ownsRow_nil _ _ _ _, fun s hs => (by simp [zF] at hs)⟩
theorem zF_in (w : World) (B : Nat) : KfIn w B zF := ⟨⟨.nil _ _ _, fun _ => rfl, by simp [zF]⟩, .nil _ _ _, fun _ => rfl, fun s hs => (by simp [zF] at hs), by simp [zF]⟩
def foundV (ks : List Kf) (kind : ByteArray) : Kf := (findV ks kind).getD zF
theorem found_in {ks : List Kf} {w : World} {B : Nat} (h : KindsIn w B ks) (kind : ByteArray) : KfIn w B (foundV ks kind) := by
  unfold foundV
  cases hf : findV ks kind with
  | none => exact zF_in w B
  | some k => exact h k (List.mem_of_find?_eq_some hf)
theorem found_one {ks : List Kf} {kind : ByteArray} {w w' : World} {e : Ending} (h : Found ks kind w e w') :
    Below w.heap.size w w' ∧ ∃ k', e = .returned (.tuple #[k'.val, .bool (findV ks kind).isSome]) ∧ SameK (foundV ks kind) k' ∧ KOwn w' w.heap.size k' := by
  obtain ⟨hb, h⟩ := h
  refine ⟨hb, ?_⟩
  unfold foundV
  cases hf : findV ks kind with
  | none =>
    rw [hf] at h
    exact ⟨zF, h, ⟨rfl, rfl, rfl, rfl, .nil⟩, zF_own _ _⟩
  | some k =>
    rw [hf] at h
    exact h

/-! ### what stays of it -/
/-- Blocks are kept, but for cells that nobody reads again. -/
def Wrt (w w' : World) : Prop := ∀ g t cs, Blk w g t cs → ∃ cs', Blk w' g t cs' ∧ cs'.length = cs.length ∧ (t = 45 → ∀ i : Nat, cs'[i * 2 + 1]? = cs[i * 2 + 1]?) ∧ (t = 47 → ∀ j : Nat, cs'[j * 4 + 3]? = cs[j * 4 + 3]?)
theorem Wrt.refl (w : World) : Wrt w w := fun _ _ cs h => ⟨cs, h, rfl, fun _ _ => rfl, fun _ _ => rfl⟩
theorem Wrt.trans {a b c : World} (h : Wrt a b) (h' : Wrt b c) : Wrt a c := fun g t cs hb => by
  obtain ⟨cs1, h1, h2, h3, h4⟩ := h g t cs hb
  obtain ⟨cs2, k1, k2, k3, k4⟩ := h' g t cs1 h1
  exact ⟨cs2, k1, k2.trans h2, fun e i => (k3 e i).trans (h3 e i), fun e j => (k4 e j).trans (h4 e j)⟩
theorem Wrt.set {w : World} {g : Nat} {t : TypeId} {cs : List Value} (hb : Blk w g t cs) (o : Nat) (u : Value) (h1 : t = 45 → o % 2 = 0) (h2 : t = 47 → o % 4 = 0) : Wrt w (w.setCell ⟨g, o, none⟩ u) := fun g' t' cs' hb' => by
  by_cases hg : g' = g
  · subst hg
    have ht : t' = t := by
      unfold Blk at hb hb'
      rw [hb] at hb'
      injection hb' with hb'
      injection hb' with _ h _
      exact h.symm
    subst ht
    refine ⟨cs'.set o u, hb'.set_ o u, by simp, fun e i => ?_, fun e j => ?_⟩
    · rw [List.getElem?_set_ne (by have := h1 e; omega)]
    · rw [List.getElem?_set_ne (by have := h2 e; omega)]
  · exact ⟨cs', hb'.far hg u, rfl, fun _ _ => rfl, fun _ _ => rfl⟩
def Tw (a b x : Nat) : Prop := a ≤ x ∧ x < b
def ShE (w : World) (a b : Nat) (A : Option Addr) (n : Nat) : Prop := n = 0 ∨ ∃ g cs, A = some ⟨g, 0, none⟩ ∧ Blk w g 36 cs ∧ n * 7 ≤ cs.length ∧ Tw a b g
def ShR (w : World) (a b : Nat) (A : Option Addr) (rows : List Rw) : Prop := rows = [] ∨ ∃ g cs, A = some ⟨g, 0, none⟩ ∧ Blk w g 47 cs ∧ rows.length * 4 ≤ cs.length ∧ Tw a b g ∧
  ∀ j r, rows[j]? = some r → cs[j * 4 + 3]? = some (.slice r.A r.effs.length r.cap) ∧ ShE w a b r.A r.effs.length
def ShS (w : World) (a b : Nat) (A : Option Addr) (sts : List St) : Prop := sts = [] ∨ ∃ g cs, A = some ⟨g, 0, none⟩ ∧ Blk w g 45 cs ∧ sts.length * 2 ≤ cs.length ∧ Tw a b g ∧
  ∀ i s, sts[i]? = some s → cs[i * 2 + 1]? = some (.slice s.A s.rows.length s.cap) ∧ ShR w a b s.A s.rows
theorem ShE.wrt {w w' : World} {a b n : Nat} {A : Option Addr} (h : ShE w a b A n) (hw : Wrt w w') : ShE w' a b A n := by
  rcases h with h | ⟨g, cs, hA, hb, hl, hT⟩
  · exact .inl h
  · obtain ⟨cs', h1, h2, -, -⟩ := hw g 36 cs hb
    exact .inr ⟨g, cs', hA, h1, by omega, hT⟩
theorem ShR.wrt {w w' : World} {a b : Nat} {A : Option Addr} {rows : List Rw} (h : ShR w a b A rows) (hw : Wrt w w') : ShR w' a b A rows := by
  rcases h with h | ⟨g, cs, hA, hb, hl, hT, hr⟩
  · exact .inl h
  · obtain ⟨cs', h1, h2, -, h4⟩ := hw g 47 cs hb
    exact .inr ⟨g, cs', hA, h1, by omega, hT, fun j r hj => ⟨(h4 rfl j).trans (hr j r hj).1, (hr j r hj).2.wrt hw⟩⟩
theorem ShS.wrt {w w' : World} {a b : Nat} {A : Option Addr} {sts : List St} (h : ShS w a b A sts) (hw : Wrt w w') : ShS w' a b A sts := by
  rcases h with h | ⟨g, cs, hA, hb, hl, hT, hr⟩
  · exact .inl h
  · obtain ⟨cs', h1, h2, h3, -⟩ := hw g 45 cs hb
    exact .inr ⟨g, cs', hA, h1, by omega, hT, fun j r hj => ⟨(h3 rfl j).trans (hr j r hj).1, (hr j r hj).2.wrt hw⟩⟩
theorem own_place {w : World} {base n c size : Nat} {e : TypeId} {A : Option Addr} {xs : List Value} (h : w.ownsRow base e size (.slice A n c) n xs) (hn : 0 < n) :
    ∃ g cs, A = some ⟨g, 0, none⟩ ∧ Blk w g e cs ∧ n * size ≤ cs.length ∧ Tw base w.heap.size g ∧ cs.take (n * size) = xs := by
  rcases own_blk h with ⟨-, h0, -, -⟩ | ⟨g, cs, rfl, hb, hl, hg, hnc, -, ht⟩
  · omega
  · exact ⟨g, cs, rfl, hb, by rw [hl]; exact Nat.mul_le_mul_right _ hnc, ⟨hg, hb.lt⟩, ht⟩
theorem taken {cs xs : List Value} {m o : Nat} {u : Value} (h : cs.take m = xs) (hx : xs[o]? = some u) : cs[o]? = some u := by
  rw [← h, List.getElem?_take] at hx
  split at hx
  · exact hx
  · cases hx
theorem KOwn.shape {w : World} {base : Nat} {k : Kf} (h : KOwn w base k) : ShS w base w.heap.size k.A k.sts := by
  rcases Nat.eq_zero_or_pos k.sts.length with h0 | h0
  · exact .inl (List.eq_nil_of_length_eq_zero h0)
  · obtain ⟨g, cs, hA, hb, hl, hT, ht⟩ := own_place h.sts h0
    refine .inr ⟨g, cs, hA, hb, hl, hT, fun i s hi => ⟨taken ht ?_, ?_⟩⟩
    · exact flat_at St.cells 2 (fun _ => rfl) k.sts i s hi 1 (by decide)
    · obtain ⟨h1, h2⟩ := h.all s (List.mem_of_getElem? hi)
      rcases Nat.eq_zero_or_pos s.rows.length with h0 | h0
      · exact .inl (List.eq_nil_of_length_eq_zero h0)
      · obtain ⟨g, cs, hA, hb, hl, hT, ht⟩ := own_place h1 h0
        refine .inr ⟨g, cs, hA, hb, hl, hT, fun j r hj => ⟨taken ht ?_, ?_⟩⟩
        · exact flat_at Rw.cells 4 (fun _ => rfl) s.rows j r hj 3 (by decide)
        · have h3 := h2 r (List.mem_of_getElem? hj)
          rcases Nat.eq_zero_or_pos r.effs.length with h0 | h0
          · exact .inl h0
          · obtain ⟨g, cs, hA, hb, hl, hT, -⟩ := own_place h3 h0
            exact .inr ⟨g, cs, hA, hb, hl, hT⟩
/-- What only lies beside them: allocations, and what is made later. -/
theorem Wrt.below {w w' : World} (h : Below w.heap.size w w') : Wrt w w' := fun _ _ cs hb => ⟨cs, hb.below h hb.lt, rfl, fun _ _ => rfl, fun _ _ => rfl⟩
/-- An effect written over. -/
def eff7 (d : Int) : List Value := [.int .i64 d, .string ⟨#[]⟩, .string ⟨#[]⟩, .string ⟨#[]⟩, .int .i64 0, .int .i64 0, .int .i64 0]
theorem Wrt.setCells {g : Nat} (vs : List Value) : ∀ {w : World} {cs : List Value} (o : Nat), Blk w g 36 cs → Wrt w (w.setCells g o vs) := by
  induction vs with
  | nil => intro w cs o _; exact Wrt.refl w
  | cons v vs ih =>
    intro w cs o h
    exact (Wrt.set h o v (fun e => absurd e (by decide)) (fun e => absurd e (by decide))).trans (ih (o + 1) (h.set_ o v))
theorem there7 {w : World} {g o : Nat} {cs : List Value} (h : Blk w g 36 cs) (hl : o + 7 ≤ cs.length) : w.there g o 7 := fun j hj =>
  ⟨by rw [h.cell, List.getElem?_eq_getElem (by omega)]; rfl, h.frozen _⟩
theorem one7 (d : Int) : (eff7 d).toArray.all (·.oneCell') = true := Go.all_oneCell_toArray (fun v hv => by
  simp [eff7] at hv
  rcases hv with rfl | rfl | rfl <;> rfl)
theorem size36 : (Try.prog.info? 36).map (·.size) = some 7 := by kernel_rfl
end Go.Proofs.Ytfeeajodgcdflaa
