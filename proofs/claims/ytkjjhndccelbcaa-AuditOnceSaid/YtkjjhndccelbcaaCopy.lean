/-
  copy, clear and append into a block that is known whole, elements of whatever number of cells; over any program.
-/
import Derived.Test.YtkjjhndccelbcaaMem
import Derived.ArgAppend
import Derived.Laws.IdiomCopy
namespace Go.Troupe
open Go.RowKit

/-- cells written over, one behind the other -/
def sets (cs : List Value) (o : Nat) : List Value → List Value
  | [] => cs
  | v :: vs => sets (cs.set o v) (o + 1) vs
theorem sets_len : ∀ (vs : List Value) (cs : List Value) (o : Nat), (sets cs o vs).length = cs.length
  | [], cs, o => rfl
  | v :: vs, cs, o => by unfold sets; rw [sets_len vs]; simp
theorem sets_get : ∀ (vs : List Value) (cs : List Value) (o k : Nat), o + vs.length ≤ cs.length → (sets cs o vs)[k]? = if o ≤ k ∧ k < o + vs.length then vs[k - o]? else cs[k]?
  | [], cs, o, k, _ => by
    unfold sets
    rw [if_neg (by simp only [List.length_nil]; omega)]
  | v :: vs, cs, o, k, h => by
    unfold sets
    rw [List.length_cons] at h
    rw [sets_get vs (cs.set o v) (o + 1) k (by simp; omega), List.getElem?_set]
    by_cases h1 : o = k
    · subst h1
      rw [if_neg (by omega), if_pos rfl, if_pos (by omega), if_pos (by simp)]
      simp
    · by_cases h2 : o + 1 ≤ k ∧ k < o + 1 + vs.length
      · rw [if_pos h2, if_pos (by rw [List.length_cons]; omega)]
        obtain ⟨j, hj⟩ : ∃ j, k - o = j + 1 := ⟨k - o - 1, by omega⟩
        rw [hj, show k - (o + 1) = j by omega]
        simp
      · rw [if_neg h2, if_neg h1, if_neg (by rw [List.length_cons]; omega)]
/-- What lies ahead stays; what was written stands there; what lies behind stays. -/
theorem sets_eq (cs : List Value) (o : Nat) (vs : List Value) (h : o + vs.length ≤ cs.length) : sets cs o vs = cs.take o ++ vs ++ cs.drop (o + vs.length) := by
  apply List.ext_getElem?
  intro k
  rw [sets_get vs cs o k h]
  have ht : (cs.take o).length = o := by rw [List.length_take]; omega
  by_cases h1 : k < o
  · rw [if_neg (by omega), List.append_assoc, List.getElem?_append_left (by omega), List.getElem?_take, if_pos h1]
  · by_cases h2 : k < o + vs.length
    · rw [if_pos ⟨by omega, h2⟩, List.getElem?_append_left (by rw [List.length_append]; omega), List.getElem?_append_right (by omega), ht]
    · rw [if_neg (by omega), List.getElem?_append_right (by rw [List.length_append]; omega), List.getElem?_drop, List.length_append, ht]
      congr 1; omega
theorem Blk.sets {g : Nat} {t : TypeId} (vs : List Value) : ∀ {w : World} {cs : List Value} (o : Nat), Blk w g t cs → Blk (w.setCells g o vs) g t (sets cs o vs) := by
  induction vs with
  | nil => intro w cs o h; exact h
  | cons v vs ih => intro w cs o h; exact ih (o + 1) (h.set_ o v)
theorem Blk.isSome {w : World} {g : Nat} {t : TypeId} {cs : List Value} (h : Blk w g t cs) {i : Nat} (hi : i < cs.length) : (w.cell? ⟨g, i, none⟩).isSome = true := by
  rw [h.cell, List.getElem?_eq_getElem hi]; rfl

section
variable {P : Program} {w : World}
/-- copy, as cells go over. -/
theorem run_copyN (size : Nat) (dT sT ty elem : TypeId) (b o dLen dCap : Nat) (a : Addr) (sLen sCap m : Nat) (cs : List Value)
    (hu : P.underlying dT = some (.slice elem)) (hs : (P.info? elem).map (·.size) = some size) (hm : Nat.min sLen dLen = m) (hn : cs.length = m * size)
    (hsrc : ∀ j v, cs[j]? = some v → w.cell? (a.add j) = some v) (hc : ∀ j, j < cs.length → (w.cell? ⟨b, o + j, none⟩).isSome = true) (hf : ∀ j, j < cs.length → w.frozen? ⟨b, o + j, none⟩ = false) (h1 : ∀ v ∈ cs, v.oneCell' = true) :
    (Builtin.copy_ #[dT, sT] ty #[.slice (some ⟨b, o, none⟩) dLen dCap, .slice (some a) sLen sCap]).run P w = .ok (goInt m) (w.setCells b o cs) := by
  have hl := run_loadCells_list (P := P) w a cs hsrc
  have hst := run_storeCells_cells (P := P) b o cs 0 w (by simpa using hc) (by simpa using hf) h1
  cases hq : P.info? elem with
  | none => simp [hq] at hs
  | some i =>
    have hi : i.size = size := by simpa [hq] using hs
    subst hi
    simp only [Nat.add_zero] at hst
    simp [Builtin.copy_, run_underlying hu, Builtin.lenOf, Builtin.firstCells, sizeOf, typeInfo, hq, hm, ← hn, hl, hst]
variable {ops : Array Oper} {rest : List Oper} {o : Oper} {a : Act} {Q : Exit → Act → World → Prop}
theorem wpList_copyN (hgd : o.guard = none) (d s : Operand) (dT sT : TypeId) (ho : o.op = .call { callee := .builtin .copy, args := #[d, s], argTypes := #[dT, sT] })
    (size : Nat) (elem : TypeId) (hu : P.underlying dT = some (.slice elem)) (hsz : (P.info? elem).map (·.size) = some size)
    (g off dLen dCap : Nat) (ad : Addr) (sLen sCap : Nat) (hd : a.eval d = .slice (some ⟨g, off, none⟩) dLen dCap) (hs : a.eval s = .slice (some ad) sLen sCap)
    (t : TypeId) (cur : List Value) (hg : Blk w g t cur) (m : Nat) (cs : List Value) (hm : Nat.min sLen dLen = m) (hn : cs.length = m * size)
    (hsrc : ∀ j v, cs[j]? = some v → w.cell? (ad.add j) = some v) (hfit : off + cs.length ≤ cur.length) (h1 : ∀ v ∈ cs, v.oneCell' = true)
    (h : ∀ w', Blk w' g t (sets cur off cs) → Frm (fun k => k = g) w w' → wpList P ops Q rest (a.put o.dst (goInt m)) w') : wpList P ops Q (o :: rest) a w := by
  refine wpList_plain hgd fun K hK => ?_
  have hrun := run_copyN (P := P) (w := w) size dT sT o.type elem g off dLen dCap ad sLen sCap m cs hu hsz hm hn hsrc (fun j hj => hg.isSome (by omega)) (fun j _ => hg.frozen _) h1
  unfold Oper.wp
  simp [execOp, ho, resolve, invoke, builtin, hd, hs, hrun, Result.andThen]
  exact hK _ _ (h _ (Blk.sets cs off hg) (Frm.setCells cs w off))
/-- clear, as cells of the zero value are laid. -/
theorem wpList_clearN (hgd : o.guard = none) (d : Operand) (dT : TypeId) (ho : o.op = .call { callee := .builtin .clear, args := #[d], argTypes := #[dT] })
    (elem : TypeId) (hu : P.underlying dT = some (.slice elem)) (z : Value) (hz : (zeroValue elem).run P w = .ok z w)
    (g off n c : Nat) (hd : a.eval d = .slice (some ⟨g, off, none⟩) n c) (hn : 0 < n)
    (t : TypeId) (cur : List Value) (hg : Blk w g t cur) (cs : List Value) (hcs : (Builtin.zeroCells z.cells n).toList = cs) (hfit : off + cs.length ≤ cur.length) (h1 : ∀ v ∈ cs, v.oneCell' = true)
    (h : ∀ w', Blk w' g t (sets cur off cs) → Frm (fun k => k = g) w w' → wpList P ops Q rest (a.put o.dst (.tuple #[])) w') : wpList P ops Q (o :: rest) a w := by
  refine wpList_plain hgd fun K hK => ?_
  have hst := run_storeCells_cells (P := P) g off cs 0 w (fun j hj => hg.isSome (by omega)) (fun j _ => hg.frozen _) h1
  simp only [Nat.add_zero] at hst
  obtain ⟨m, rfl⟩ : ∃ m, n = m + 1 := ⟨n - 1, by omega⟩
  have hrun : (Builtin.clear_ #[dT] o.type #[.slice (some ⟨g, off, none⟩) (m + 1) c]).run P w = .ok (.tuple #[]) (w.setCells g off cs) := by
    simp [Builtin.clear_, run_underlying hu, hz, hcs, hst]
  unfold Oper.wp
  simp [execOp, ho, resolve, invoke, builtin, hd, hrun, Result.andThen]
  exact hK _ _ (h _ (Blk.sets cs off hg) (Frm.setCells cs w off))
/-- append where there is room, into a block that is known whole. -/
theorem wpList_appRoom (hgd : o.guard = none) (s x : Operand) (t : TypeId) (ho : o.op = .call { callee := .builtin .append, args := #[s, x], argTypes := #[t, t] })
    (e : TypeId) (ht : P.underlying t = some (.slice e)) (size : Nat) (hinfo : (P.info? e).map (·.size) = some size)
    (g n cap : Nat) (hs : a.eval s = .slice (some ⟨g, 0, none⟩) n cap) (ad : Addr) (m c : Nat) (hx : a.eval x = .slice (some ad) m c) (tb : TypeId) (cur : List Value) (hg : Blk w g tb cur)
    (news : List Value) (hl : news.length = m * size) (hc : ∀ j u, news[j]? = some u → w.cell? (ad.add j) = some u) (h1 : ∀ u ∈ news, u.oneCell' = true)
    (hroom : n + m ≤ cap) (hfit : n * size + news.length ≤ cur.length)
    (h : ∀ w', Blk w' g tb (sets cur (n * size) news) → Frm (fun k => k = g) w w' → wpList P ops Q rest (a.put o.dst (.slice (some ⟨g, 0, none⟩) (n + m) cap)) w') : wpList P ops Q (o :: rest) a w := by
  refine wpList_plain hgd fun K hK => ?_
  cases hi : P.info? e with
  | none => rw [hi] at hinfo; simp at hinfo
  | some i =>
    have hsz : i.size = size := by rw [hi] at hinfo; simpa using hinfo
    subst hsz
    have hrun := run_append_room_cells (P := P) w t o.type e i ht hi g 0 n cap ad m c news hl hc h1 hroom (fun j hj => by rw [Nat.zero_add]; exact hg.isSome (by omega)) (fun j _ => hg.frozen _)
    rw [Nat.zero_add] at hrun
    unfold Oper.wp
    simp [execOp, ho, resolve, invoke, builtin, hs, hx, hrun, Result.andThen]
    exact hK _ _ (h _ (Blk.sets news _ hg) (Frm.setCells news w _))
end
end Go.Troupe
