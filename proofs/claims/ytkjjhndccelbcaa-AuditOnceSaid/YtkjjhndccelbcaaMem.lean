/-
  Small words on memory, over any program: frames, blocks known whole, maps with integer keys, slices that read as lists of cells.
-/
import Derived.WalkKit
import Derived.MapKept
import Derived.Maps.OwnOps
import Derived.Deep.Draws
import Derived.StillTailTactics
import Derived.Deep.QuietTactic
import Derived.BigQuiet
import Derived.Maps.AppendAt
import Derived.Laws.AppendOwnNone
namespace Go.Troupe
open Go.RowKit

/-- a fact kept from the walk -/
theorem hid {p : Prop} (h : p) : Hid p := h

/-- Only the blocks of S may have changed, and there may be new ones. -/
structure Frm (S : Nat → Prop) (w w' : World) : Prop where
  os : w'.os = w.os
  tape : w'.tape = w.tape
  output : w'.output = w.output
  size : w.heap.size ≤ w'.heap.size
  block : ∀ k, k < w.heap.size → ¬ S k → w'.heap[k]? = w.heap[k]?

section
variable {S S' : Nat → Prop} {a w w' : World}
theorem Frm.refl (S : Nat → Prop) (w : World) : Frm S w w := ⟨rfl, rfl, rfl, Nat.le_refl _, fun _ _ _ => rfl⟩
theorem Frm.mono (h : Frm S w w') (hs : ∀ k, k < w.heap.size → S k → S' k) : Frm S' w w' := ⟨h.os, h.tape, h.output, h.size, fun k hk hn => h.block k hk fun hS => hn (hs k hk hS)⟩
theorem Frm.trans (h : Frm S a w) (h' : Frm S' w w') (hs : ∀ k, k < a.heap.size → S' k → S k) : Frm S a w' :=
  ⟨h'.os.trans h.os, h'.tape.trans h.tape, h'.output.trans h.output, Nat.le_trans h.size h'.size, fun k hk hn => (h'.block k (Nat.lt_of_lt_of_le hk h.size) fun hS => hn (hs k hk hS)).trans (h.block k hk hn)⟩
theorem Frm.and_then (h : Frm S a w) (h' : Frm S' w w') : Frm (fun k => S k ∨ S' k) a w' := (h.mono fun _ _ h => .inl h).trans h' fun _ _ h => .inr h
theorem Frm.one (w : World) (p : Addr) (u : Value) : Frm (fun k => k = p.block) w (w.setCell p u) :=
  ⟨rfl, rfl, rfl, by simp [World.setCell], fun k _ hn => Below.heap_setCell w p u k hn⟩
theorem Frm.of_below {B : Nat} (h : Below B w w') : Frm (fun k => B ≤ k) w w' := ⟨h.os, h.tape, h.output, h.size, fun k _ hn => h.block k (by omega)⟩
theorem Frm.below {B : Nat} (h : Frm S w w') (hB : B ≤ w.heap.size) (hs : ∀ k, S k → B ≤ k) : Below B w w' :=
  ⟨h.os, h.tape, h.output, h.size, fun k hk => h.block k (by omega) fun hS => by have := hs k hS; omega⟩
theorem Frm.of_grown {row : Option Nat} (h : w.grownBy w' row) : Frm (fun k => some k = row) w w' := ⟨h.os, h.tape, h.output, h.size, fun k hk hn => h.block k hk hn⟩
theorem Frm.alloc (h : Frm S a w) (o : Obj) : Frm S a (w.alloc o) :=
  h.trans (S' := fun _ => False) ⟨rfl, rfl, rfl, by simp, fun k hk _ => Below.heap_alloc _ _ _ hk⟩ (fun _ _ h => h.elim)
theorem Frm.drew (h : Frm S a w) : Frm S a w.drew := ⟨h.os, h.tape, h.output, h.size, h.block⟩
theorem Frm.drewN (h : Frm S a w) (n : Nat) : Frm S a (w.drewN n) := ⟨h.os, h.tape, h.output, h.size, h.block⟩
theorem Frm.setCell (h : Frm S a w) {p : Addr} (hp : p.block < a.heap.size → S p.block) (u : Value) : Frm S a (w.setCell p u) :=
  ⟨h.os, h.tape, h.output, by simpa [World.setCell] using h.size, fun k hk hn => (Below.heap_setCell w p u k (fun e => hn (e ▸ hp (e ▸ hk)))).trans (h.block k hk hn)⟩
theorem Frm.cell (h : Frm S w w') {p : Addr} (hl : p.block < w.heap.size) (hp : ¬ S p.block) : w'.cell? p = w.cell? p := World.cell?_of_block (h.block _ hl hp)
theorem Frm.frozen (h : Frm S w w') {p : Addr} (hl : p.block < w.heap.size) (hp : ¬ S p.block) : w'.frozen? p = w.frozen? p := World.frozen?_of_block (h.block _ hl hp)
end

/-- Block g is these cells of element type t, none frozen. -/
def Blk (w : World) (g : Nat) (t : TypeId) (cs : List Value) : Prop := w.heap[g]? = some (.cells cs.toArray t (0, 0))

section
variable {w w' : World} {g : Nat} {t : TypeId} {cs : List Value}
theorem Blk.lt (h : Blk w g t cs) : g < w.heap.size := (Array.getElem?_eq_some_iff.1 h).1
theorem Blk.cell (h : Blk w g t cs) (i : Nat) : w.cell? ⟨g, i, none⟩ = cs[i]? := by
  unfold Blk at h
  simp [World.cell?, h]
theorem Blk.frozen (h : Blk w g t cs) (i : Nat) : w.frozen? ⟨g, i, none⟩ = false := by
  unfold Blk at h
  simp [World.frozen?, h]
theorem Blk.new (w : World) (t : TypeId) (cs : List Value) : Blk (w.alloc (.cells cs.toArray t)) w.heap.size t cs := by
  unfold Blk
  exact (MapKept.heap_alloc w _).1
theorem Blk.alloc (h : Blk w g t cs) (o : Obj) : Blk (w.alloc o) g t cs := (Below.heap_alloc w o g h.lt).trans h
theorem Blk.drew (h : Blk w g t cs) : Blk w.drew g t cs := h
theorem Blk.drewN (h : Blk w g t cs) (n : Nat) : Blk (w.drewN n) g t cs := h
theorem Blk.set_ (h : Blk w g t cs) (i : Nat) (u : Value) : Blk (w.setCell ⟨g, i, none⟩ u) g t (cs.set i u) := by
  unfold Blk at h ⊢
  simp [World.setCell, Array.getElem?_modify, h]
theorem Blk.far (h : Blk w g t cs) {p : Addr} (hp : g ≠ p.block) (u : Value) : Blk (w.setCell p u) g t cs := (Below.heap_setCell w p u g hp).trans h
theorem Blk.frm {S : Nat → Prop} (h : Blk w g t cs) (hf : Frm S w w') (hg : ¬ S g) : Blk w' g t cs := (hf.block g h.lt hg).trans h
theorem Blk.below {B : Nat} (h : Blk w g t cs) (hb : Below B w w') (hg : g < B) : Blk w' g t cs := (hb.block g hg).trans h
theorem Blk.ne {g' : Nat} {t' : TypeId} {cs' : List Value} (h : Blk w g t cs) (h' : Blk w g' t' cs') (ht : t ≠ t') : g ≠ g' := by
  rintro rfl
  unfold Blk at h h'
  rw [h] at h'
  injection h' with h'
  injection h' with _ h' _
  exact ht h'
end

/-- Many cells stored, one behind the other: what lies ahead of them stays. -/
theorem Blk.setCells {g : Nat} {t : TypeId} (vs : List Value) : ∀ {w : World} {cs : List Value} (o : Nat), Blk w g t cs → ∃ cs', Blk (w.setCells g o vs) g t cs' ∧ cs'.length = cs.length ∧ cs'.take o = cs.take o := by
  induction vs with
  | nil => intro w cs o h; exact ⟨cs, h, rfl, rfl⟩
  | cons v vs ih =>
    intro w cs o h
    obtain ⟨cs', h1, h2, h3⟩ := ih (o + 1) (h.set_ o v)
    refine ⟨cs', h1, by rw [h2, List.length_set], ?_⟩
    have := congrArg (List.take o) h3
    rw [List.take_take, List.take_take, Nat.min_eq_left (Nat.le_succ o)] at this
    rw [this, List.take_set_of_le (Nat.le_refl o)]
theorem Frm.setCells {g : Nat} (vs : List Value) : ∀ (w : World) (o : Nat), Frm (fun k => k = g) w (w.setCells g o vs) := by
  induction vs with
  | nil => intro w o; exact Frm.refl _ _
  | cons v vs ih => intro w o; exact (Frm.one w ⟨g, o, none⟩ v).trans (ih _ (o + 1)) (fun _ _ h => h)

/-! ### maps with integer keys -/

/-- Block m is a map of n entries, keys of kind q; what it holds under k is g k. -/
def IMap (w : World) (m : Nat) (q : IntKind) (n : Nat) (g : Int → Option Value) : Prop :=
  ∃ es clock, w.heap[m]? = some (.map es clock) ∧ es.size = n ∧ (∀ e ∈ es.toList, ∃ k, e.key = .int q k) ∧ (es.toList.map (·.key)).Nodup ∧
    ∀ k v, g k = some v ↔ ∃ e ∈ es.toList, e.key = .int q k ∧ e.val = v

def upd (g : Int → Option Value) (k : Int) (v : Option Value) : Int → Option Value := fun j => if j = k then v else g j
@[simp] theorem upd_same (g : Int → Option Value) (k : Int) (v : Option Value) : upd g k v k = v := by simp [upd]
theorem upd_ne (g : Int → Option Value) {k j : Int} (v : Option Value) (h : j ≠ k) : upd g k v j = g j := by simp [upd, h]

section
variable {P : Program} {w w' : World} {m n : Nat} {q : IntKind} {g : Int → Option Value} {T K E : TypeId}
theorem IMap.lt (h : IMap w m q n g) : m < w.heap.size := by
  obtain ⟨es, clock, hb, _⟩ := h
  exact (Array.getElem?_eq_some_iff.1 hb).1
theorem IMap.ne_blk (h : IMap w m q n g) {b : Nat} {t : TypeId} {cs : List Value} (h' : Blk w b t cs) : m ≠ b := by
  rintro rfl
  obtain ⟨es, clock, hb, _⟩ := h
  unfold Blk at h'
  rw [hb] at h'
  cases h'
theorem IMap.keep (h : IMap w m q n g) (hb : w'.heap[m]? = w.heap[m]?) : IMap w' m q n g := by
  obtain ⟨es, clock, h1, h2⟩ := h
  exact ⟨es, clock, hb.trans h1, h2⟩
theorem IMap.frm {S : Nat → Prop} (h : IMap w m q n g) (hf : Frm S w w') (hm : ¬ S m) : IMap w' m q n g := h.keep (hf.block m h.lt hm)
theorem IMap.alloc (h : IMap w m q n g) (o : Obj) : IMap (w.alloc o) m q n g := h.keep (Below.heap_alloc w o m h.lt)
theorem IMap.drew (h : IMap w m q n g) : IMap w.drew m q n g := h
theorem IMap.drewN (h : IMap w m q n g) (k : Nat) : IMap (w.drewN k) m q n g := h
theorem IMap.far (h : IMap w m q n g) {p : Addr} (hp : m ≠ p.block) (u : Value) : IMap (w.setCell p u) m q n g := h.keep (Below.heap_setCell w p u m hp)
theorem IMap.made (w : World) (q : IntKind) : IMap (w.alloc (.map #[] 0)) w.heap.size q 0 (fun _ => none) :=
  ⟨#[], 0, (MapKept.heap_alloc w _).1, rfl, by simp, by simp, by simp⟩

theorem isKey_of {e : MapEntry} {q : IntKind} (h : ∃ k, e.key = .int q k) : MapKept.IsKey (.int q) e.key := by
  obtain ⟨k, h⟩ := h
  rw [h]
  simp [MapKept.IsKey]

/-- where a key stands: nowhere, or at one entry -/
theorem IMap.find {es : Array MapEntry} (hk : ∀ e ∈ es.toList, ∃ k, e.key = .int q k) (hg : ∀ k v, g k = some v ↔ ∃ e ∈ es.toList, e.key = .int q k ∧ e.val = v) (k : Int) :
    (Instr.findNow (.int q) (.int q k) es.toList 0 = some none ∧ g k = none ∧ ∀ x ∈ es.toList, x.key ≠ .int q k) ∨
      ∃ j e, Instr.findNow (.int q) (.int q k) es.toList 0 = some (some (j, e.val)) ∧ es.toList[j]? = some e ∧ e.key = .int q k ∧ g k = some e.val := by
  rcases MapKept.findNow_spec (d := .int q) (k := .int q k) (by simp [MapKept.IsKey]) es.toList 0 (fun x hx => isKey_of (hk x hx)) with ⟨h1, h2⟩ | ⟨j, e, h1, h2, h3⟩
  · refine .inl ⟨h1, ?_, h2⟩
    cases hgk : g k with
    | none => rfl
    | some v =>
      obtain ⟨e, he, hke, _⟩ := (hg k v).1 hgk
      exact absurd hke (h2 e he)
  · refine .inr ⟨j, e, by simpa using h1, h2, h3, (hg k e.val).2 ⟨e, List.mem_of_getElem? h2, h3, rfl⟩⟩

theorem IMap.run_look (h : IMap w m q n g) (hT : P.underlying T = some (.map K E)) (hK : P.underlying K = some (.int q)) {z : Value} (hz : (zeroValue E).run P w = .ok z w) (k : Int) :
    (Instr.lookup T (.map (some m)) (.int q k) false).run P w = .ok ((g k).getD z) w := by
  obtain ⟨es, clock, hb, _, hk, _, hg⟩ := h
  rcases IMap.find hk hg k with ⟨h1, h2, _⟩ | ⟨j, e, h1, _, _, h2⟩
  · simp [Instr.lookup, run_underlying hT, MapKept.run_getObj_map hb, MapKept.run_checkKey hK (k := .int q k) (by simp [MapKept.IsKey]), MapKept.run_findKey hK h1, hz, h2, Result.andThen]
  · simp [Instr.lookup, run_underlying hT, MapKept.run_getObj_map hb, MapKept.run_checkKey hK (k := .int q k) (by simp [MapKept.IsKey]), MapKept.run_findKey hK h1, h2, Result.andThen]
theorem IMap.run_look_ok (h : IMap w m q n g) (hT : P.underlying T = some (.map K E)) (hK : P.underlying K = some (.int q)) {z : Value} (hz : (zeroValue E).run P w = .ok z w) (k : Int) :
    (Instr.lookup T (.map (some m)) (.int q k) true).run P w = .ok (.tuple #[(g k).getD z, .bool (g k).isSome]) w := by
  obtain ⟨es, clock, hb, _, hk, _, hg⟩ := h
  rcases IMap.find hk hg k with ⟨h1, h2, _⟩ | ⟨j, e, h1, _, _, h2⟩
  · simp [Instr.lookup, run_underlying hT, MapKept.run_getObj_map hb, MapKept.run_checkKey hK (k := .int q k) (by simp [MapKept.IsKey]), MapKept.run_findKey hK h1, hz, h2, Result.andThen]
  · simp [Instr.lookup, run_underlying hT, MapKept.run_getObj_map hb, MapKept.run_checkKey hK (k := .int q k) (by simp [MapKept.IsKey]), MapKept.run_findKey hK h1, h2, Result.andThen]

theorem frm_set {S : Nat → Prop} (w : World) (m : Nat) (o : Obj) (hS : S m) : Frm S w { w with heap := w.heap.setIfInBounds m o } :=
  ⟨rfl, rfl, rfl, by simp, fun k _ hn => by
    have : m ≠ k := fun e => hn (e ▸ hS)
    simp [Array.getElem?_setIfInBounds_ne this]⟩

theorem IMap.run_put (h : IMap w m q n g) (hT : P.underlying T = some (.map K E)) (hK : P.underlying K = some (.int q)) (k : Int) (v : Value) :
    ∃ w', (Instr.mapUpdate T (.map (some m)) (.int q k) v).run P w = .ok () w' ∧ IMap w' m q (if (g k).isSome then n else n + 1) (upd g k (some v)) ∧ Frm (fun j => j = m) w w' := by
  have hlt := h.lt
  obtain ⟨es, clock, hb, hn, hk, hd, hg⟩ := h
  rcases IMap.find hk hg k with ⟨h1, h2, h3⟩ | ⟨j, e, h1, hj, hke, h2⟩
  · refine ⟨{ w with heap := w.heap.setIfInBounds m (.map (es.push { key := .int q k, val := v, born := clock }) (clock + 1)) }, ?_, ?_, frm_set w m _ rfl⟩
    · simp [Instr.mapUpdate, run_underlying hT, MapKept.run_getObj_map hb, MapKept.run_checkKey hK (k := .int q k) (by simp [MapKept.IsKey]), MapKept.run_findKey hK h1, MapKept.run_setObj_map _ hb, Result.andThen]
    · refine ⟨_, _, (MapKept.heap_set hb).1, by simp [h2, hn], ?_, ?_, ?_⟩
      · intro x hx
        simp only [Array.toList_push, List.mem_append, List.mem_singleton] at hx
        rcases hx with hx | rfl
        · exact hk x hx
        · exact ⟨k, rfl⟩
      · simp only [Array.toList_push, List.map_append, List.map_cons, List.map_nil]
        rw [List.nodup_append]
        refine ⟨hd, by simp, ?_⟩
        intro x hx y hy
        obtain ⟨e, he, rfl⟩ := List.mem_map.1 hx
        simp only [List.mem_singleton] at hy
        subst hy
        exact h3 e he
      · intro j u
        simp only [Array.toList_push, List.mem_append, List.mem_singleton]
        by_cases hjk : j = k
        · subst hjk
          rw [upd_same]
          constructor
          · rintro ⟨rfl⟩
            exact ⟨_, .inr rfl, rfl, rfl⟩
          · rintro ⟨e, he | rfl, h4, h5⟩
            · exact absurd h4 (h3 e he)
            · simp at h5; simp [h5]
        · rw [upd_ne _ _ hjk, hg]
          constructor
          · rintro ⟨e, he, h4, h5⟩
            exact ⟨e, .inl he, h4, h5⟩
          · rintro ⟨e, he | rfl, h4, h5⟩
            · exact ⟨e, he, h4, h5⟩
            · simp at h4; exact absurd h4.symm hjk
  · have hje : es[j]? = some e := by simpa using hj
    refine ⟨{ w with heap := w.heap.setIfInBounds m (.map (es.modify j fun e => { e with key := .int q k, val := v }) clock) }, ?_, ?_, frm_set w m _ rfl⟩
    · simp [Instr.mapUpdate, run_underlying hT, MapKept.run_getObj_map hb, MapKept.run_checkKey hK (k := .int q k) (by simp [MapKept.IsKey]), MapKept.run_findKey hK h1, hje, hke, MapKept.run_keyThatStays (d := .int q) (k := .int q k) (by simp [MapKept.IsKey]), MapKept.run_setObj_map _ hb, Result.andThen]
    · have hkeys : ((es.modify j fun e => { e with key := .int q k, val := v }).toList.map (·.key)) = es.toList.map (·.key) := by
        apply List.ext_getElem?
        intro i
        simp only [List.getElem?_map, Array.getElem?_toList, Array.getElem?_modify]
        by_cases hij : j = i
        · subst hij; simp [hje, hke]
        · simp [hij]
      refine ⟨_, _, (MapKept.heap_set hb).1, by simp [h2, hn], ?_, by rw [hkeys]; exact hd, ?_⟩
      · intro x hx
        have : x.key ∈ es.toList.map (·.key) := hkeys ▸ List.mem_map.2 ⟨x, hx, rfl⟩
        obtain ⟨y, hy, hxy⟩ := List.mem_map.1 this
        rw [← hxy]
        exact hk y hy
      · intro i u
        have hmem : ∀ x, x ∈ (es.modify j fun e => { e with key := .int q k, val := v }).toList ↔ ∃ l : Nat, (if j = l then es[l]?.map (fun e => ({ e with key := .int q k, val := v } : MapEntry)) else es[l]?) = some x := by
          intro x
          rw [List.mem_iff_getElem?]
          simp only [Array.getElem?_toList, Array.getElem?_modify]
        have huniq : ∀ l e', es[l]? = some e' → e'.key = .int q k → l = j := by
          intro l e' hl hke'
          have hl' : (es.toList.map (·.key))[l]? = some (.int q k) := by simp [hl, hke']
          have hj' : (es.toList.map (·.key))[j]? = some (.int q k) := by simp [hje, hke]
          exact (List.getElem?_inj (List.getElem?_eq_some_iff.1 hl').1 hd).1 (hl'.trans hj'.symm)
        by_cases hik : i = k
        · subst hik
          rw [upd_same]
          constructor
          · rintro ⟨rfl⟩
            exact ⟨{ e with key := .int q i, val := v }, (hmem _).2 ⟨j, by simp [hje]⟩, rfl, rfl⟩
          · rintro ⟨x, hx, h4, h5⟩
            obtain ⟨l, hl⟩ := (hmem x).1 hx
            by_cases hjl : j = l
            · subst hjl
              simp [hje] at hl
              subst hl
              simp at h5
              simp [h5]
            · rw [if_neg hjl] at hl
              exact absurd (huniq l x hl h4).symm hjl
        · rw [upd_ne _ _ hik, hg]
          constructor
          · rintro ⟨x, hx, h4, h5⟩
            obtain ⟨l, hl⟩ := List.mem_iff_getElem?.1 hx
            refine ⟨x, (hmem x).2 ⟨l, ?_⟩, h4, h5⟩
            have hjl : j ≠ l := by
              rintro rfl
              rw [hj] at hl
              cases hl
              rw [hke] at h4
              injection h4 with _ h4
              exact hik h4.symm
            rw [if_neg hjl]
            simpa using hl
          · rintro ⟨x, hx, h4, h5⟩
            obtain ⟨l, hl⟩ := (hmem x).1 hx
            by_cases hjl : j = l
            · subst hjl
              simp [hje] at hl
              subst hl
              simp at h4
              exact absurd h4.symm hik
            · rw [if_neg hjl] at hl
              exact ⟨x, by simpa using Array.mem_of_getElem? hl, h4, h5⟩

theorem IMap.run_del (h : IMap w m q n g) (hT : P.underlying T = some (.map K E)) (hK : P.underlying K = some (.int q)) (ty : TypeId) (k : Int) :
    ∃ w', (Builtin.delete_ #[T, K] ty #[.map (some m), .int q k]).run P w = .ok (.tuple #[]) w' ∧ IMap w' m q (if (g k).isSome then n - 1 else n) (upd g k none) ∧ Frm (fun j => j = m) w w' := by
  have hlt := h.lt
  obtain ⟨es, clock, hb, hn, hk, hd, hg⟩ := h
  rcases IMap.find hk hg k with ⟨h1, h2, h3⟩ | ⟨j, e, h1, hj, hke, h2⟩
  · refine ⟨{ w with heap := w.heap.setIfInBounds m (.map es clock) }, ?_, ?_, frm_set w m _ rfl⟩
    · simp [Builtin.delete_, run_underlying hT, MapKept.run_getObj_map hb, MapKept.run_checkKey hK (k := .int q k) (by simp [MapKept.IsKey]), MapKept.run_findKey hK h1, MapKept.run_setObj_map _ hb, Result.andThen]
    · refine ⟨_, _, (MapKept.heap_set hb).1, by simp [h2, hn], hk, hd, ?_⟩
      intro j u
      by_cases hjk : j = k
      · subst hjk
        rw [upd_same]
        constructor
        · intro h; cases h
        · rintro ⟨e, he, h4, _⟩
          exact absurd h4 (h3 e he)
      · rw [upd_ne _ _ hjk, hg]
  · have hje : es[j]? = some e := by simpa using hj
    have hjl : j < es.size := (Array.getElem?_eq_some_iff.1 hje).1
    have hlist : (es.eraseIdxIfInBounds j).toList = es.toList.eraseIdx j := by
      unfold Array.eraseIdxIfInBounds
      rw [dif_pos hjl, Array.toList_eraseIdx]
    refine ⟨{ w with heap := w.heap.setIfInBounds m (.map (es.eraseIdxIfInBounds j) clock) }, ?_, ?_, frm_set w m _ rfl⟩
    · simp [Builtin.delete_, run_underlying hT, MapKept.run_getObj_map hb, MapKept.run_checkKey hK (k := .int q k) (by simp [MapKept.IsKey]), MapKept.run_findKey hK h1, MapKept.run_setObj_map _ hb, Result.andThen]
    · have hsub : (es.toList.eraseIdx j).Sublist es.toList := List.eraseIdx_sublist _ _
      refine ⟨_, _, (MapKept.heap_set hb).1, ?_, ?_, ?_, ?_⟩
      · have e1 : (es.eraseIdxIfInBounds j).size = (es.toList.eraseIdx j).length := by rw [← hlist, Array.length_toList]
        rw [e1, List.length_eraseIdx]
        have hjn : j < es.toList.length := by simpa using hjl
        rw [if_pos hjn]
        simp [h2, hn]
      · rw [hlist]
        exact fun x hx => hk x (hsub.subset hx)
      · rw [hlist]
        exact (hsub.map _).nodup hd
      · intro i u
        rw [hlist]
        have huniq : ∀ l e', es.toList[l]? = some e' → e'.key = .int q k → l = j := by
          intro l e' hl hke'
          have hl' : (es.toList.map (·.key))[l]? = some (.int q k) := by simp at hl; simp [hl, hke']
          have hj' : (es.toList.map (·.key))[j]? = some (.int q k) := by simp [hje, hke]
          exact (List.getElem?_inj (List.getElem?_eq_some_iff.1 hl').1 hd).1 (hl'.trans hj'.symm)
        by_cases hik : i = k
        · subst hik
          rw [upd_same]
          constructor
          · intro h; cases h
          · rintro ⟨x, hx, h4, _⟩
            obtain ⟨l, hne, hl⟩ := List.mem_eraseIdx_iff_getElem?.1 hx
            exact absurd (huniq l x hl h4) hne
        · rw [upd_ne _ _ hik, hg]
          constructor
          · rintro ⟨x, hx, h4, h5⟩
            refine ⟨x, ?_, h4, h5⟩
            obtain ⟨l, hl⟩ := List.mem_iff_getElem?.1 hx
            refine List.mem_eraseIdx_iff_getElem?.2 ⟨l, ?_, hl⟩
            rintro rfl
            rw [hj] at hl
            cases hl
            rw [hke] at h4
            injection h4 with _ h4
            exact hik h4.symm
          · rintro ⟨x, hx, h4, h5⟩
            exact ⟨x, hsub.subset hx, h4, h5⟩
theorem IMap.run_len (h : IMap w m q n g) (hT : P.underlying T = some (.map K E)) (ty : TypeId) : (Builtin.len_ #[T] ty #[.map (some m)]).run P w = .ok (.int .i64 n) w := by
  obtain ⟨es, clock, hb, hn, _⟩ := h
  simp [Builtin.len_, run_underlying hT, MapKept.run_getObj_map hb, hn, Result.andThen, goInt]

/-! at the operation -/
section
variable {ops : Array Oper} {rest : List Oper} {o : Oper} {a : Act} {Q : Exit → Act → World → Prop}
theorem wpList_look (hgd : o.guard = none) (mm x : Operand) (T : TypeId) (hop : o.op = Op.lookup T mm x false) (K E : TypeId) (hT : P.underlying T = some (.map K E)) (hK : P.underlying K = some (.int q))
    (z : Value) (hz : (zeroValue E).run P w = .ok z w) (hm : a.eval mm = .map (some m)) (h : IMap w m q n g) (k : Int) (hx : a.eval x = .int q k)
    (hK' : wpList P ops Q rest (a.put o.dst ((g k).getD z)) w) : wpList P ops Q (o :: rest) a w := by
  refine wpList_plain hgd fun K' hK'' => ?_
  have hrun := h.run_look hT hK hz k
  unfold Oper.wp
  simp [execOp, hop, hm, hx, hrun, Result.andThen]
  exact hK'' _ _ hK'
theorem wpList_put (hgd : o.guard = none) (mm x v : Operand) (T : TypeId) (hop : o.op = Op.mapUpdate T mm x v) (K E : TypeId) (hT : P.underlying T = some (.map K E)) (hK : P.underlying K = some (.int q))
    (hm : a.eval mm = .map (some m)) (h : IMap w m q n g) (k : Int) (hx : a.eval x = .int q k) (val : Value) (hv : a.eval v = val)
    (hK' : ∀ w', IMap w' m q (if (g k).isSome then n else n + 1) (upd g k (some val)) → Frm (fun j => j = m) w w' → wpList P ops Q rest (a.put o.dst undef) w') : wpList P ops Q (o :: rest) a w := by
  refine wpList_plain hgd fun K' hK'' => ?_
  obtain ⟨w', hrun, h1, h2⟩ := h.run_put (P := P) hT hK k val
  unfold Oper.wp
  simp [execOp, hop, hm, hx, hv, hrun, Result.andThen]
  exact hK'' _ _ (hK' w' h1 h2)
end
end

/-! ### slices that read as lists of cells -/

/-- The slice that begins at A holds the cells xs, in a block below B. -/
def Cells (w : World) (B : Nat) (A : Option Addr) (xs : List Value) : Prop :=
  xs = [] ∨ ∃ b off, A = some ⟨b, off, none⟩ ∧ b < B ∧ ∀ j u, xs[j]? = some u → w.cell? ⟨b, off + j, none⟩ = some u

section
variable {w w' : World} {B B' : Nat} {A : Option Addr} {xs : List Value}
theorem Cells.nil (w : World) (B : Nat) (A : Option Addr) : Cells w B A [] := .inl rfl
theorem Cells.keep (h : Cells w B A xs) (hk : ∀ p : Addr, p.block < B → ∀ u, w.cell? p = some u → w'.cell? p = some u) : Cells w' B A xs := by
  rcases h with h | ⟨b, off, hA, hb, hc⟩
  · exact .inl h
  · exact .inr ⟨b, off, hA, hb, fun j u hu => hk _ hb u (hc j u hu)⟩
theorem Cells.below (h : Cells w B A xs) (hb : Below B w w') : Cells w' B A xs := h.keep fun _ hp _ hu => (hb.cell hp).trans hu
theorem Cells.heap (h : Cells w B A xs) (hh : w'.heap = w.heap) : Cells w' B A xs := h.keep fun _ _ _ hu => (World.cell?_of_block (by rw [hh])).trans hu
theorem Cells.mono (h : Cells w B A xs) (hB : B ≤ B') : Cells w B' A xs := by
  rcases h with h | ⟨b, off, hA, hb, hc⟩
  · exact .inl h
  · exact .inr ⟨b, off, hA, by omega, hc⟩
theorem Cells.at_ (h : Cells w B A xs) (hne : xs ≠ []) : ∃ b off, A = some ⟨b, off, none⟩ ∧ b < B ∧ ∀ j u, xs[j]? = some u → w.cell? ⟨b, off + j, none⟩ = some u := by
  rcases h with h | h
  · exact absurd h hne
  · exact h
theorem Cells.cut (h : Cells w B A xs) (k : Nat) : Cells w B (A.map fun x => x.add k) (xs.drop k) := by
  rcases h with rfl | ⟨b, off, rfl, hb, hc⟩
  · exact .inl (by simp)
  · refine .inr ⟨b, off + k, ?_, hb, fun j u hu => ?_⟩
    · by_cases hk : k = 0
      · subst hk; simp [Addr.add]
      · simp [Addr.add, hk]
    · rw [Nat.add_assoc]
      exact hc _ u (by rw [← hu, List.getElem?_drop])
theorem Cells.take (h : Cells w B A xs) (k : Nat) : Cells w B A (xs.take k) := by
  rcases h with rfl | ⟨b, off, rfl, hb, hc⟩
  · exact .inl (by simp)
  · refine .inr ⟨b, off, rfl, hb, fun j u hu => hc _ u ?_⟩
    rw [List.getElem?_take] at hu
    split at hu
    · exact hu
    · cases hu
theorem Cells.blk {g : Nat} {t : TypeId} {n : Nat} (h : Blk w g t xs) (hg : g < B) : Cells w B (some ⟨g, 0, none⟩) (xs.take n) :=
  .inr ⟨g, 0, rfl, hg, fun j u hu => by
    rw [h.cell, Nat.zero_add]
    rw [List.getElem?_take] at hu
    split at hu
    · exact hu
    · cases hu⟩
end

/-! ### rows of the call's own -/
section
variable {w w' : World} {base : Nat} {e : TypeId} {size n cap : Nat} {v : Value} {xs : List Value}
theorem Blk.of_full {g : Nat} (h : w.ownsRow base e size (.slice (some ⟨g, 0, none⟩) n n) n xs) : Blk w g e xs := by
  obtain ⟨_, h | ⟨g', cap, cur, hv, _, hh, _, _, hs, ht⟩⟩ := h
  · exact absurd h.1 (by simp)
  · cases hv
    unfold Blk
    rw [← ht, hh, List.take_of_length_le (by simp [hs])]
theorem own_form (h : w.ownsRow base e size v n xs) : ∃ A cap, v = .slice A n cap ∧ n ≤ cap ∧ cap ≤ maxLen ∧ Cells w w.heap.size A xs ∧ (A = none → n = 0 ∧ cap = 0) ∧ (∀ a, A = some a → base ≤ a.block ∧ a.block < w.heap.size ∧ a.off = 0 ∧ a.spot = none) := by
  obtain ⟨hl, ⟨rfl, rfl⟩ | ⟨g, cap, cur, rfl, hb, hh, hn, hc, hs, ht⟩⟩ := h
  · exact ⟨none, 0, rfl, Nat.le_refl _, by simp [maxLen], .inl (List.eq_nil_of_length_eq_zero (by simpa using hl)), fun _ => ⟨rfl, rfl⟩, fun a h => by cases h⟩
  · have hlt : g < w.heap.size := (Array.getElem?_eq_some_iff.1 hh).1
    refine ⟨_, cap, rfl, hn, hc, .inr ⟨g, 0, rfl, hlt, fun j u hu => ?_⟩, fun h => by (cases h), fun a h => by (cases h; exact ⟨hb, hlt, rfl, rfl⟩)⟩
    rw [← ht, List.getElem?_take] at hu
    split at hu
    · simp [World.cell?, hh]
      simpa using hu
    · cases hu
end

section
variable {w w' : World} {base : Nat} {e : TypeId} {size n cap : Nat} {v : Value} {xs cs : List Value}
theorem own_blk {A : Option Addr} (h : w.ownsRow base e size (.slice A n cap) n xs) : (A = none ∧ n = 0 ∧ cap = 0 ∧ xs = []) ∨
    ∃ g cs, A = some ⟨g, 0, none⟩ ∧ Blk w g e cs ∧ cs.length = cap * size ∧ base ≤ g ∧ n ≤ cap ∧ cap ≤ maxLen ∧ cs.take (n * size) = xs := by
  obtain ⟨hl, h | ⟨g, cap', cur, hv, hb, hh, hn, hc, hs, ht⟩⟩ := h
  · simp only [Value.slice.injEq] at h
    obtain ⟨⟨rfl, rfl, rfl⟩, _⟩ := h
    exact .inl ⟨rfl, rfl, rfl, List.eq_nil_of_length_eq_zero (by simpa using hl)⟩
  · simp only [Value.slice.injEq, true_and] at hv
    obtain ⟨rfl, rfl⟩ := hv
    exact .inr ⟨g, cur.toList, rfl, by unfold Blk; simpa using hh, by simpa using hs, hb, hn, hc, ht⟩
theorem blk_own {g : Nat} (h : Blk w g e cs) (hs : cs.length = cap * size) (hb : base ≤ g) (hn : n ≤ cap) (hc : cap ≤ maxLen) :
    w.ownsRow base e size (.slice (some ⟨g, 0, none⟩) n cap) n (cs.take (n * size)) := by
  have hle : n * size ≤ cap * size := Nat.mul_le_mul_right _ hn
  exact ⟨by rw [List.length_take, hs]; omega, .inr ⟨g, cap, cs.toArray, rfl, hb, h, hn, hc, by simpa using hs, by simp⟩⟩
/-- A row of the call's own, behind whatever leaves its block alone. -/
theorem own_frm {S : Nat → Prop} (h : w.ownsRow base e size v n xs) (hf : Frm S w w') (hS : ∀ k, v.ownBlock = some k → ¬ S k) : w'.ownsRow base e size v n xs := by
  obtain ⟨h1, h2 | ⟨g, cap, cur, rfl, hb, hh, r⟩⟩ := h
  · exact ⟨h1, .inl h2⟩
  · have hlt : g < w.heap.size := (Array.getElem?_eq_some_iff.1 hh).1
    exact ⟨h1, .inr ⟨g, cap, cur, rfl, hb, (hf.block g hlt (hS g rfl)).trans hh, r⟩⟩
theorem own_heap (h : w.ownsRow base e size v n xs) (hh : w'.heap = w.heap) : w'.ownsRow base e size v n xs := by
  obtain ⟨h1, h2 | ⟨g, cap, cur, rfl, hb, h3, r⟩⟩ := h
  · exact ⟨h1, .inl h2⟩
  · exact ⟨h1, .inr ⟨g, cap, cur, rfl, hb, by rw [hh]; exact h3, r⟩⟩
end

/-- What an append leaves: the row grown, in its own block or in a new one; nothing else has changed. -/
structure Appended (w w' : World) (base : Nat) (e : TypeId) (size : Nat) (v v' : Value) (n : Nat) (xs : List Value) : Prop where
  own : w'.ownsRow base e size v' n xs
  frm : Frm (fun k => v.ownBlock = some k) w w'
  at_ : v'.ownBlock = v.ownBlock ∨ v'.ownBlock = some w.heap.size

theorem run_app {P : Program} {w : World} (base : Nat) (t ty e : TypeId) {z : Value} {size bytes : Nat} (hinfo : (P.info? e).map (fun i => (i.zero, i.size, i.bytes)) = some (some z, size, bytes)) (ht : P.underlying t = some (.slice e))
    (hzs : z.cells.size = size) (hsz : 0 < size) (v : Value) (n : Nat) (xs : List Value) (hown : w.ownsRow base e size v n xs)
    (B : Nat) (A : Option Addr) (m c : Nat) (news : List Value) (hl : news.length = m * size) (hc : Cells w B A news) (hA : A = none → c = 0) (h1 : ∀ u ∈ news, u.oneCell' = true)
    (hb : (n + m) * bytes ≤ 140737488355328) (hm : n + m ≤ maxLen) (hbase : base ≤ w.heap.size) :
    ∃ v' w', (Builtin.append_ #[t, t] ty #[v, .slice A m c]).run P w = .ok v' w' ∧ Appended w w' base e size v v' (n + m) (xs ++ news) := by
  obtain ⟨i, hi, hz, hs, hby⟩ := info_parts hinfo
  cases A with
  | none =>
    have hn : news = [] := by
      rcases hc with h | ⟨b, off, h, _⟩
      · exact h
      · cases h
    subst hn
    obtain rfl : m = 0 := by
      rcases Nat.eq_zero_or_pos m with h | h
      · exact h
      · have := Nat.mul_pos h hsz
        simp at hl
        omega
    obtain rfl := hA rfl
    exact ⟨v, w, run_append_owned_none (P := P) (w := w) base t ty e i size ht hi v n xs hown, ⟨by simpa using hown, Frm.refl _ _, .inl rfl⟩⟩
  | some ad =>
    have hcell : ∀ j u, news[j]? = some u → w.cell? (ad.add j) = some u := by
      intro j u hu
      rcases hc with h | ⟨b, off, h, _, h'⟩
      · subst h; simp at hu
      · cases h
        have := h' j u hu
        by_cases hj : j = 0
        · subst hj; simpa [Addr.add] using this
        · simpa [Addr.add, hj] using this
    obtain ⟨v', w', hrun, h2, h3, _, h5⟩ := run_append_own_at (P := P) (w := w) base t ty e i z size bytes ht hi hz hs hby hzs hsz v n xs hown ad m c news hl hcell h1 hm hb hbase
    exact ⟨v', w', hrun, ⟨h2, (Frm.of_grown h3).mono fun k _ hk => hk.symm, h5⟩⟩

theorem wpList_app {P : Program} {w : World} {ops : Array Oper} {rest : List Oper} {o : Oper} {a : Act} {Q : Exit → Act → World → Prop} (hgd : o.guard = none) (s x : Operand) (t : TypeId)
    (ho : o.op = .call { callee := .builtin .append, args := #[s, x], argTypes := #[t, t] })
    (base : Nat) (e : TypeId) {z : Value} {size bytes : Nat} (hinfo : (P.info? e).map (fun i => (i.zero, i.size, i.bytes)) = some (some z, size, bytes)) (ht : P.underlying t = some (.slice e))
    (hzs : z.cells.size = size) (hsz : 0 < size) (v : Value) (n : Nat) (xs : List Value) (hs : a.eval s = v) (hown : w.ownsRow base e size v n xs)
    (B : Nat) (A : Option Addr) (m c : Nat) (news : List Value) (hx : a.eval x = .slice A m c) (hl : news.length = m * size) (hc : Cells w B A news) (hA : A = none → c = 0) (h1 : ∀ u ∈ news, u.oneCell' = true)
    (hb : (n + m) * bytes ≤ 140737488355328) (hm : n + m ≤ maxLen) (hbase : base ≤ w.heap.size)
    (hK : ∀ v' w', Appended w w' base e size v v' (n + m) (xs ++ news) → wpList P ops Q rest (a.put o.dst v') w') : wpList P ops Q (o :: rest) a w := by
  refine wpList_plain hgd fun K hK' => ?_
  obtain ⟨v', w', hrun, h⟩ := run_app (P := P) (w := w) base t o.type e hinfo ht hzs hsz v n xs hown B A m c news hl hc hA h1 hb hm hbase
  unfold Oper.wp
  simp [execOp, ho, resolve, invoke, builtin, hs, hx, hrun, Result.andThen]
  exact hK' _ _ (hK v' w' h)

/-! ### regions whose order is drawn -/
section
variable {P : Program} {Q : Exit → Act → World → Prop} {a : Act} {w : World} {l : List Oper} {id : Nat}
theorem Frm.of_heap {S : Nat → Prop} {w w' : World} (h : w'.heap = w.heap) (ho : w'.os = w.os) (ht : w'.tape = w.tape) (hu : w'.output = w.output) : Frm S w w' := ⟨ho, ht, hu, by rw [h]; exact Nat.le_refl _, fun _ _ _ => by rw [h]⟩
/-- Reads in whatever order, then the tail in the order of the text; the world behind the draw under a name of its own. -/
theorem region_still_tail (n : Nat) (hm : P.follows .mixedOrders = true) (hB : Region.lexTailB .any l.toArray n = true)
    (h : ∀ w', w'.heap = w.heap → Frm (fun _ => False) w w' → wpStill P l.toArray w' (fun a' => wpList P l.toArray Q (l.drop n) a' w') (l.take n) a) : (Code.region id l.toArray true).wp P Q a w :=
  wp_region_still_tail n hm hB (h { w with drawn := w.drawn + 1 } rfl (Frm.of_heap rfl rfl rfl rfl))
/-- Only reads. -/
theorem region_still (hm : P.follows .mixedOrders = true) (hB : Region.lexB .any l.toArray = true)
    (h : ∀ w', w'.heap = w.heap → Frm (fun _ => False) w w' → wpStill P l.toArray w' (fun a' => Q .normal a' w') l a) : (Code.region id l.toArray true).wp P Q a w :=
  wp_region_still_lit hm hB (h { w with drawn := w.drawn + 1 } rfl (Frm.of_heap rfl rfl rfl rfl))
end
section
variable {w w' : World}
theorem Blk.heap {g : Nat} {t : TypeId} {cs : List Value} (h : Blk w g t cs) (hh : w'.heap = w.heap) : Blk w' g t cs := by unfold Blk at h ⊢; rw [hh]; exact h
theorem IMap.heap {m n : Nat} {q : IntKind} {g : Int → Option Value} (h : IMap w m q n g) (hh : w'.heap = w.heap) : IMap w' m q n g := h.keep (by rw [hh])
end
end Go.Troupe
