/- Events in slices, and a program that stands: what the functions of the laws use of both. -/
import Derived.Test.YtkjjhndccelbcaaExample
import Derived.Deep.MidRow
namespace Go.Proofs.Ytkjjhndccelbcaa
open Go.RowKit Go.Maps Go.Troupe

theorem info32 : (Try.prog.info? 32).map (fun i => (i.zero, i.size, i.bytes)) = some (some (.agg #[.int .i64 0, .int .i64 0, .int .u64 0, .int .i64 0, .int .i64 0, .string ⟨#[]⟩, .int .i64 0, .int .i64 0, .bool false]), 9, 80) := by kernel_rfl
theorem one_evs (l : List Ev) : ∀ u ∈ flatV l, u.oneCell' = true := by
  intro u hu
  obtain ⟨x, _, h⟩ := List.mem_flatMap.1 hu
  simp [Ev.cells] at h
  rcases h with rfl | rfl | rfl | rfl | rfl | rfl | rfl | rfl | rfl <;> rfl
theorem flatV_app (a b : List Ev) : flatV (a ++ b) = flatV a ++ flatV b := by simp [flatV]
theorem flatV_one (e : Ev) : flatV [e] = e.cells := by simp [flatV]
/-- A program's kinds stand in a world, all below B. -/
structure Stands (w : World) (B : Nat) (Ak : Option Addr) (ck : Nat) (ks : List Kf) : Prop where
  c : Cells w B Ak (flatK ks)
  k : KindsIn w B ks
  b : B ≤ w.heap.size
  l : ks.length ≤ 140737488355328
  ck : ks.length ≤ ck
  cap : ∀ k ∈ ks, CapK k
section
variable {w w' : World} {B : Nat} {Ak Al : Option Addr} {ck cl : Nat} {ks : List Kf} {evs : List Ev}
theorem Stands.below (h : Stands w B Ak ck ks) (hb : Below B w w') : Stands w' B Ak ck ks := ⟨h.c.below hb, h.k.below hb, Nat.le_trans h.b hb.size, h.l, h.ck, h.cap⟩
theorem Stands.later (h : Stands w B Ak ck ks) (hb : Below w.heap.size w w') : Stands w' B Ak ck ks := h.below (hb.mono h.b)
theorem Stands.chk (h : Stands w B Ak ck ks) (hl : Cells w w.heap.size Al (flatV evs)) (hn : evs.length ≤ 1759218604441) (heo : ∀ e ∈ evs, EvOk e) {p : Int × Int} (hp : checkV ks evs = p) :
    Calls Try.prog 8 #[.agg #[.slice Ak ks.length ck], .slice Al evs.length cl] w fun en w' => en = .returned (.tuple #[.int .i64 p.1, .int .i64 p.2]) ∧ Below w.heap.size w w' := by
  rw [← hp]; exact check_any w (h.c.mono h.b) (h.k.mono h.b) h.l h.ck h.cap hl hn heo
end
theorem flatV_at {l : List Ev} {i : Nat} {e : Ev} (h : l[i]? = some e) {r : Nat} (hr : r < 9) : (flatV l)[i * 9 + r]? = e.cells[r]? := flat_at Ev.cells 9 (fun _ => rfl) l i e h r hr
theorem flatV_set {l : List Ev} {i : Nat} (hi : i < l.length) (e : Ev) : sets (flatV l) (i * 9) e.cells = flatV (l.set i e) := by
  have hlen : i * 9 + e.cells.length ≤ (flatV l).length := by rw [flatV_length]; show i * 9 + 9 ≤ _; omega
  rw [sets_eq _ _ _ hlen]
  have h1 : (flatV l).take (i * 9) = flatV (l.take i) := by
    have h0 : flatV l = flatV (l.take i) ++ flatV (l.drop i) := by rw [← flatV_app, List.take_append_drop]
    rw [h0, List.take_append_of_le_length (by rw [flatV_length, List.length_take]; omega), List.take_of_length_le (by rw [flatV_length, List.length_take]; omega)]
  have h2 : (flatV l).drop (i * 9 + 9) = flatV (l.drop (i + 1)) := by
    have h0 : flatV l = flatV (l.take (i + 1)) ++ flatV (l.drop (i + 1)) := by rw [← flatV_app, List.take_append_drop]
    have hl : (flatV (l.take (i + 1))).length = i * 9 + 9 := by rw [flatV_length, List.length_take]; omega
    rw [h0, ← hl, List.drop_left]
  rw [h1, show e.cells.length = 9 from rfl, h2, ← flatV_one, ← flatV_app, ← flatV_app, List.set_eq_take_append_cons_drop, if_pos hi, List.append_assoc, List.singleton_append]
section
variable {w : World} {B : Nat} {A : Option Addr} {l : List Ev}
theorem evs_take (h : Cells w B A (flatV l)) (t : Nat) : Cells w B A (flatV (l.take t)) := by
  have h0 : flatV l = flatV (l.take t) ++ flatV (l.drop t) := by rw [← flatV_app, List.take_append_drop]
  rcases h with h | ⟨b, o, hA, hb, h⟩
  · rw [h0] at h; exact .inl (List.append_eq_nil_iff.1 h).1
  · exact .inr ⟨b, o, hA, hb, fun j u hu => h j u (by rw [h0, List.getElem?_append_left (List.getElem?_eq_some_iff.1 hu).1]; exact hu)⟩
theorem evs_drop {b o : Nat} (h : Cells w B (some ⟨b, o, none⟩) (flatV l)) (t : Nat) (ht : t ≤ l.length) : Cells w B (some ⟨b, o + t * 9, none⟩) (flatV (l.drop t)) := by
  have h0 : flatV l = flatV (l.take t) ++ flatV (l.drop t) := by rw [← flatV_app, List.take_append_drop]
  have hl : (flatV (l.take t)).length = t * 9 := by rw [flatV_length, List.length_take]; omega
  rcases h with h | ⟨b', o', hA, hb, h⟩
  · rw [h0] at h; exact .inl (List.append_eq_nil_iff.1 h).2
  · cases hA
    exact .inr ⟨b, o + t * 9, rfl, hb, fun j u hu => by
      have := h (t * 9 + j) u (by rw [h0, List.getElem?_append_right (by omega), hl, Nat.add_sub_cancel_left]; exact hu)
      rwa [← Nat.add_assoc] at this⟩
theorem flatV_ne {l : List Ev} (h : ¬ l.length = 0) : flatV l ≠ [] := fun e => h (by
  have := congrArg List.length e
  rw [flatV_length] at this
  simp only [List.length_nil] at this
  omega)
end
section
variable {ops : Array Oper} {rest : List Oper} {op : Oper} {a : Act} {w : World} {Q : Exit → Act → World → Prop} {x y : Operand} {g o i : Nat} {l : List Ev} {e : Ev} {B : Nat} {A : Option Addr}
/-- An event is read out of a slice. -/
theorem wpList_evLoad (hgd : op.guard = none) (ho : op.op = .load 32 x) (h : Cells w B A (flatV l)) (he : l[i]? = some e) (hA : ∀ b o, A = some ⟨b, o, none⟩ → a.eval x = .pointer (some ⟨b, o + i * 9, none⟩))
    (hK : wpList Try.prog ops Q rest (a.put op.dst (.agg e.cells.toArray)) w) : wpList Try.prog ops Q (op :: rest) a w := by
  obtain ⟨b, o, rfl, _, hc⟩ := cells_at (sz := 9) (fun _ => rfl) (by decide) h he
  refine wpList_load_mid hgd 32 x ho b (o + i * 9) (hA b o rfl) e.cells _ (fun j v hj => ?_) Try.underlying32 rfl (by kernel_rfl) hK
  exact hc j (List.getElem?_eq_some_iff.1 hj).1 v hj
/-- An event is read out of a block of events. -/
theorem wpList_evRead (hgd : op.guard = none) (ho : op.op = .load 32 x) (h : Blk w g 32 (flatV l)) (he : l[i]? = some e) (hx : a.eval x = .pointer (some ⟨g, i * 9, none⟩))
    (hK : wpList Try.prog ops Q rest (a.put op.dst (.agg e.cells.toArray)) w) : wpList Try.prog ops Q (op :: rest) a w :=
  wpList_evLoad hgd ho (h.blk_cells.mono h.lt) he (fun b o hb => by cases hb; rw [hx, Nat.zero_add]) hK
/-- An event is laid into a block of events. -/
theorem wpList_evStore (hgd : op.guard = none) (ho : op.op = .store 32 x y) (h : Blk w g 32 (flatV l)) (hi : i < l.length) (hx : a.eval x = .pointer (some ⟨g, i * 9, none⟩)) (hy : a.eval y = .agg e.cells.toArray)
    (hK : ∀ w', Blk w' g 32 (flatV (l.set i e)) → Frm (fun k => k = g) w w' → wpList Try.prog ops Q rest (a.put op.dst undef) w') : wpList Try.prog ops Q (op :: rest) a w := by
  refine wpList_store_mid hgd 32 x y ho g (i * 9) e.cells.toArray hx hy (fun j hj => ⟨h.isSome (by rw [flatV_length]; have : j < 9 := hj; omega), h.frozen _⟩) (by kernel_rfl) (all_oneCell_toArray (fun v hv => one_evs [e] v (by rw [flatV_one]; exact hv))) (hK _ ?_ ?_)
  · have := Blk.sets e.cells (i * 9) h
    rw [flatV_set hi] at this
    exact this
  · exact Frm.setCells _ _ _
end
end Go.Proofs.Ytkjjhndccelbcaa
