/- Scripts: how they come in; and grown, by contract. -/
import Derived.Test.YtmdiagcmfcjleaaAlive
import Derived.Test.YtmdiagcmfcjleaaOpen
import Derived.Lib.SmallJoins
namespace Go.Proofs.Ytmdiagcmfcjleaa
open Go.ChangeShapes Go.WideShapes Go.ChangeAt Go.RowKit Go.Troupe Go.Maps

structure Opt where
  c : Bool
  par : Int
  id : Int
def flatO (l : List Opt) : List Value := l.flatMap fun x => [.bool x.c, .int .i64 x.par, .int .i64 x.id]
theorem flatO_len (l : List Opt) : (flatO l).length = l.length * 3 := by
  induction l with
  | nil => rfl
  | cons x l ih => simp [flatO] at ih ⊢; omega
theorem flatO_at : ∀ (l : List Opt) (i : Nat) (x : Opt), l[i]? = some x → (flatO l)[i * 3]? = some (.bool x.c) ∧ (flatO l)[i * 3 + 1]? = some (.int .i64 x.par) ∧ (flatO l)[i * 3 + 2]? = some (.int .i64 x.id)
  | [], i, x, h => by simp at h
  | y :: l, 0, x, h => by
    simp at h; subst h
    simp [flatO]
  | y :: l, i + 1, x, h => by
    have h' : l[i]? = some x := by simpa using h
    obtain ⟨h0, h1, h2⟩ := flatO_at l i x h'
    have e : flatO (y :: l) = [.bool y.c, .int .i64 y.par, .int .i64 y.id] ++ flatO l := rfl
    refine ⟨?_, ?_, ?_⟩
    · rw [e, List.getElem?_append_right (by simp; omega)]
      simpa [show (i + 1) * 3 - 3 = i * 3 by omega] using h0
    · rw [e, List.getElem?_append_right (by simp; omega)]
      simpa [show (i + 1) * 3 + 1 - 3 = i * 3 + 1 by omega] using h1
    · rw [e, List.getElem?_append_right (by simp; omega)]
      simpa [show (i + 1) * 3 + 2 - 3 = i * 3 + 2 by omega] using h2
theorem _root_.Go.Troupe.Cells.opt {w : World} {B : Nat} {A : Option Addr} {l : List Opt} (h : Cells w B A (flatO l)) {i : Nat} {r : Opt} (hi : l[i]? = some r) :
    ∃ b off, A = some ⟨b, off, none⟩ ∧ b < B ∧ w.cell? ⟨b, off + i * 3, none⟩ = some (.bool r.c) ∧ w.cell? ⟨b, off + i * 3 + 1, none⟩ = some (.int .i64 r.par) ∧ w.cell? ⟨b, off + i * 3 + 2, none⟩ = some (.int .i64 r.id) := by
  obtain ⟨h0, h1, h2⟩ := flatO_at l i r hi
  obtain ⟨b, off, hA, hb, hc⟩ := h.at_ (by intro e; rw [e] at h0; simp at h0)
  exact ⟨b, off, hA, hb, hc _ _ h0, by rw [Nat.add_assoc]; exact hc _ _ h1, by rw [Nat.add_assoc]; exact hc _ _ h2⟩
theorem cells37 : Try.prog.cellsOf 37 = 3 := by kernel_rfl
theorem open_opts {H : Type} {enc : TypeId × Value → H} {w : World} {base : Nat} {spare : Nat → Bool} {held : Bool} {fuel : Nat} {A : Option Addr} {len cap : Nat} {x : DataW H × List MemPlace}
    (h : DataW.trod enc Try.prog w base spare held fuel 22 [.slice A len cap] = some x) : ∃ L : List Opt, L.length = len ∧ Cells w w.heap.size A (flatO L) ∧ len ≤ cap ∧ (A = none → cap = 0) := by
  obtain ⟨A', len', cap', hcs, hl, _, hA, hrow⟩ := rows_of Try.underlying22 h
  simp only [List.cons.injEq, Value.slice.injEq, and_true] at hcs
  obtain ⟨rfl, rfl, rfl⟩ := hcs
  rw [cells37] at hrow
  have hel : ∀ i, i < len → ∃ y : Opt, ∃ a, A = some a ∧ w.cell? (a.add (i * 3 + 0)) = some (.bool y.c) ∧ w.cell? (a.add (i * 3 + 1)) = some (.int .i64 y.par) ∧ w.cell? (a.add (i * 3 + 2)) = some (.int .i64 y.id) := by
    intro i hi
    obtain ⟨a, cs', y, n, hA, hc, ht⟩ := hrow i hi
    obtain ⟨_, hcl, hat⟩ := World.cells?_some hc
    obtain ⟨_, hf⟩ := fields_of Try.underlying37 (by kernel_rfl) cells37 ht
    obtain ⟨v0, y0, n0, h0, t0⟩ := hf 0 _ rfl
    obtain ⟨v1, y1, n1, h1, t1⟩ := hf 1 _ rfl
    obtain ⟨v2, y2, n2, h2, t2⟩ := hf 2 _ rfl
    obtain ⟨a0, e0, _⟩ := DataW.trod_bool Try.underlying4 t0
    obtain ⟨a1, e1, _, _⟩ := DataW.trod_int Try.underlying3 t1
    obtain ⟨a2, e2, _, _⟩ := DataW.trod_int Try.underlying3 t2
    simp only [List.cons.injEq, and_true] at e0 e1 e2
    subst e0 e1 e2
    exact ⟨⟨a0, a1, a2⟩, a, hA, by rw [← Go.Deep.add_add]; exact (hat 0 (by omega)).trans h0, by rw [← Go.Deep.add_add]; exact (hat 1 (by omega)).trans h1, by rw [← Go.Deep.add_add]; exact (hat 2 (by omega)).trans h2⟩
  letI : Inhabited Opt := ⟨⟨false, 0, 0⟩⟩
  obtain ⟨f, hf⟩ := Go.Deep.choose_lt hel
  refine ⟨(List.range len).map f, by simp, ?_, hl, fun h => (hA h).2⟩
  refine cells_of_rows (len := len) (sz := 3) (by decide) _ (by rw [flatO_len]; simp) ?_
  intro i hi r hr
  obtain ⟨a, ha, h0, h1, h2⟩ := hf i hi
  have hget : ((List.range len).map f)[i]? = some (f i) := by simp [hi]
  obtain ⟨g0, g1, g2⟩ := flatO_at _ i _ hget
  rcases r with _ | _ | _ | r
  · exact ⟨a, _, ha, g0, h0⟩
  · exact ⟨a, _, ha, g1, h1⟩
  · exact ⟨a, _, ha, g2, h2⟩
  · omega

/-- One step of a script, and all of them. -/
def stepV (M : List Mb) (o : Opt) : List Mb := if o.c then (cutV M o.id).1 else (addV M o.par o.id).1
def growV (M : List Mb) (s : List Opt) : List Mb := s.foldl stepV M
theorem growV_take (M : List Mb) (s : List Opt) (i : Nat) (o : Opt) (h : s[i]? = some o) : growV M (s.take (i + 1)) = stepV (growV M (s.take i)) o := by
  unfold growV
  rw [List.take_add_one, h]
  simp
theorem stepV_len (M : List Mb) (o : Opt) : (stepV M o).length ≤ M.length + 1 := by
  unfold stepV
  split
  · unfold cutV
    split
    · simp
    · split
      · simp
      · have := List.length_filter_le (fun x : Mb => x.1 != o.id) M
        show (M.filter fun x => x.1 != o.id).length ≤ _
        omega
  · unfold addV
    split
    · simp
    · split
      · simp
      · split
        · simp
        · split
          · simp
          · simp
theorem growV_len : ∀ (s : List Opt) (M : List Mb), (growV M s).length ≤ M.length + s.length
  | [], M => by simp [growV]
  | o :: s, M => by
    have h1 := growV_len s (stepV M o)
    have h2 := stepV_len M o
    have e : growV M (o :: s) = growV (stepV M o) s := rfl
    rw [e, List.length_cons]; omega
/-- A tree, and a row that is not its own. -/
def Gr (w0 wk : World) (p : Nat) (M : List Mb) (v : Value) (ids : List Int) : Prop :=
  ∃ S, Tr wk p S M ∧ (∀ k, S k → w0.heap.size ≤ k ∧ k < wk.heap.size) ∧ Below w0.heap.size w0 wk ∧ wk.ownsRow w0.heap.size 3 1 v ids.length (wordsI ids) ∧ ∀ b, v.ownBlock = some b → ¬ S b
section
variable {w0 wk w' : World} {p : Nat} {M M' : List Mb} {v : Value} {ids : List Int}
theorem Gr.ts (h : Gr w0 wk p M v ids) : Ts w0 wk p M := by obtain ⟨S, h1, h2, h3, _⟩ := h; exact ⟨S, h1, fun k hk => (h2 k hk).1, h3⟩
theorem Gr.own (h : Gr w0 wk p M v ids) : wk.ownsRow w0.heap.size 3 1 v ids.length (wordsI ids) := by obtain ⟨S, _, _, _, h4, _⟩ := h; exact h4
theorem Gr.below (h : Gr w0 wk p M v ids) (hb : Below wk.heap.size wk w') : Gr w0 w' p M v ids := by
  obtain ⟨S, h1, h2, h3, h4, h5⟩ := h
  have := hb.size
  exact ⟨S, h1.below hb, fun k hk => ⟨(h2 k hk).1, by have := (h2 k hk).2; omega⟩, h3.trans (hb.mono h3.size), own_below h4 hb, h5⟩
theorem Gr.left {S : Nat → Prop} (h2 : ∀ k, S k → w0.heap.size ≤ k ∧ k < wk.heap.size) (h3 : Below w0.heap.size w0 wk) (h4 : wk.ownsRow w0.heap.size 3 1 v ids.length (wordsI ids)) (h5 : ∀ b, v.ownBlock = some b → ¬ S b) (hl : Left p S M' wk w') : Gr w0 w' p M' v ids := by
  obtain ⟨S', g1, g2, g3⟩ := hl
  have hs := h3.size
  refine ⟨fun k => S' k ∧ k < w'.heap.size, g1.trim, fun k hk => ⟨(g2 k hk.1).elim (fun h => (h2 k h).1) (fun h => by omega), hk.2⟩, h3.trans (g3.below h3.size (fun k hk => (h2 k hk).1)), own_frm h4 g3 (fun b hb hS => h5 b hb hS), fun b hb hS => ?_⟩
  rcases g2 b hS.1 with h | h
  · exact h5 b hb h
  · have := (h4.lt b hb).2; omega
theorem Gr.add (h : Gr w0 wk p M v ids) (par id : Int) (hl : M.length ≤ 1000) :
    Calls Try.prog 16 #[.pointer (some ⟨p, 0, none⟩), .int .i64 par, .int .i64 id] wk fun e w' => e = .returned (.int .i64 (addV M par id).2) ∧ Gr w0 w' p (addV M par id).1 v ids := by
  obtain ⟨S, h1, h2, h3, h4, h5⟩ := h
  refine (add_any par id wk h1 hl).mono ?_
  rintro e w' ⟨rfl, hlf⟩
  exact ⟨rfl, Gr.left h2 h3 h4 h5 hlf⟩
theorem Gr.cut (h : Gr w0 wk p M v ids) (id : Int) (hl : M.length ≤ 1000) :
    Calls Try.prog 11 #[.pointer (some ⟨p, 0, none⟩), .int .i64 id] wk fun e w' => e = .returned (.int .i64 (cutV M id).2) ∧ Gr w0 w' p (cutV M id).1 v ids := by
  obtain ⟨S, h1, h2, h3, h4, h5⟩ := h
  refine (cut_any id wk h1 hl).mono ?_
  rintro e w' ⟨rfl, hlf⟩
  exact ⟨rfl, Gr.left h2 h3 h4 h5 hlf⟩
/-- Behind a number's being appended to the row. -/
theorem Gr.app {n : Nat} {v' : Value} {x : Int} (h : Gr w0 wk p M v ids) (hn : n = ids.length) (ha : Appended wk w' w0.heap.size 3 1 v v' (n + 1) (wordsI ids ++ [.int .i64 x])) : Gr w0 w' p M v' (ids ++ [x]) := by
  obtain ⟨S, h1, h2, h3, h4, h5⟩ := h
  have hs := ha.frm.size
  refine ⟨S, h1.frm ha.frm (fun k _ hk hS => h5 k hk hS), fun k hk => ⟨(h2 k hk).1, by have := (h2 k hk).2; omega⟩, h3.trans (ha.frm.below h3.size (fun k hk => (h4.lt k hk).1)), ?_, fun b hb hS => ?_⟩
  · have e : wordsI (ids ++ [x]) = wordsI ids ++ [.int .i64 x] := by simp [wordsI]
    rw [e, List.length_append, List.length_singleton, ← hn]; exact ha.own
  · rcases ha.at_ with e | e
    · exact h5 b (e ▸ hb) hS
    · rw [e] at hb; cases hb; have := (h2 _ hS).2; omega
end
def Grown (s : List Opt) (w : World) (e : Ending) (w' : World) : Prop :=
  ∃ p A c ids, e = .returned (.tuple #[.pointer (some ⟨p, 0, none⟩), .slice A ids.length c]) ∧ Gr w w' p (growV [] (s.take 100)) (.slice A ids.length c) ids ∧ ids = (s.take 100).map (·.id)
set_option maxRecDepth 100000 in
set_option maxHeartbeats 2000000 in
theorem grown_any (Ad : Option Addr) (len cap : Nat) (s : List Opt) (w : World) (hl : s.length = len) (hc : Cells w w.heap.size Ad (flatO s)) :
    Calls Try.prog 8 #[.slice Ad len cap] w (Grown s w) := by
  have C0 := Troupe.hid hc
  clear hc
  go_enter Try.func8, Try.ntmps8
  go_wp2_with fail
  refine (new_any w).mono ?_
  rintro e w1 ⟨p, rfl, h1, h2⟩
  have G1 := Troupe.hid (show Gr w w1 p [] (.slice none 0 0) [] from ⟨_, h1, fun k hk => hk, h2, World.ownsRow_nil _ _ _ _, fun b hb => by simp [Value.ownBlock] at hb⟩)
  clear h1 h2
  go_wp2_with fail
  go_loopw [5, 6] (fun v5 v6 wr => ∃ i : Nat, i ≤ len ∧ i ≤ 100 ∧ v6 = .int .i64 i ∧ Gr w wr p (growV [] (s.take i)) v5 ((s.take i).map (·.id))) (fun _ v6 _ => len - (intOf v6).toNat)
  case atStart => exact ⟨0, Nat.zero_le _, by omega, rfl, G1.out⟩
  case round =>
    obtain ⟨i, hi, hi2, rfl, hg⟩ := hrel
    obtain ⟨A5, c5, rfl, -⟩ := own_form hg.own
    have hil : ((s.take i).map (·.id)).length = i := by rw [List.length_map, List.length_take]; omega
    have G := Troupe.hid (show Gr w wr p (growV [] (s.take i)) (.slice A5 i c5) ((s.take i).map (·.id)) from (by have h := hg; rwa [hil] at h))
    have OWN := Troupe.hid (show wr.ownsRow w.heap.size 3 1 (.slice A5 i c5) i (wordsI ((s.take i).map (·.id))) from (by have := hg.own; rwa [hil] at this))
    have HIL := Troupe.hid hil
    rw [hil]
    have hML := growV_len (s.take i) []
    rw [List.length_take, List.length_nil] at hML
    have hML2 : (growV [] (s.take i)).length ≤ 1000 := by omega
    clear hg hil hML
    by_cases hlt : i < len ∧ i < 100
    · obtain ⟨hlt, hlt2⟩ := hlt
      have hlit : (i : Int) < 100 := by omega
      obtain ⟨x, hx⟩ : ∃ x, s[i]? = some x := ⟨_, List.getElem?_eq_getElem (by omega)⟩
      obtain ⟨b, off, hA, _, d0, d1, d2⟩ := (C0.out.below G.out.ts.be).opt hx
      subst hA
      have PT := Troupe.hid (growV_take [] s i x hx)
      have PI : Hid ((s.take (i + 1)).map (·.id) = (s.take i).map (·.id) ++ [x.id]) := by unfold Hid; rw [List.take_add_one, hx]; simp
      have X := Troupe.hid hx
      obtain ⟨cc, par, id⟩ := x
      simp only at d0 d1 d2
      clear hx
      have hA0 : b < w.heap.size := by
        rcases C0.out with h | ⟨b', off', h, hb, _⟩
        · have h1 := flatO_len s
          rw [h] at h1
          simp at h1; omega
        · simp at h; omega
      cases cc with
      | true =>
        rw [show stepV (growV [] (s.take i)) ⟨true, par, id⟩ = (cutV (growV [] (s.take i)) id).1 from rfl] at PT
        go_wp2_with fail
        refine (G.out.cut id hML2).mono ?_
        rintro e w2 ⟨rfl, hg2⟩
        clear d0 d1 d2
        obtain ⟨b', off', hA', _, _, _, d3⟩ := (C0.out.below hg2.ts.be).opt X.out
        obtain ⟨rfl, rfl⟩ : b = b' ∧ off = off' := by simpa using hA'
        simp only at d3
        have F1 : Frm (fun _ => False) w2 (w2.alloc (.cells #[.int .i64 id] 3)) := (Frm.refl _ w2).alloc _
        have G3 := Troupe.hid (hg2.below (F1.below (Nat.le_refl _) (fun _ h => h.elim)))
        have V1 := Troupe.hid (show (w2.alloc (.cells #[.int .i64 id] 3)).ownsRow w.heap.size 3 1 (.slice A5 i c5) i (wordsI ((s.take i).map (·.id))) from (by have := own_frm hg2.own F1 (fun _ _ h => h); rwa [HIL.out] at this))
        have C1 := Troupe.hid (show Cells (w2.alloc (.cells #[.int .i64 id] 3)) (w2.heap.size + 1) (some ⟨w2.heap.size, 0, none⟩) [.int .i64 id] from Cells.blk (n := 1) (Blk.new w2 3 [.int .i64 id]) (Nat.lt_succ_self w2.heap.size))
        have hw1 : (w2.alloc (.cells #[.int .i64 id] 3)).heap.size = w2.heap.size + 1 := by simp
        have hbs := hg2.ts.be.size
        clear hg2 F1 hA'
        go_wp2_with (at_builtin; refine wpList_app rfl (.tmp 42) (.tmp 48) 25 rfl w.heap.size 3 info3 Try.underlying25 rfl (by decide) (.slice A5 i c5) i _ rfl V1.out (w2.heap.size + 1) (some ⟨w2.heap.size, 0, none⟩) 1 1 [.int .i64 id] rfl rfl C1.out (fun h => by cases h) (by simp [Value.oneCell']) (by omega) (by unfold maxLen; omega) (by omega) ?_; intro v2 w5 h5; have H5 := Troupe.hid h5; clear h5)
        go_roundw
        case rel =>
          refine ⟨i + 1, by omega, by omega, by go_num, ?_⟩
          rw [PT.out, PI.out]
          exact G3.out.app HIL.out.symm H5.out
        case measure => simp [intOf]; omega
      | false =>
        rw [show stepV (growV [] (s.take i)) ⟨false, par, id⟩ = (addV (growV [] (s.take i)) par id).1 from rfl] at PT
        go_wp2_with fail
        refine region_still_tail 11 (by kernel_rfl) (by kernel_rfl) ?_
        intro w1' hh hf
        have q1 : w1'.cell? ⟨b, off + i * 3 + 1, none⟩ = some (.int .i64 par) := (World.cell?_of_block (by rw [hh])).trans d1
        have q2 : w1'.cell? ⟨b, off + i * 3 + 2, none⟩ = some (.int .i64 id) := (World.cell?_of_block (by rw [hh])).trans d2
        have G2 := Troupe.hid (G.out.below (hf.below (Nat.le_refl _) (fun _ h => h.elim)))
        clear hh hf d0 d1 d2
        simp only [List.take_succ_cons, List.take_zero, List.drop_succ_cons, List.drop_zero]
        repeat still_step
        refine wpStill_nil ?_
        go_wp2_with fail
        refine (G2.out.add par id hML2).mono ?_
        rintro e w2 ⟨rfl, hg2⟩
        clear q1 q2
        obtain ⟨b', off', hA', _, _, _, d3⟩ := (C0.out.below hg2.ts.be).opt X.out
        obtain ⟨rfl, rfl⟩ : b = b' ∧ off = off' := by simpa using hA'
        simp only at d3
        have F1 : Frm (fun _ => False) w2 (w2.alloc (.cells #[.int .i64 id] 3)) := (Frm.refl _ w2).alloc _
        have G3 := Troupe.hid (hg2.below (F1.below (Nat.le_refl _) (fun _ h => h.elim)))
        have V1 := Troupe.hid (show (w2.alloc (.cells #[.int .i64 id] 3)).ownsRow w.heap.size 3 1 (.slice A5 i c5) i (wordsI ((s.take i).map (·.id))) from (by have := own_frm hg2.own F1 (fun _ _ h => h); rwa [HIL.out] at this))
        have C1 := Troupe.hid (show Cells (w2.alloc (.cells #[.int .i64 id] 3)) (w2.heap.size + 1) (some ⟨w2.heap.size, 0, none⟩) [.int .i64 id] from Cells.blk (n := 1) (Blk.new w2 3 [.int .i64 id]) (Nat.lt_succ_self w2.heap.size))
        have hw1 : (w2.alloc (.cells #[.int .i64 id] 3)).heap.size = w2.heap.size + 1 := by simp
        have hbs := hg2.ts.be.size
        clear hg2 F1 hA'
        go_wp2_with (at_builtin; refine wpList_app rfl (.tmp 42) (.tmp 48) 25 rfl w.heap.size 3 info3 Try.underlying25 rfl (by decide) (.slice A5 i c5) i _ rfl V1.out (w2.heap.size + 1) (some ⟨w2.heap.size, 0, none⟩) 1 1 [.int .i64 id] rfl rfl C1.out (fun h => by cases h) (by simp [Value.oneCell']) (by omega) (by unfold maxLen; omega) (by omega) ?_; intro v2 w5 h5; have H5 := Troupe.hid h5; clear h5)
        go_roundw
        case rel =>
          refine ⟨i + 1, by omega, by omega, by go_num, ?_⟩
          rw [PT.out, PI.out]
          exact G3.out.app HIL.out.symm H5.out
        case measure => simp [intOf]; omega
    · have hdec : decide ((i : Int) < (len : Int)) = false ∨ decide ((i : Int) < 100) = false := by
        by_cases h : i < len
        · exact .inr (decide_eq_false (by omega))
        · exact .inl (decide_eq_false (by omega))
      have e : s.take i = s.take 100 := by
        by_cases h : i < len
        · rw [show i = 100 by omega]
        · rw [List.take_of_length_le (by omega), List.take_of_length_le (by omega)]
      have FIN : Hid (Grown s w (.returned (.tuple #[.pointer (some ⟨p, 0, none⟩), .slice A5 i c5])) wr) := by
        refine ⟨p, A5, c5, (s.take i).map (·.id), by rw [HIL.out], ?_, by rw [e]⟩
        rw [← e, HIL.out]; exact G.out
      rcases hdec with h | h
      · go_wp2_with fail
        all_goals go_ret2
        all_goals exact FIN.out
      · by_cases h2 : (i : Int) < (len : Int)
        · have h3 : decide ((i : Int) < (len : Int)) = true := decide_eq_true h2
          go_wp2_with fail
          all_goals go_ret2
          all_goals exact FIN.out
        · have h3 : decide ((i : Int) < (len : Int)) = false := decide_eq_false h2
          go_wp2_with fail
          all_goals go_ret2
          all_goals exact FIN.out
end Go.Proofs.Ytmdiagcmfcjleaa
