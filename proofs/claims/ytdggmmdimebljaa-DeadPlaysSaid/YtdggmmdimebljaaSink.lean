/- The sink: how it lies in memory, and its functions by contracts. -/
import Derived.Test.YtdggmmdimebljaaRefs
namespace Go.Proofs.Ytdggmmdimebljaa
open Go.RowKit Go.Maps Go.Troupe

theorem zero3 (w : World) : (zeroValue 3).run Try.prog w = .ok (.int .i64 0) w := by kernel_rfl
theorem info29 : (Try.prog.info? 29).map (fun i => (i.zero, i.size, i.bytes)) = some (some (.agg #[.int .u64 0, .int .i64 0, .int .i64 0]), 3, 24) := by kernel_rfl

theorem flat_one (l : List Let) : ∀ u ∈ flat l, u.oneCell' = true := by
  intro u hu
  obtain ⟨x, _, hx⟩ := List.mem_flatMap.1 hu
  simp [lv] at hx
  rcases hx with rfl | rfl | rfl <;> rfl
theorem flat_set (l : List Let) (a : Nat) (x : Let) : flat (l.set a x) = (((flat l).set (a * 3) (.int .u64 x.id)).set (a * 3 + 1) (.int .i64 x.to_)).set (a * 3 + 2) (.int .i64 x.why) := by
  induction l generalizing a with
  | nil => simp [flat]
  | cons y l ih =>
    have e : ∀ y l, flat (y :: l) = .int .u64 y.id :: .int .i64 y.to_ :: .int .i64 y.why :: flat l := fun _ _ => rfl
    cases a with
    | zero => simp [e]
    | succ a =>
      rw [List.set_cons_succ, e, ih, e]
      have e1 : (a + 1) * 3 = a * 3 + 1 + 1 + 1 := by omega
      have e2 : a * 3 + 1 + 1 + 1 + 2 = (a * 3 + 2) + 1 + 1 + 1 := by omega
      have e3 : a * 3 + 1 + 1 + 1 + 1 = (a * 3 + 1) + 1 + 1 + 1 := by omega
      rw [e1, e2, e3]
      simp only [List.set_cons_succ]
def zeroL : Let := ⟨0, 0, 0⟩
theorem made_flat (N : Nat) : (madeCells (Value.agg #[.int .u64 0, .int .i64 0, .int .i64 0]).cells (N * 3)).toList = flat (List.replicate N zeroL) := by
  apply List.ext_getElem?
  intro j
  obtain ⟨i, q, hq, rfl⟩ : ∃ i q, q < 3 ∧ j = i * 3 + q := ⟨j / 3, j % 3, by omega, by omega⟩
  by_cases hj : i < N
  · have hx : (List.replicate N zeroL)[i]? = some zeroL := by simp [hj]
    obtain ⟨q0, q1, q2⟩ := flat_at _ _ _ hx
    have hleft : (madeCells (Value.agg #[.int .u64 0, .int .i64 0, .int .i64 0]).cells (N * 3)).toList[i * 3 + q]? = some ((#[Value.int .u64 0, .int .i64 0, .int .i64 0] : Array Value)[q]!) := by
      have h1 : (i * 3 + q) % 3 = q := by omega
      have h2 : i * 3 + q < N * 3 := by omega
      simp [madeCells, Value.cells, h1, h2]
    rw [hleft]
    match q, hq with
    | 0, _ => rw [Nat.add_zero, q0]; rfl
    | 1, _ => rw [q1]; rfl
    | 2, _ => rw [q2]; rfl
  · rw [List.getElem?_eq_none (by simp [madeCells]; omega), List.getElem?_eq_none (by rw [flat_length]; simp; omega)]

/-- A sink: its struct at block p, its map at m, its row at r; what it has counted, its row's letters, where the next one goes, how many were put. -/
structure Sink (w : World) (p m r N : Nat) (c : Int → Nat) (R : List Let) (a t : Nat) : Prop where
  sp : Blk w p 44 [.map (some m), .slice (some ⟨r, 0, none⟩) N N, .int .i64 a, .int .i64 t]
  row : Blk w r 29 (flat R)
  mp : ∃ n g, IMap w m .i64 n g ∧ ∀ k, (g k).getD (.int .i64 0) = .int .i64 (c k)
  len : R.length = N
  at_ : a < N ∨ a = 0
  le : N ≤ 64

theorem Sink.frm {w w' : World} {p m r N : Nat} {c : Int → Nat} {R : List Let} {a t : Nat} {S : Nat → Prop} (h : Sink w p m r N c R a t) (hf : Frm S w w') (hp : ¬ S p) (hm : ¬ S m) (hr : ¬ S r) : Sink w' p m r N c R a t :=
  ⟨h.sp.frm hf hp, h.row.frm hf hr, by obtain ⟨n, g, h1, h2⟩ := h.mp; exact ⟨n, g, h1.frm hf hm, h2⟩, h.len, h.at_, h.le⟩
theorem Sink.lt {w : World} {p m r N : Nat} {c : Int → Nat} {R : List Let} {a t : Nat} (h : Sink w p m r N c R a t) : p < w.heap.size ∧ m < w.heap.size ∧ r < w.heap.size :=
  ⟨h.sp.lt, by obtain ⟨n, g, h1, _⟩ := h.mp; exact h1.lt, h.row.lt⟩

def IsNew (k : Int) (w : World) (e : Ending) (w' : World) : Prop :=
  ∃ p m r, e = .returned (.pointer (some ⟨p, 0, none⟩)) ∧ w.heap.size ≤ p ∧ w.heap.size ≤ m ∧ w.heap.size ≤ r ∧ Sink w' p m r (keptN k) (fun _ => 0) (List.replicate (keptN k) zeroL) 0 0 ∧ Below w.heap.size w w'
theorem new_any (k : Int) (w : World) : Calls Try.prog 8 #[.int .i64 k] w (IsNew k w) := by
  have hmm := @run_makeMap Try.prog
  have hN : keptN k ≤ 64 := by unfold keptN; split <;> (try split) <;> omega
  obtain ⟨i0, hi, hz0, hz1, hz2⟩ := info_parts info29
  go_enter Try.func8, Try.ntmps8
  go_wp2_with (at_make; refine wpList_make_full _ rfl _ _ 22 rfl w.heap.size 29 i0 _ 3 Try.underlying22 hi hz0 hz1 _ _ _ _ (keptN k) rfl rfl ?_ ?_ ?_ ?_ ?_ ?_; (unfold keptN; split <;> split <;> omega); (unfold keptN; split <;> split <;> omega); (rw [hz2]; omega); (unfold maxLen; omega); (simp); intro w1 hown1 hgrow1)
  all_goals go_ret
  all_goals
    simp only [World.size_alloc] at hown1
    rw [made_flat] at hown1
    have hr : Blk w1 (w.heap.size + 1) 29 _ := Blk.of_full hown1
    have hf := Frm.of_grown hgrow1
    have hm := (IMap.made w .i64).frm hf (by simp)
    have hne := hm.lt
    refine ⟨w1.heap.size, w.heap.size, w.heap.size + 1, rfl, by omega, Nat.le_refl _, by omega, ⟨Blk.new w1 44 [_, _, _, _], hr.alloc _, ⟨0, _, hm.alloc _, fun _ => rfl⟩, by simp, .inr rfl, hN⟩, ?_⟩
    exact (((Below.refl _ _).alloc (Nat.le_refl _) _).grown hgrow1 (by simp) (by simp)).alloc (by omega) _

theorem total_any {p m r N a t : Nat} {c : Int → Nat} {R : List Let} (w : World) (h : Sink w p m r N c R a t) :
    Calls Try.prog 16 #[.pointer (some ⟨p, 0, none⟩)] w fun e w' => e = .returned (.int .i64 t) ∧ w = w' := by
  have c0 := h.sp.cell
  clear h
  go_enter Try.func16, Try.ntmps16
  go_wp2
  go_ret
  exact ⟨rfl, rfl⟩

theorem count_any {p m r N a t : Nat} {c : Int → Nat} {R : List Let} (k : Int) (w : World) (h : Sink w p m r N c R a t) :
    Calls Try.prog 11 #[.pointer (some ⟨p, 0, none⟩), .int .i64 k] w fun e w' => e = .returned (.int .i64 (c k)) ∧ w = w' := by
  have c0 : w.cell? ⟨p, 0, none⟩ = some (.map (some m)) := h.sp.cell 0
  obtain ⟨n, g, hm, hg⟩ := h.mp
  have hgk := Troupe.hid (hg k)
  clear h hg
  go_enter Try.func11, Try.ntmps11
  go_wp2_with (first | (at_lookup; refine wpList_look rfl _ _ 42 rfl 3 3 Try.underlying42 Try.underlying3 _ (zero3 _) rfl hm _ rfl ?_; rw [hgk.out]))
  go_ret
  exact ⟨rfl, rfl⟩

theorem put_bad {p : Nat} (id to_ why : Int) (w : World) (hw : ¬ (1 ≤ why ∧ why ≤ 5)) :
    Calls Try.prog 9 #[.pointer (some ⟨p, 0, none⟩), .int .u64 id, .int .i64 to_, .int .i64 why] w fun e w' => e = .returned (.int .i64 1) ∧ w = w' := by
  by_cases h : why < 1
  · clear hw
    go_enter Try.func9, Try.ntmps9
    go_wp2
    go_ret
    exact ⟨rfl, rfl⟩
  · have h' : 5 < why := by omega
    clear hw
    go_enter Try.func9, Try.ntmps9
    go_wp2
    go_ret
    exact ⟨rfl, rfl⟩

def bump (c : Int → Nat) (k : Int) : Int → Nat := fun j => if j = k then c j + 1 else c j
theorem bump_map {g : Int → Option Value} {c : Int → Nat} {why : Int} (hg : ∀ k, (g k).getD (.int .i64 0) = .int .i64 (c k)) : ∀ k, (upd g why (some (.int .i64 ((c why : Int) + 1))) k).getD (.int .i64 0) = .int .i64 (bump c why k) := by
  intro k
  by_cases hk : k = why
  · subst hk; simp [bump]
  · rw [upd_ne _ _ hk, hg]; simp [bump, hk]
def stepAt (N a : Nat) : Nat := if N = 0 then a else (a + 1) % N

set_option maxRecDepth 100000 in
set_option maxHeartbeats 400000 in
theorem put_some {p m r N a t : Nat} {c : Int → Nat} {R : List Let} (id to_ why : Int) (w : World) (h : Sink w p m r N c R a t) (h1 : 1 ≤ why) (h5 : why ≤ 5) (hN : 0 < N) (hc : (c why : Int) < 1000000) (ht : t < 1000000) :
    Calls Try.prog 9 #[.pointer (some ⟨p, 0, none⟩), .int .u64 id, .int .i64 to_, .int .i64 why] w fun e w' => e = .returned (.int .i64 0) ∧
      Sink w' p m r N (bump c why) (R.set a ⟨id, to_, why⟩) (stepAt N a) (t + 1) ∧ Frm (fun k => k = p ∨ k = m ∨ k = r) w w' := by
  have c0 : w.cell? ⟨p, 0, none⟩ = some (.map (some m)) := h.sp.cell 0
  obtain ⟨n, g, hm, hg⟩ := h.mp
  have hgw := Troupe.hid (hg why)
  have G := Troupe.hid hg
  have d1 : ¬ why < 1 := by omega
  have d5 : ¬ 5 < why := by omega
  have ha : a < N := by have := h.at_; omega
  have hpr : p ≠ r := h.sp.ne h.row (by decide)
  have hN64 := h.le
  have hfl : (flat R).length = 3 * N := by rw [flat_length, h.len]
  have hFL := Troupe.hid hfl
  have H := Troupe.hid h
  clear h hg hfl
  go_enter Try.func9, Try.ntmps9
  go_wp2_with (first
    | (at_lookup; refine wpList_look rfl _ _ 42 rfl 3 3 Try.underlying42 Try.underlying3 _ (zero3 _) rfl hm _ rfl ?_; rw [hgw.out])
    | (at_mapUpdate; refine wpList_put rfl _ _ _ 42 rfl 3 3 Try.underlying42 Try.underlying3 rfl hm _ rfl (.int .i64 ((c why : Int) + 1)) rfl ?_; intro w1 hm1 hf1
       have s1 : Blk w1 p 44 _ := H.out.sp.frm hf1 (by have := hm.ne_blk H.out.sp; omega)
       have r1 : Blk w1 r 29 (flat R) := H.out.row.frm hf1 (by have := hm.ne_blk H.out.row; omega)
       have e1 := s1.cell
       have f2 := s1.frozen
       have S1 := Troupe.hid s1
       have R1 := Troupe.hid r1
       have M1 := Troupe.hid hm1
       have F1 := Troupe.hid hf1
       clear s1 r1 hm1 hf1 c0))
  refine region_still_tail 13 (by kernel_rfl) (by kernel_rfl) ?_
  intro w2 hh2 hf2
  have s2 := (S1.out.set_ 3 (.int .i64 ((t : Int) + 1))).heap hh2
  have r2 := (R1.out.far (p := ⟨p, 3, none⟩) (fun e => hpr e.symm) (.int .i64 ((t : Int) + 1))).heap hh2
  have F2 := Troupe.hid ((Frm.one w1 ⟨p, 3, none⟩ (.int .i64 ((t : Int) + 1))).and_then hf2)
  have e2 := s2.cell
  have f2' := s2.frozen
  obtain ⟨v0, hv0⟩ : ∃ v, (flat R)[a * 3]? = some v := ⟨_, List.getElem?_eq_getElem (by rw [hFL.out]; omega)⟩
  obtain ⟨v1, hv1⟩ : ∃ v, (flat R)[a * 3 + 1]? = some v := ⟨_, List.getElem?_eq_getElem (by rw [hFL.out]; omega)⟩
  obtain ⟨v2, hv2⟩ : ∃ v, (flat R)[a * 3 + 2]? = some v := ⟨_, List.getElem?_eq_getElem (by rw [hFL.out]; omega)⟩
  have er0 : w2.cell? ⟨r, a * 3, none⟩ = some v0 := (r2.cell _).trans hv0
  have er1 : w2.cell? ⟨r, a * 3 + 1, none⟩ = some v1 := (r2.cell _).trans hv1
  have er2 : w2.cell? ⟨r, a * 3 + 2, none⟩ = some v2 := (r2.cell _).trans hv2
  clear hv0 hv1 hv2
  have fr := r2.frozen
  have S2 := Troupe.hid s2
  have R2 := Troupe.hid r2
  clear s2 r2 hh2 hf2 e1 f2
  simp only [List.set_cons_succ, List.set_cons_zero] at e2
  simp only [List.take_succ_cons, List.take_zero, List.drop_succ_cons, List.drop_zero]
  repeat still_step
  refine wpStill_nil ?_
  go_wp2_with fail
  refine region_still_tail 14 (by kernel_rfl) (by kernel_rfl) ?_
  intro w3 hh3 hf3
  have hN0 : ¬ N = 0 := by omega
  have hwr : IntKind.i64.wrap ((a : Int) + 1) = (a : Int) + 1 := IntWalk.i64_in _ (by omega)
  have hmod : ((a : Int) + 1).tmod (N : Int) = (((a + 1) % N : Nat) : Int) := by
    rw [Int.tmod_eq_emod_of_nonneg (by omega)]; simp
  have hrp : r ≠ p := fun e => hpr e.symm
  have s3 := (((S2.out.far (p := ⟨r, a * 3, none⟩) hpr (.int .u64 id)).far (p := ⟨r, a * 3 + 1, none⟩) hpr (.int .i64 to_)).far (p := ⟨r, a * 3 + 2, none⟩) hpr (.int .i64 why)).heap hh3
  have r3 := (((R2.out.set_ (a * 3) (.int .u64 id)).set_ (a * 3 + 1) (.int .i64 to_)).set_ (a * 3 + 2) (.int .i64 why)).heap hh3
  have F3 := Troupe.hid ((((F2.out.and_then (Frm.one w2 ⟨r, a * 3, none⟩ (.int .u64 id))).and_then (Frm.one _ ⟨r, a * 3 + 1, none⟩ (.int .i64 to_))).and_then (Frm.one _ ⟨r, a * 3 + 2, none⟩ (.int .i64 why))).and_then hf3)
  have e3 := s3.cell
  have f3 := s3.frozen
  have S3 := Troupe.hid s3
  have R3 := Troupe.hid r3
  clear s3 r3 hh3 hf3 e2 f2' er0 er1 er2 fr
  simp only [List.set_cons_succ, List.set_cons_zero] at e3
  simp only [List.take_succ_cons, List.take_zero, List.drop_succ_cons, List.drop_zero]
  repeat still_step
  refine wpStill_nil ?_
  go_wp2
  go_ret
  have hmp := hm.ne_blk H.out.sp
  have hmr := hm.ne_blk H.out.row
  have hst : stepAt N a = (a + 1) % N := by unfold stepAt; rw [if_neg hN0]
  have FF := F3.out.and_then (Frm.one w3 ⟨p, 2, none⟩ (.int .i64 (((a + 1) % N : Nat) : Int)))
  refine ⟨rfl, ?_, ?_⟩
  · refine ⟨?_, ?_, ?_, ?_, ?_, hN64⟩
    · rw [hst]; exact S3.out.set_ 2 _
    · rw [flat_set]; exact R3.out.far (p := ⟨p, 2, none⟩) hrp _
    · exact ⟨_, _, M1.out.frm FF (by simp; omega), bump_map G.out⟩
    · simpa using H.out.len
    · rw [hst]; exact .inl (Nat.mod_lt _ hN)
  · exact (F1.out.and_then FF).mono (fun k _ hk => by simp at hk; omega)

set_option maxRecDepth 100000 in
set_option maxHeartbeats 400000 in
theorem put_none {p m r N a t : Nat} {c : Int → Nat} {R : List Let} (id to_ why : Int) (w : World) (h : Sink w p m r N c R a t) (h1 : 1 ≤ why) (h5 : why ≤ 5) (hN : N = 0) (hc : (c why : Int) < 1000000) (ht : t < 1000000) :
    Calls Try.prog 9 #[.pointer (some ⟨p, 0, none⟩), .int .u64 id, .int .i64 to_, .int .i64 why] w fun e w' => e = .returned (.int .i64 0) ∧
      Sink w' p m r N (bump c why) (R.set a ⟨id, to_, why⟩) (stepAt N a) (t + 1) ∧ Frm (fun k => k = p ∨ k = m ∨ k = r) w w' := by
  subst hN
  have c0 : w.cell? ⟨p, 0, none⟩ = some (.map (some m)) := h.sp.cell 0
  obtain ⟨n, g, hm, hg⟩ := h.mp
  have hgw := Troupe.hid (hg why)
  have G := Troupe.hid hg
  have d1 : ¬ why < 1 := by omega
  have d5 : ¬ 5 < why := by omega
  have hpr : p ≠ r := h.sp.ne h.row (by decide)
  have H := Troupe.hid h
  clear h hg
  go_enter Try.func9, Try.ntmps9
  go_wp2_with (first
    | (at_lookup; refine wpList_look rfl _ _ 42 rfl 3 3 Try.underlying42 Try.underlying3 _ (zero3 _) rfl hm _ rfl ?_; rw [hgw.out])
    | (at_mapUpdate; refine wpList_put rfl _ _ _ 42 rfl 3 3 Try.underlying42 Try.underlying3 rfl hm _ rfl (.int .i64 ((c why : Int) + 1)) rfl ?_; intro w1 hm1 hf1
       have s1 : Blk w1 p 44 _ := H.out.sp.frm hf1 (by have := hm.ne_blk H.out.sp; omega)
       have r1 : Blk w1 r 29 (flat R) := H.out.row.frm hf1 (by have := hm.ne_blk H.out.row; omega)
       have e1 := s1.cell
       have f2 := s1.frozen
       have S1 := Troupe.hid s1
       have R1 := Troupe.hid r1
       have M1 := Troupe.hid hm1
       have F1 := Troupe.hid hf1
       clear s1 r1 hm1 hf1 c0))
  go_ret
  have hmp := hm.ne_blk H.out.sp
  have hmr := hm.ne_blk H.out.row
  have hrp : r ≠ p := fun e => hpr e.symm
  have FF := Frm.one w1 ⟨p, 3, none⟩ (.int .i64 ((t : Int) + 1))
  have hR : R = [] := List.eq_nil_of_length_eq_zero H.out.len
  refine ⟨rfl, ?_, ?_⟩
  · refine ⟨?_, ?_, ?_, ?_, ?_, by omega⟩
    · exact S1.out.set_ 3 _
    · subst hR; exact R1.out.far (p := ⟨p, 3, none⟩) hrp _
    · exact ⟨_, _, M1.out.frm FF (by simpa using hmp), bump_map G.out⟩
    · subst hR; rfl
    · exact H.out.at_
  · exact (F1.out.and_then FF).mono (fun k _ hk => by simp at hk; omega)

theorem put_ok {p m r N a t : Nat} {c : Int → Nat} {R : List Let} (id to_ why : Int) (w : World) (h : Sink w p m r N c R a t) (h1 : 1 ≤ why) (h5 : why ≤ 5) (hc : (c why : Int) < 1000000) (ht : t < 1000000) :
    Calls Try.prog 9 #[.pointer (some ⟨p, 0, none⟩), .int .u64 id, .int .i64 to_, .int .i64 why] w fun e w' => e = .returned (.int .i64 0) ∧
      Sink w' p m r N (bump c why) (R.set a ⟨id, to_, why⟩) (stepAt N a) (t + 1) ∧ Frm (fun k => k = p ∨ k = m ∨ k = r) w w' := by
  by_cases hN : N = 0
  · exact put_none id to_ why w h h1 h5 hN hc ht
  · exact put_some id to_ why w h h1 h5 (by omega) hc ht
end Go.Proofs.Ytdggmmdimebljaa
