/- slices.Insert of one number, by contract. -/
import Derived.Test.YtkjjhndccelbcaaGrow
import Derived.Test.YtkjjhndccelbcaaCopy
import Derived.Lib.Overlaps
import Derived.Lib.AppendZerosOnto
import Derived.Laws.NewBlocks
import Derived.Laws.Externs
import Derived.Lib.JoinLaws
namespace Go.Proofs.Ytkjjhndccelbcaa
open Go.RowKit Go.Maps Go.Troupe

def cellG (r : Int) : List Value := [.int .i64 r]
def flatG (l : List Int) : List Value := l.flatMap cellG
theorem flatG_len (l : List Int) : (flatG l).length = l.length := by
  unfold flatG
  induction l with
  | nil => rfl
  | cons x l ih => rw [List.flatMap_cons, List.length_append, ih, List.length_cons]; simp [cellG]; omega
theorem flatG_append (l l' : List Int) : flatG (l ++ l') = flatG l ++ flatG l' := by simp [flatG]
theorem flatG_cons (r : Int) (l : List Int) : flatG (r :: l) = cellG r ++ flatG l := by simp [flatG]
theorem flatG_map (l : List Int) : flatG l = l.map fun x => Value.int .i64 x := by
  induction l with
  | nil => rfl
  | cons x l ih => rw [flatG_cons, ih]; rfl
theorem flatG_take (l : List Int) (i : Nat) : (flatG l).take i = flatG (l.take i) := by rw [flatG_map, flatG_map, List.map_take]
theorem flatG_drop (l : List Int) (i : Nat) : (flatG l).drop i = flatG (l.drop i) := by rw [flatG_map, flatG_map, List.map_drop]
theorem flatG_one (l : List Int) : ∀ u ∈ flatG l, u.oneCell' = true := by
  intro u hu
  rw [flatG_map] at hu
  obtain ⟨x, _, rfl⟩ := List.mem_map.1 hu
  rfl
theorem put3 (X a b c : List Value) (ha : X.take a.length = a) (hl : a.length + b.length + c.length ≤ X.length) :
    (sets (sets X a.length b) (a.length + b.length) c).take (a.length + b.length + c.length) = a ++ b ++ c := by
  apply List.ext_getElem?
  intro k
  rw [List.getElem?_take]
  by_cases hk : k < a.length + b.length + c.length
  · rw [if_pos hk, sets_get _ _ _ _ (by rw [sets_len]; omega)]
    by_cases h1 : k < a.length
    · rw [if_neg (by omega), sets_get _ _ _ _ (by omega), if_neg (by omega), List.append_assoc, List.getElem?_append_left h1]
      conv => rhs; rw [← ha]
      rw [List.getElem?_take, if_pos h1]
    · by_cases h2 : k < a.length + b.length
      · rw [if_neg (by omega), sets_get _ _ _ _ (by omega), if_pos (by omega), List.getElem?_append_left (by rw [List.length_append]; omega), List.getElem?_append_right (by omega)]
      · rw [if_pos (by omega), List.getElem?_append_right (by rw [List.length_append]; omega), List.length_append]
  · rw [if_neg hk, List.getElem?_eq_none (by rw [List.length_append, List.length_append]; omega)]
theorem put3' (X a b c : List Value) (ha : X.take a.length = a) (hl : a.length + b.length + c.length ≤ X.length) :
    (sets (sets X (a.length + b.length) c) a.length b).take (a.length + b.length + c.length) = a ++ b ++ c := by
  rw [← put3 X a b c ha hl]
  congr 1
  apply List.ext_getElem?
  intro k
  rw [sets_get _ _ _ _ (by rw [sets_len]; omega), sets_get _ _ _ _ (by omega), sets_get _ _ _ _ (by rw [sets_len]; omega), sets_get _ _ _ _ (by omega)]
  by_cases h1 : a.length ≤ k ∧ k < a.length + b.length
  · rw [if_pos h1, if_neg (by omega), if_pos h1]
  · rw [if_neg h1]
    by_cases h2 : a.length + b.length ≤ k ∧ k < a.length + b.length + c.length
    · rw [if_pos h2, if_pos h2]
    · rw [if_neg h2, if_neg h1, if_neg h2]
theorem insertIdx_eq (l : List Int) (i : Nat) (r : Int) (h : i ≤ l.length) : l.insertIdx i r = l.take i ++ r :: l.drop i := by
  induction l generalizing i with
  | nil => simp at h; subst h; rfl
  | cons x l ih =>
    cases i with
    | zero => rfl
    | succ i => rw [List.insertIdx_succ_cons, ih i (by simpa using h)]; rfl
theorem flatG_insert (l : List Int) (i : Nat) (r : Int) (h : i ≤ l.length) : flatG (l.insertIdx i r) = flatG (l.take i) ++ cellG r ++ flatG (l.drop i) := by
  rw [insertIdx_eq l i r h, flatG_append, flatG_cons, List.append_assoc]

theorem info3 : (Try.prog.info? 3).map (fun i => (i.zero, i.size, i.bytes)) = some (some (.int .i64 0), 1, 8) := by kernel_rfl
theorem size3 : (Try.prog.info? 3).map (·.size) = some 1 := by kernel_rfl
theorem size3r (w : World) : (Go.sizeOf 3).run Try.prog w = .ok 1 w := by
  obtain ⟨i, hi, _, hs, _⟩ := info_parts info3
  simp [Go.sizeOf, typeInfo, hi, hs]
def Inserted (v : Value) (n : Nat) (l : List Int) (w : World) (e : Ending) (w' : World) : Prop :=
  ∃ v', e = .returned v' ∧ w'.ownsRow 0 3 1 v' n (flatG l) ∧ Frm (fun k => v.ownBlock = some k) w w' ∧ (v'.ownBlock = v.ownBlock ∨ ∃ b, v'.ownBlock = some b ∧ w.heap.size ≤ b)
theorem cellG_one (r : Int) : ∀ u ∈ cellG r, u.oneCell' = true := by
  intro u hu; simp [cellG] at hu; subst hu; rfl

set_option maxRecDepth 100000 in
set_option maxHeartbeats 1000000 in
/-- behind them all -/
theorem insert_end (A : Option Addr) (n c vb : Nat) (l : List Int) (r : Int) (w : World) (hl : l.length = n) (hn : n ≤ 65536) (ho : w.ownsRow 0 3 1 (.slice A n c) n (flatG l)) (hv : Blk w vb 3 (cellG r)) :
    Calls Try.prog 65 #[.slice A n c, .int .i64 n, .slice (some ⟨vb, 0, none⟩) 1 1] w (Inserted (.slice A n c) (n + 1) (l ++ [r]) w) := by
  obtain ⟨_, _, he, hnc, hc, -, hA, -⟩ := own_form ho
  cases he
  have hc' : c ≤ 9223372036854775807 := hc
  have O := Troupe.hid ho
  have V := Troupe.hid (Cells.blk (n := 1) (B := w.heap.size) hv hv.lt)
  clear hv ho hc
  cases A with
  | none =>
    obtain ⟨rfl, rfl⟩ := hA rfl
    go_enter Try.func65, Try.ntmps65
    go_wp2_with (at_builtin; refine wpList_app rfl (.tmp 23) (.tmp 24) 97 rfl 0 3 info3 Try.underlying97 rfl (by decide) (.slice none 0 0) 0 (flatG l) rfl O.out w.heap.size (some ⟨vb, 0, none⟩) 1 1 (cellG r) rfl rfl V.out (fun h => by cases h) (cellG_one r) (by omega) (by unfold maxLen; omega) (Nat.zero_le _) ?_; intro v' w' h'; have H := Troupe.hid h'; clear h')
    go_ret
    refine ⟨v', rfl, ?_, H.out.frm, H.out.at_.imp_right fun h => ⟨_, h, Nat.le_refl _⟩⟩
    have e : flatG (l ++ [r]) = flatG l ++ cellG r := by simp [flatG]
    rw [e]; exact H.out.own
  | some ad =>
    go_enter Try.func65, Try.ntmps65
    go_wp2_with (at_builtin; refine wpList_app rfl (.tmp 23) (.tmp 24) 97 rfl 0 3 info3 Try.underlying97 rfl (by decide) (.slice (some ad) n c) n (flatG l) rfl O.out w.heap.size (some ⟨vb, 0, none⟩) 1 1 (cellG r) rfl rfl V.out (fun h => by cases h) (cellG_one r) (by omega) (by unfold maxLen; omega) (Nat.zero_le _) ?_; intro v' w' h'; have H := Troupe.hid h'; clear h')
    all_goals go_ret
    all_goals refine ⟨v', rfl, ?_, H.out.frm, H.out.at_.imp_right fun h => ⟨_, h, Nat.le_refl _⟩⟩
    all_goals have e : flatG (l ++ [r]) = flatG l ++ cellG r := by simp [flatG]
    all_goals rw [e]; exact H.out.own

theorem overlaps_no (w : World) (vb g : Nat) (cv cg : List Value) (hv : Blk w vb 3 cv) (hg : Blk w g 3 cg) (hne : vb ≠ g) (hcg : cg.length ≠ 0) (o la ca lb cb : Nat) :
    (callFunc 83 #[.slice (some ⟨vb, 0, none⟩) la ca, .slice (some ⟨g, o, none⟩) lb cb]).run Try.prog w = .ok (.value (.bool false)) w := by
  have s1 : w.shape? vb = some (3, cv.length) := by unfold Blk at hv; simp [World.shape?, hv]
  have s2 : w.shape? g = some (3, cg.length) := by unfold Blk at hg; simp [World.shape?, hg]
  rw [run_callFunc_extern Try.func83 (by kernel_rfl) (by kernel_rfl) (by kernel_rfl) (e := Extern.SlicesOverlaps.overlaps #[97, 97] #[4]) (by kernel_rfl),
    Lib.run_overlaps_apart w 97 4 3 Try.underlying97 1 size3r ⟨vb, 0, none⟩ ⟨g, o, none⟩ la ca lb cb hne 3 3 cv.length cg.length s1 s2 hcg (hv.frozen _) (hv.frozen _)]
  rfl

set_option maxRecDepth 100000 in
set_option maxHeartbeats 2000000 in
/-- ahead of one, where there is room -/
theorem insert_shift (g n c i vb : Nat) (l : List Int) (r : Int) (w : World) (hl : l.length = n) (hn : n ≤ 65536) (hi : i < n) (hroom : n + 1 ≤ c) (ho : w.ownsRow 0 3 1 (.slice (some ⟨g, 0, none⟩) n c) n (flatG l)) (hv : Blk w vb 3 (cellG r)) (hvg : vb ≠ g) :
    Calls Try.prog 65 #[.slice (some ⟨g, 0, none⟩) n c, .int .i64 i, .slice (some ⟨vb, 0, none⟩) 1 1] w (Inserted (.slice (some ⟨g, 0, none⟩) n c) (n + 1) (l.insertIdx i r) w) := by
  rcases own_blk ho with ⟨h, _⟩ | ⟨g', cs, hA, hb, hcl, -, hnc, hcm, hct⟩
  · cases h
  obtain rfl : g = g' := by cases hA; rfl
  rw [Nat.mul_one] at hcl hct
  clear hA
  have hc63 : c ≤ 9223372036854775807 := hcm
  have hA2 : (flatG (l.take i)).length = i := by rw [flatG_len, List.length_take]; omega
  have hD : (flatG (l.drop i)).length = (n - i) := by rw [flatG_len, List.length_drop, hl]
  have hsub : ∀ j v, (flatG (l.drop i))[j]? = some v → w.cell? ⟨g, i + j, none⟩ = some v := fun j v hj => by
    rw [← flatG_drop, List.getElem?_drop, ← hct, List.getElem?_take] at hj
    split at hj
    · rw [hb.cell]; exact hj
    · cases hj
  have hov := fun (w' : World) (hb' : Blk w' g 3 cs) (hv' : Blk w' vb 3 (cellG r)) => overlaps_no w' vb g (cellG r) cs hv' hb' hvg (by omega)
  have hov2 := fun o => hov w hb hv o
  have w1 : IntKind.i64.wrap ((i : Int) + 1) = (i : Int) + 1 := by rw [IntKind.wrap_i64]; omega
  have w2 : IntKind.i64.wrap ((n : Int) + 1) = ((n + 1 : Nat) : Int) := by rw [IntKind.wrap_i64]; omega
  have q1 : ¬ ((i : Int) = (n : Int)) := by omega
  have q2 : ¬ (c = i) := by omega
  have q3 : ¬ (c = i + 1) := by omega
  have q4 : ¬ ((c : Int) < ((n + 1 : Nat) : Int)) := by omega
  have q5 : i ≤ n := by omega
  have q6 : (i : Int) ≤ (n : Int) := by omega
  have q7 : (0 : Int) ≤ (i : Int) + 1 := by omega
  have q8 : ((i : Int) + 1).toNat = i + 1 := by omega
  have q9 : (i : Int) ≤ (n : Int) + 1 := by omega
  have B0 := Troupe.hid hb
  have V0 := Troupe.hid hv
  have SUB := Troupe.hid hsub
  have CT := Troupe.hid hct
  have OV := Troupe.hid hov2
  clear hb hv hsub hct ho hov hov2
  go_enter Try.func65, Try.ntmps65
  go_wp2_with (simp only [OV.out])
  refine region_still_tail 8 (by kernel_rfl) (by kernel_rfl) ?_
  intro w2 hh hf
  have B2 := Troupe.hid (B0.out.heap hh)
  have V2 := Troupe.hid (V0.out.heap hh)
  have F2 := Troupe.hid hf
  have SUB2 : Hid (∀ j v, (flatG (l.drop i))[j]? = some v → w2.cell? ((⟨g, i, none⟩ : Addr).add j) = some v) := by
    intro j v hj
    rw [Addr.add_lit]
    exact (World.cell?_of_block (by rw [hh])).trans (SUB.out j v hj)
  clear hh hf
  simp only [List.take_succ_cons, List.take_zero, List.drop_succ_cons, List.drop_zero]
  repeat still_step
  refine wpStill_nil ?_
  have SIZ : Hid (Nat.min (n + 1 - i) (n - i) = n - i) := by unfold Hid; simp only [Nat.min_def]; split <;> omega
  (refine wpList_copyN rfl (.tmp 73) (.tmp 76) 97 97 rfl 1 3 Try.underlying97 size3 g (i + 1) _ _ ⟨g, i, none⟩ _ _ rfl rfl 3 cs B2.out (n - i) (flatG (l.drop i)) SIZ.out (by rw [Nat.mul_one]; exact hD) SUB2.out (by omega) (flatG_one _) ?_; intro w3 hb3 hf3; have B3 := Troupe.hid hb3; have F3 := Troupe.hid hf3; clear hb3 hf3)
  have HM : Hid (Nat.min 1 (n + 1 - i) = 1) := by unfold Hid; simp only [Nat.min_def]; split <;> omega
  have SV : Hid (∀ j v, (cellG r)[j]? = some v → w3.cell? ((⟨vb, 0, none⟩ : Addr).add j) = some v) := by
    intro j v hj
    rw [Addr.add_lit, Nat.zero_add]
    exact (((V2.out.frm F3.out hvg).cell j)).trans hj
  go_wp2_with (refine wpList_copyN rfl (.tmp 80) (.tmp 81) 97 97 rfl 1 3 Try.underlying97 size3 g (i) _ _ ⟨vb, 0, none⟩ _ _ rfl rfl 3 _ B3.out 1 (cellG r) HM.out rfl SV.out (by rw [sets_len, hcl]; show i + 1 ≤ _; omega) (cellG_one r) ?_; intro w4 hb4 hf4; have B4 := Troupe.hid hb4; have F4 := Troupe.hid hf4; clear hb4 hf4)
  go_ret
  have hX : cs.take (flatG (l.take i)).length = flatG (l.take i) := by
    rw [hA2, ← flatG_take, ← CT.out, List.take_take, Nat.min_eq_left (by omega)]
  have hfin := put3' cs (flatG (l.take i)) (cellG r) (flatG (l.drop i)) hX (by rw [hA2, hD, hcl]; show i + 1 + (n - i) ≤ _; omega)
  rw [← flatG_insert l i r (by omega), hA2, hD] at hfin
  have e1 : i + (cellG r).length + (n - i) = (n + 1) := by show i + 1 + _ = _; omega
  rw [e1] at hfin
  refine ⟨_, rfl, ?_, ?_, .inl rfl⟩
  · have := blk_own (base := 0) (size := 1) (n := n + 1) (cap := c) B4.out (by rw [sets_len, sets_len, hcl, Nat.mul_one]) (Nat.zero_le _) hroom hcm
    rw [Nat.mul_one] at this
    rw [show (sets (sets cs (i + 1) (flatG (l.drop i))) (i) (cellG r)).take ((n + 1)) = flatG (l.insertIdx i r) from hfin] at this
    exact this
  · exact ((F2.out.mono (S' := fun k => (Value.slice (some ⟨g, 0, none⟩) n c).ownBlock = some k) (fun _ _ h => h.elim)).trans F3.out (fun _ _ h => by simp [Value.ownBlock, h])).trans F4.out (fun _ _ h => by simp [Value.ownBlock, h])

set_option maxRecDepth 100000 in
set_option maxHeartbeats 2000000 in
/-- ahead of one, where there is no room -/
theorem insert_grow (g n i vb : Nat) (l : List Int) (r : Int) (w : World) (hl : l.length = n) (hn : n ≤ 65536) (hi : i < n) (ho : w.ownsRow 0 3 1 (.slice (some ⟨g, 0, none⟩) n n) n (flatG l)) (hv : Blk w vb 3 (cellG r)) :
    Calls Try.prog 65 #[.slice (some ⟨g, 0, none⟩) n n, .int .i64 i, .slice (some ⟨vb, 0, none⟩) 1 1] w (Inserted (.slice (some ⟨g, 0, none⟩) n n) (n + 1) (l.insertIdx i r) w) := by
  rcases own_blk ho with ⟨h, _⟩ | ⟨g', cs, hA, hb, hcl, -, -, hcm, hct⟩
  · cases h
  obtain rfl : g = g' := by cases hA; rfl
  rw [Nat.mul_one] at hcl hct
  clear hA
  obtain ⟨i0, hi0, hz0, hzs, hzb⟩ := info_parts info3
  have hA2 : (flatG (l.take i)).length = i := by rw [flatG_len, List.length_take]; omega
  have hD : (flatG (l.drop i)).length = (n - i) := by rw [flatG_len, List.length_drop, hl]
  have hkk : (n : Int) + 1 - (i : Int) = ((n + 1 - i : Nat) : Int) := by omega
  have hik : i + (n + 1 - i) = n + 1 := by omega
  have hold : (Builtin.firstCells i0.size i (.slice (some ⟨g, 0, none⟩) i n)).run Try.prog w.drew = .ok (flatG (l.take i)).toArray w.drew := by
    rw [hzs]
    exact run_firstCells_some w.drew 1 i ⟨g, 0, none⟩ i n (flatG (l.take i)) (by rw [Nat.mul_one]; exact hA2) (fun j v hj => by
      rw [Addr.add_lit, Nat.zero_add]
      show w.cell? _ = _
      rw [hb.cell]
      rw [← flatG_take, List.getElem?_take] at hj
      split at hj
      · rw [← hct, List.getElem?_take] at hj
        split at hj
        · exact hj
        · cases hj
      · cases hj)
  obtain ⟨G, hG⟩ : ∃ G, G = grownCap w (n + 1) n 3 := ⟨_, rfl⟩
  obtain ⟨ROW, hROW⟩ : ∃ ROW : List Value, ROW = flatG (l.take i) ++ (Builtin.zeroCells (Value.int .i64 0).cells (n + 1 - i)).toList ++ (Builtin.zeroCells (Value.int .i64 0).cells (G - (n + 1))).toList := ⟨_, rfl⟩
  have hGn : n + 1 ≤ G := by rw [hG]; exact grownCap_ge w _ _ _
  have hGm : G ≤ maxLen := by rw [hG]; exact grownCap_le_maxLen w (n + 1) n 3 (by unfold maxLen; omega)
  have hRl : ROW.length = G := by
    have z1 : ∀ k, (Builtin.zeroCells (Value.int .i64 0).cells k).toList.length = k := fun k => by rw [Array.length_toList, size_zeroCells]; exact Nat.mul_one k
    rw [hROW, List.length_append, List.length_append, z1, z1, hA2]
    omega
  have hR' : ROW.toArray = (flatG (l.take i)).toArray ++ Builtin.zeroCells (Value.int .i64 0).cells (n + 1 - i) ++ Builtin.zeroCells (Value.int .i64 0).cells (G - (n + 1)) := by
    apply Array.ext'
    rw [hROW, Array.toList_append, Array.toList_append]
  have hRt : ROW.take (flatG (l.take i)).length = flatG (l.take i) := by
    rw [hROW, List.append_assoc, List.take_left']
    rfl
  have hrz : ∀ ty, (Builtin.append_ #[97, 3] ty #[.slice (some ⟨g, 0, none⟩) i n, .int .i64 ((n : Int) + 1 - (i : Int))]).run Try.prog w =
      .ok (.slice (some ⟨w.heap.size, 0, none⟩) (n + 1) G) (w.drew.alloc (.cells ROW.toArray 3)) := fun ty => by
    have h := Lib.run_append_grow_zeros w 97 3 ty 3 i0 _ .i64 .i64 Try.underlying97 Try.underlying3 hi0 hz0 (some ⟨g, 0, none⟩) i n (flatG (l.take i)) hold (n + 1 - i) (by omega) (by omega) (by omega) (by omega) (by rw [hzb]; omega) (by rw [hzb, hik]; exact growslice_fits (by omega) (by omega))
    rw [hik, ← hG] at h
    rw [hkk, h, hR']
  have hW1 : Blk (w.drew.alloc (.cells ROW.toArray 3)) w.heap.size 3 ROW := Blk.new w.drew 3 ROW
  obtain ⟨W1, hW⟩ : ∃ W1, W1 = w.drew.alloc (.cells ROW.toArray 3) := ⟨_, rfl⟩
  have hF1 : Frm (fun _ => False) w W1 := by rw [hW]; exact (Frm.refl _ w).drew.alloc _
  have hsub : ∀ j v, (flatG (l.drop i))[j]? = some v → w.cell? ⟨g, i + j, none⟩ = some v := fun j v hj => by
    rw [← flatG_drop, List.getElem?_drop, ← hct, List.getElem?_take] at hj
    split at hj
    · rw [hb.cell]; exact hj
    · cases hj
  have hb1 : Blk W1 g 3 cs := hb.frm hF1 (fun h => h)
  have hgne : g ≠ w.heap.size := by have := hb.lt; omega
  have hvne : vb ≠ w.heap.size := by have := hv.lt; omega
  have SV : Hid (∀ j v, (cellG r)[j]? = some v → W1.cell? ((⟨vb, 0, none⟩ : Addr).add j) = some v) := by
    intro j v hj
    rw [Addr.add_lit, Nat.zero_add]
    exact (((hv.frm hF1 (fun h => h)).cell j)).trans hj
  rw [← hW] at hrz hW1
  have hG63 : G ≤ 9223372036854775807 := hGm
  have w1 : IntKind.i64.wrap ((i : Int) + 1) = (i : Int) + 1 := by rw [IntKind.wrap_i64]; omega
  have w2 : IntKind.i64.wrap ((n : Int) + 1) = (n : Int) + 1 := by rw [IntKind.wrap_i64]; omega
  have w3 : IntKind.i64.wrap ((n : Int) + 1 - i) = (n : Int) + 1 - i := by rw [IntKind.wrap_i64]; omega
  have q1 : ¬ ((i : Int) = (n : Int)) := by omega
  have q2 : ¬ (n = i) := by omega
  have q3 : ¬ (G = i + 1) := by omega
  have q4 : ¬ (G = i) := by omega
  have q5 : i ≤ n := by omega
  have q6 : (i : Int) ≤ (n : Int) := by omega
  have q7 : (0 : Int) ≤ (i : Int) + 1 := by omega
  have q8 : ((i : Int) + 1).toNat = i + 1 := by omega
  have q9 : (i : Int) ≤ (n : Int) + 1 := by omega
  have q10 : (n : Int) < (n : Int) + 1 := by omega
  have B1 := Troupe.hid hW1
  have BG := Troupe.hid hb1
  have F1 := Troupe.hid hF1
  have RZ := Troupe.hid hrz
  have SUB := Troupe.hid hsub
  have RT := Troupe.hid hRt
  have HM : Hid (Nat.min 1 (n + 1 - i) = 1) := by unfold Hid; simp only [Nat.min_def]; split <;> omega
  have SIZ : Hid (Nat.min (n - i) (n - i) = n - i) := by unfold Hid; simp only [Nat.min_def]; split <;> omega
  have HW := Troupe.hid hW
  clear hb hv hb1 hF1 hrz hW1 hsub hct ho hold hkk hik hG hROW hR' hRt hi0 hz0 hzs hzb hW
  go_enter Try.func65, Try.ntmps65
  go_wp2_with (first
    | (at_builtin; refine Lib.wpList_append_run _ rfl _ _ _ _ rfl _ _ rfl rfl _ _ (RZ.out _) ?_)
    | (refine wpList_copyN rfl (.tmp 43) (.tmp 44) 97 97 rfl 1 3 Try.underlying97 size3 _ (i) _ _ ⟨vb, 0, none⟩ _ _ rfl rfl 3 _ B1.out 1 (cellG r) HM.out rfl SV.out (by rw [hRl]; show i + 1 ≤ _; omega) (cellG_one r) ?_; intro w4 hb4 hf4; have B4 := Troupe.hid hb4; have F4 := Troupe.hid hf4; clear hb4 hf4))
  refine region_still_tail 8 (by kernel_rfl) (by kernel_rfl) ?_
  intro w5 hh hf
  have B5 := Troupe.hid (B4.out.heap hh)
  have F5 := Troupe.hid hf
  have SUB2 : Hid (∀ j v, (flatG (l.drop i))[j]? = some v → w5.cell? ((⟨g, i, none⟩ : Addr).add j) = some v) := by
    intro j v hj
    rw [Addr.add_lit]
    have h1 := SUB.out j v hj
    have hlt := block_lt_of_cell h1
    have e1 := F1.out.cell hlt (fun h => h)
    have e2 := F4.out.cell (p := ⟨g, i + j, none⟩) (Nat.lt_of_lt_of_le hlt F1.out.size) hgne
    exact ((World.cell?_of_block (by rw [hh])).trans e2).trans (e1.trans h1)
  clear hh hf
  simp only [List.take_succ_cons, List.take_zero, List.drop_succ_cons, List.drop_zero]
  repeat still_step
  refine wpStill_nil ?_
  refine wpList_copyN rfl (.tmp 50) (.tmp 53) 97 97 rfl 1 3 Try.underlying97 size3 w.heap.size (i + 1) _ _ ⟨g, i, none⟩ _ _ rfl rfl 3 _ B5.out (n - i) (flatG (l.drop i)) SIZ.out (by rw [Nat.mul_one]; exact hD) SUB2.out (by rw [sets_len, hRl]; omega) (flatG_one _) ?_
  intro w6 hb6 hf6
  have B6 := Troupe.hid hb6
  have F6 := Troupe.hid hf6
  clear hb6 hf6
  go_wp2_with fail
  go_ret
  have hfin := put3 ROW (flatG (l.take i)) (cellG r) (flatG (l.drop i)) RT.out (by rw [hA2, hD, hRl]; show i + 1 + (n - i) ≤ _; omega)
  rw [← flatG_insert l i r (by omega), hA2, hD] at hfin
  have e1 : i + (cellG r).length + (n - i) = (n + 1) := by show i + 1 + _ = _; omega
  rw [e1] at hfin
  refine ⟨_, rfl, ?_, ?_, .inr ⟨_, rfl, Nat.le_refl _⟩⟩
  · have := blk_own (base := 0) (size := 1) (n := n + 1) (cap := G) B6.out (by rw [sets_len, sets_len, hRl, Nat.mul_one]) (Nat.zero_le _) hGn hGm
    rw [Nat.mul_one] at this
    rw [show (sets (sets ROW (i) (cellG r)) (i + 1) (flatG (l.drop i))).take ((n + 1)) = flatG (l.insertIdx i r) from hfin] at this
    exact this
  · exact (((F1.out.trans F4.out (fun k hk h => by omega)).trans F5.out (fun _ _ h => h)).trans F6.out (fun k hk h => by omega)).mono (fun _ _ h => h.elim)
/-- Wherever it is put. -/
theorem insert_any (A : Option Addr) (n c i vb : Nat) (l : List Int) (r : Int) (w : World) (hl : l.length = n) (hn : n ≤ 65536) (hi : i ≤ n) (ho : w.ownsRow 0 3 1 (.slice A n c) n (flatG l)) (hv : Blk w vb 3 (cellG r)) (hvg : ∀ b, A = some b → b.block ≠ vb) :
    Calls Try.prog 65 #[.slice A n c, .int .i64 i, .slice (some ⟨vb, 0, none⟩) 1 1] w (Inserted (.slice A n c) (n + 1) (l.insertIdx i r) w) := by
  rcases Nat.lt_or_eq_of_le hi with h | rfl
  · rcases own_blk ho with ⟨_, h0, _⟩ | ⟨g, cs, rfl, hb, hcl, -, hnc, hcm, hct⟩
    · omega
    · rcases Nat.lt_or_eq_of_le hnc with h1 | rfl
      · exact insert_shift g n c i vb l r w hl hn h h1 ho hv (Ne.symm (hvg _ rfl))
      · exact insert_grow g n i vb l r w hl hn h ho hv
  · have e : l.insertIdx i r = l ++ [r] := by
      rw [insertIdx_eq l i r (by omega), List.take_of_length_le (by omega), List.drop_eq_nil_of_le (by omega)]
    rw [e]
    exact insert_end A i c vb l r w hl hn ho hv
end Go.Proofs.Ytkjjhndccelbcaa
