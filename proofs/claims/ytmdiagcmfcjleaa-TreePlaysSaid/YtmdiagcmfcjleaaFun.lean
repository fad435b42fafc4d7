/- Functions of package slices at numbers, by contracts: DeleteFunc (with Cut's closure), Clone, Ints. -/
import Derived.Test.YtmdiagcmfcjleaaData
import Derived.Test.YtmdiagcmfcjleaaCopy
import Derived.Deep.QuietTactic
namespace Go.Proofs.Ytmdiagcmfcjleaa
open Go.RowKit Go.Maps Go.Troupe

def wordsI (l : List Int) : List Value := l.map (Value.int .i64)
theorem wordsI_len (l : List Int) : (wordsI l).length = l.length := by simp [wordsI]
theorem wordsI_at (l : List Int) (i : Nat) (x : Int) (h : l[i]? = some x) : (wordsI l)[i]? = some (.int .i64 x) := by simp [wordsI, h]
theorem info3 : (Try.prog.info? 3).map (fun i => (i.zero, i.size, i.bytes)) = some (some (.int .i64 0), 1, 8) := by kernel_rfl
theorem size3 : (Try.prog.info? 3).map (·.size) = some 1 := by kernel_rfl
theorem one_ints (l : List Int) : ∀ u ∈ wordsI l, u.oneCell' = true := by
  intro u hu
  obtain ⟨x, _, rfl⟩ := List.mem_map.1 hu
  rfl
theorem own_at {w : World} {base n size : Nat} {e : TypeId} {v : Value} {xs : List Value} {b : Nat} (h : w.ownsRow base e size v n xs) (hb : v.ownBlock = some b) : ∃ cs, Blk w b e cs := by
  obtain ⟨A, cap, rfl, -⟩ := own_form h
  rcases own_blk h with ⟨rfl, -⟩ | ⟨g, cs, rfl, hbk, -⟩
  · simp [Value.ownBlock] at hb
  · simp [Value.ownBlock] at hb
    subst hb
    exact ⟨cs, hbk⟩
theorem own_cells {w : World} {base n size cap : Nat} {e : TypeId} {A : Option Addr} {xs : List Value} (h : w.ownsRow base e size (.slice A n cap) n xs) : Cells w w.heap.size A xs := by
  obtain ⟨A', c', e', _, _, hc, _⟩ := own_form h
  simp only [Value.slice.injEq, true_and] at e'
  obtain ⟨rfl, rfl⟩ := e'
  exact hc
theorem own_below {w w' : World} {base n size : Nat} {e : TypeId} {v : Value} {xs : List Value} (h : w.ownsRow base e size v n xs) (hb : Below w.heap.size w w') : w'.ownsRow base e size v n xs :=
  own_frm h (Frm.of_below hb) (fun k hk h' => by have := (h.lt k hk).2; omega)
theorem own_set1 {w : World} {base n cap g : Nat} {e : TypeId} {xs : List Value} (h : w.ownsRow base e 1 (.slice (some ⟨g, 0, none⟩) n cap) n xs) {i : Nat} (hi : i < n) (u : Value) :
    w.cell? ⟨g, i, none⟩ = xs[i]? ∧ (w.cell? ⟨g, i, none⟩).isSome = true ∧ w.frozen? ⟨g, i, none⟩ = false ∧ (w.setCell ⟨g, i, none⟩ u).ownsRow base e 1 (.slice (some ⟨g, 0, none⟩) n cap) n (xs.set i u) := by
  rcases own_blk h with ⟨h0, -⟩ | ⟨g', cs, hA, hbk, hcl, hbg, hqc, hcm, htk⟩
  · cases h0
  · obtain rfl : g = g' := by cases hA; rfl
    rw [Nat.mul_one] at hcl htk
    refine ⟨?_, hbk.isSome (by omega), hbk.frozen i, ?_⟩
    · rw [hbk.cell, ← htk, List.getElem?_take, if_pos hi]
    · have := blk_own (base := base) (n := n) (cap := cap) (size := 1) (hbk.set_ i u) (by simpa using hcl) hbg hqc hcm
      rw [Nat.mul_one, List.take_set, htk] at this
      exact this
/-- A row cut off behind. -/
theorem own_cut {w : World} {base n m cap g : Nat} {e : TypeId} {xs : List Value} (h : w.ownsRow base e 1 (.slice (some ⟨g, 0, none⟩) n cap) n xs) (hm : m ≤ n) : w.ownsRow base e 1 (.slice (some ⟨g, 0, none⟩) m cap) m (xs.take m) := by
  rcases own_blk h with ⟨h0, -⟩ | ⟨g', cs, hA, hbk, hcl, hbg, hqc, hcm, htk⟩
  · cases h0
  · obtain rfl : g = g' := by cases hA; rfl
    rw [Nat.mul_one] at hcl htk
    have := blk_own (base := base) (n := m) (cap := cap) (size := 1) hbk (by simpa using hcl) hbg (by omega) hcm
    rw [Nat.mul_one] at this
    rw [← htk, List.take_take, Nat.min_eq_left hm]
    exact this

set_option maxRecDepth 100000 in
theorem clos24_any (k id : Int) (g : Nat) (w : World) (hg : w.cell? ⟨g, 0, none⟩ = some (.int .i64 id)) :
    Calls Try.prog 24 #[.int .i64 k, .pointer (some ⟨g, 0, none⟩)] w fun e w' => e = .returned (.bool (k == id)) ∧ w' = w := by
  go_enter Try.func24, Try.ntmps24
  go_wp2_with fail
  go_ret
  exact ⟨rfl, rfl⟩
set_option maxRecDepth 100000 in
/-- Where id stands. -/
theorem index_any (id : Int) (g : Nat) (Ad : Option Addr) (n c B : Nat) (a b : List Int) (w : World) (hl : (a ++ id :: b).length = n) (hn : n ≤ 65536) (ha : id ∉ a) (hc : Cells w B Ad (wordsI (a ++ id :: b))) (hg : w.cell? ⟨g, 0, none⟩ = some (.int .i64 id)) :
    Calls Try.prog 31 #[.slice Ad n c, .func (.func 24) #[] #[.pointer (some ⟨g, 0, none⟩)]] w fun e w' => e = .returned (.int .i64 a.length) ∧ w' = w := by
  have hal : a.length < n := by rw [← hl]; simp
  have C0 := Troupe.hid hc
  have NA := Troupe.hid ha
  have LH := Troupe.hid hl
  have CL := Troupe.hid (fun k => clos24_any k id g w hg)
  clear hc ha hg hl
  go_enter Try.func31, Try.ntmps31
  go_wp2_with fail
  go_loopw [8] (fun v8 wr => ∃ j : Nat, j ≤ a.length ∧ v8 = .int .i64 j ∧ wr = w) (fun v8 _ => n - (intOf v8).toNat)
  case atStart => exact ⟨0, Nat.zero_le _, rfl, rfl⟩
  case round =>
    obtain ⟨j, hj, rfl, hw⟩ := hrel
    subst hw
    have hjn : j < n := by omega
    obtain ⟨x, hx⟩ : ∃ x, (a ++ id :: b)[j]? = some x := ⟨_, List.getElem?_eq_getElem (by rw [LH.out]; exact hjn)⟩
    have hxw := wordsI_at _ j x hx
    obtain ⟨b1, o1, hA1, _, g1⟩ := C0.out.at_ (by intro e; rw [e] at hxw; simp at hxw)
    subst hA1
    have d1 : wr.cell? ⟨b1, o1 + j, none⟩ = some (.int .i64 x) := g1 j _ hxw
    have X := Troupe.hid hx
    clear g1 hxw hx
    by_cases hlt : j < a.length
    · have hxi : (x == id) = false := by
        refine beq_eq_false_iff_ne.2 ?_
        rintro rfl
        have h := X.out
        rw [List.getElem?_append_left hlt] at h
        exact NA.out (List.mem_of_getElem? h)
      have CX := CL.out x
      rw [hxi] at CX
      have CY := Troupe.hid CX
      clear CX
      go_wp2_with fail
      refine CY.out.mono ?_
      rintro e w2 ⟨rfl, rfl⟩
      go_wp2_with fail
      go_roundw
      case rel => exact ⟨j + 1, by omega, by go_num, by trivial⟩
      case measure => simp [intOf]; omega
    · obtain rfl : j = a.length := by omega
      have hxi : x = id := by
        have h := X.out
        rw [List.getElem?_append_right (Nat.le_refl _), Nat.sub_self] at h
        simpa using h.symm
      have CX := CL.out x
      rw [show (x == id) = true by simp [hxi]] at CX
      have CY := Troupe.hid CX
      clear CX hxi
      go_wp2_with fail
      refine CY.out.mono ?_
      rintro e w2 ⟨rfl, rfl⟩
      go_wp2_with fail
      go_ret
      exact ⟨rfl, rfl⟩

theorem del_step (a b : List Int) (id : Int) (t : Nat) (y : Int) (hy : b[t]? = some y) :
    (wordsI (a ++ b.take t ++ (id :: b).drop t)).set (a.length + t) (.int .i64 y) = wordsI (a ++ b.take (t + 1) ++ (id :: b).drop (t + 1)) := by
  have htl : t < b.length := (List.getElem?_eq_some_iff.1 hy).1
  have e : wordsI ((a ++ b.take t ++ (id :: b).drop t).set (a.length + t) y) = (wordsI (a ++ b.take t ++ (id :: b).drop t)).set (a.length + t) (.int .i64 y) := by simp [wordsI, List.map_set]
  rw [← e]
  congr 1
  have h1 : (a ++ b.take t).length = a.length + t := by rw [List.length_append, List.length_take]; omega
  rw [List.set_append_right _ _ (by omega), h1, Nat.sub_self]
  have h2 : (id :: b).drop t = (id :: b)[t]'(by simp; omega) :: (id :: b).drop (t + 1) := List.drop_eq_getElem_cons (by simp; omega)
  rw [h2, List.set_cons_zero, List.take_add_one, hy]
  simp
def Deleted (A : Option Addr) (c : Nat) (l : List Int) (w : World) (e : Ending) (w' : World) : Prop :=
  e = .returned (.slice A l.length c) ∧ w'.ownsRow 0 3 1 (.slice A l.length c) l.length (wordsI l) ∧ Frm (fun k => (Value.slice A l.length c).ownBlock = some k) w w'
theorem zero3 (w : World) : (zeroValue 3).run Try.prog w = .ok (.int .i64 0) w := by
  obtain ⟨i, hi, hz, _, _⟩ := info_parts info3
  simp [zeroValue, typeInfo, hi, hz]
theorem zeros3 : (Builtin.zeroCells (Value.int .i64 0).cells 1).toList = [.int .i64 0] := by
  simp [Builtin.zeroCells, Value.cells]
set_option maxRecDepth 100000 in
set_option maxHeartbeats 2000000 in
theorem delete_any (id : Int) (gb : Nat) (g n c : Nat) (a b : List Int) (w : World) (hl : (a ++ id :: b).length = n) (hn : n ≤ 65536) (ha : id ∉ a) (hb : id ∉ b) (ho : w.ownsRow 0 3 1 (.slice (some ⟨g, 0, none⟩) n c) n (wordsI (a ++ id :: b)))
    (hg : w.cell? ⟨gb, 0, none⟩ = some (.int .i64 id)) (hgb : gb ≠ g) :
    Calls Try.prog 23 #[.slice (some ⟨g, 0, none⟩) n c, .func (.func 24) #[] #[.pointer (some ⟨gb, 0, none⟩)]] w (Deleted (some ⟨g, 0, none⟩) c (a ++ b) w) := by
  rcases own_blk ho with ⟨h0, -⟩ | ⟨g', cs, hA, hbk, hcl, hbg, hqc, hcm, htk⟩
  · cases h0
  clear hA hbk hcl hbg htk
  have hc63 : c ≤ 9223372036854775807 := hcm
  have hlen1 : a.length + b.length + 1 ≤ n := by rw [← hl]; simp; omega
  have hlen2 : n ≤ a.length + b.length + 1 := by rw [← hl]; simp; omega
  have IX := Troupe.hid (index_any id gb (some ⟨g, 0, none⟩) n c w.heap.size a b w hl hn ha (own_cells ho) hg)
  have OW := Troupe.hid ho
  have NB := Troupe.hid hb
  have HG := Troupe.hid hg
  have hgl := block_lt_of_cell hg
  have LH := Troupe.hid hl
  have hneg : ((a.length : Int) == -1) = false := beq_eq_false_iff_ne.2 (by omega)
  clear ho ha hb hg hl
  go_enter Try.func23, Try.ntmps23
  go_wp2_with fail
  refine IX.out.mono ?_
  rintro e w0 ⟨rfl, rfl⟩
  clear IX
  go_wp2_with fail
  go_loopw [5, 6, 7] (fun v5 v6 _ wr => ∃ t : Nat, t ≤ b.length ∧ v5 = .int .i64 (a.length + t : Nat) ∧ v6 = .int .i64 (a.length + t + 1 : Nat) ∧ wr.ownsRow 0 3 1 (.slice (some ⟨g, 0, none⟩) n c) n (wordsI (a ++ b.take t ++ (id :: b).drop t)) ∧ Frm (fun k => k = g) w0 wr) (fun _ v6 _ _ => n - (intOf v6).toNat)
  case atStart => exact ⟨0, Nat.zero_le _, by simp, by go_num, by simpa using OW.out, Frm.refl _ _⟩
  case round =>
    obtain ⟨t, ht, rfl, rfl, ho, hf⟩ := hrel
    have OW1 := Troupe.hid ho
    have F1 := Troupe.hid hf
    obtain ⟨i, hi⟩ : ∃ i, i = a.length + t := ⟨_, rfl⟩
    rw [← hi]
    have HI := Troupe.hid hi
    have CL := Troupe.hid (fun k => clos24_any k id gb wr ((hf.cell hgl hgb).trans HG.out))
    clear ho hf
    by_cases hlt : t < b.length
    · obtain ⟨y, hy⟩ : ∃ y, b[t]? = some y := ⟨_, List.getElem?_eq_getElem hlt⟩
      have hin : i + 1 < n := by omega
      have d0 : wr.cell? ⟨g, i + 1, none⟩ = some (.int .i64 y) := by
        rw [(own_set1 OW1.out hin (.bool false)).1]
        refine wordsI_at _ _ _ ?_
        rw [List.getElem?_append_right (by rw [List.length_append, List.length_take]; omega), List.getElem?_drop, List.length_append, List.length_take, Nat.min_eq_left (by omega),
          show t + (i + 1 - (a.length + t)) = t + 1 by omega]
        simpa using hy
      obtain ⟨e1, e2, e3, e4⟩ := own_set1 OW1.out (i := i) (by omega) (.int .i64 y)
      rw [show (wordsI (a ++ b.take t ++ (id :: b).drop t)).set i (.int .i64 y) = wordsI (a ++ b.take (t + 1) ++ (id :: b).drop (t + 1)) by rw [hi]; exact del_step a b id t y hy] at e4
      obtain ⟨z, hz⟩ := Option.isSome_iff_exists.1 e2
      have E4 := Troupe.hid e4
      have CX := CL.out y
      have hyi : (y == id) = false := by
        refine beq_eq_false_iff_ne.2 ?_
        rintro rfl
        exact NB.out (List.mem_of_getElem? hy)
      rw [hyi] at CX
      have CY := Troupe.hid CX
      clear CX e1 e2 e4 hy hi
      go_wp2_with fail
      refine CY.out.mono ?_
      rintro e w2 ⟨rfl, rfl⟩
      go_wp2_with fail
      go_roundw
      case rel =>
        refine ⟨t + 1, by omega, ?_, ?_, E4.out, F1.out.trans (Frm.one w2 ⟨g, i, none⟩ (.int .i64 y)) (fun _ _ h => h)⟩
        · have := HI.out; go_num
        · have := HI.out; go_num
      case measure => simp [intOf]; omega
    · obtain rfl : t = b.length := by omega
      have hin : i + 1 = n := by omega
      have hic : ¬ c = i := by omega
      have hin2 : i < n := by omega
      have hii : i ≤ n := by omega
      have hn1 : n - i = 1 := by omega
      have hl2 : (a ++ b).length = i := by rw [List.length_append]; omega
      rcases own_blk OW1.out with ⟨h0, -⟩ | ⟨g', cs, hA, hbk, hcl, hbg, hqc, hcm, htk⟩
      · cases h0
      obtain rfl : g = g' := by cases hA; rfl
      have BK := Troupe.hid hbk
      have TK := Troupe.hid htk
      have LL := Troupe.hid hl2
      have CLN := Troupe.hid hcl
      have FIT : Hid (i + [Value.int .i64 0].length ≤ cs.length) := by unfold Hid; rw [hcl]; simp; omega
      have ONE : Hid (∀ v ∈ [Value.int .i64 0], v.oneCell' = true) := by intro v hv; simp at hv; subst hv; rfl
      clear hbk htk hl2 hcl hA hi CL hbg
      go_wp2_with (refine wpList_clearN rfl (.tmp 38) 25 rfl 3 Try.underlying25 _ (zero3 _) g i 1 _ rfl (by decide) 3 _ BK.out [.int .i64 0] zeros3 FIT.out ONE.out ?_; intro w4 hb4 hf4; have B4 := Troupe.hid hb4; have F4 := Troupe.hid hf4; clear hb4 hf4)
      go_ret
      unfold Deleted
      rw [LL.out]
      refine ⟨rfl, ?_, (F1.out.trans F4.out (fun _ _ h => h)).mono (fun k _ h => by simp [Value.ownBlock, h])⟩
      have := blk_own (base := 0) (n := i) (cap := c) (size := 1) B4.out (by rw [sets_len, CLN.out]) (Nat.zero_le _) (by omega) hcm
      rw [Nat.mul_one] at this
      have hX : (sets cs i [.int .i64 0]).take i = wordsI (a ++ b) := by
        rw [sets_eq _ _ _ FIT.out, List.append_assoc, List.take_append_of_le_length (by rw [List.length_take]; have := FIT.out; simp at this; omega), List.take_take, Nat.min_self]
        have h2 := TK.out
        rw [Nat.mul_one] at h2
        have h3 : cs.take i = (wordsI (a ++ b.take b.length ++ (id :: b).drop b.length)).take i := by rw [← h2, List.take_take, Nat.min_eq_left (by omega)]
        rw [h3, List.take_length]
        unfold wordsI
        rw [List.map_append, List.take_left']
        rw [List.length_map, LL.out]
      rw [hX] at this
      exact this
end Go.Proofs.Ytmdiagcmfcjleaa
