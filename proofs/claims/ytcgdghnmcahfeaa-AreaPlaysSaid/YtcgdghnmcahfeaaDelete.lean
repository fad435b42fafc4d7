/- slices.Delete of one region, by contract. -/
import Derived.Test.YtcgdghnmcahfeaaInsert
namespace Go.Proofs.Ytcgdghnmcahfeaa
open Go.RowKit Go.Maps Go.Troupe

theorem zero47 (w : World) : (zeroValue 47).run Try.prog w = .ok (.agg #[.int .i64 0, .int .i64 0]) w := by
  obtain ⟨i, hi, hz, _, _⟩ := info_parts info47
  simp [zeroValue, typeInfo, hi, hz]
theorem eraseIdx_eq (l : List Rg) (i : Nat) : l.eraseIdx i = l.take i ++ l.drop (i + 1) := List.eraseIdx_eq_take_drop_succ l i
theorem zeros47 : (Builtin.zeroCells (Value.agg #[.int .i64 0, .int .i64 0]).cells 1).toList = [.int .i64 0, .int .i64 0] := by
  simp [Builtin.zeroCells, Value.cells, List.range_succ]
def Deleted (v : Value) (n : Nat) (l : List Rg) (w : World) (e : Ending) (w' : World) : Prop :=
  ∃ v', e = .returned v' ∧ w'.ownsRow 0 47 2 v' n (flatG l) ∧ Frm (fun k => v.ownBlock = some k) w w' ∧ v'.ownBlock = v.ownBlock
theorem del_cells (X a c z : List Value) (k : Nat) (ha : X.take a.length = a) (hl : a.length + c.length + z.length ≤ X.length) (hk : k = a.length + c.length) :
    (sets (sets X a.length c) k z).take k = a ++ c := by
  subst hk
  apply List.ext_getElem?
  intro j
  rw [List.getElem?_take]
  by_cases hj : j < a.length + c.length
  · rw [if_pos hj, sets_get _ _ _ _ (by rw [sets_len]; omega), if_neg (by omega), sets_get _ _ _ _ (by omega)]
    by_cases h1 : j < a.length
    · rw [if_neg (by omega), List.getElem?_append_left h1]
      conv => rhs; rw [← ha]
      rw [List.getElem?_take, if_pos h1]
    · rw [if_pos (by omega), List.getElem?_append_right (by omega)]
  · rw [if_neg hj, List.getElem?_eq_none (by rw [List.length_append]; omega)]
set_option maxRecDepth 100000 in
set_option maxHeartbeats 2000000 in
theorem delete_any (A : Option Addr) (n c i : Nat) (l : List Rg) (w : World) (hl : l.length = n) (hn : n ≤ 65536) (hi : i < n) (ho : w.ownsRow 0 47 2 (.slice A n c) n (flatG l)) :
    Calls Try.prog 27 #[.slice A n c, .int .i64 i, .int .i64 (i + 1 : Nat)] w (Deleted (.slice A n c) (n - 1) (l.eraseIdx i) w) := by
  rcases own_blk ho with ⟨_, h0, _⟩ | ⟨g, cs, rfl, hb, hcl, -, hnc, hcm, hct⟩
  · omega
  have hc63 : c ≤ 9223372036854775807 := hcm
  have hA2 : (flatG (l.take i)).length = i * 2 := by rw [flatG_len, List.length_take]; omega
  have hD : (flatG (l.drop (i + 1))).length = (n - (i + 1)) * 2 := by rw [flatG_len, List.length_drop, hl]
  have hsub : ∀ j v, (flatG (l.drop (i + 1)))[j]? = some v → w.cell? ⟨g, (i + 1) * 2 + j, none⟩ = some v := fun j v hj => by
    rw [← flatG_drop, List.getElem?_drop, ← hct, List.getElem?_take] at hj
    split at hj
    · rw [hb.cell]; exact hj
    · cases hj
  have e0 : ((i + 1) * 2) = i * 2 + 2 := by omega
  have en : i + (n - (i + 1)) = n - 1 := by omega
  obtain ⟨m, hm⟩ : ∃ m, m = n - (i + 1) := ⟨_, rfl⟩
  obtain ⟨j, hj⟩ : ∃ j, j = i + 1 := ⟨_, rfl⟩
  rw [← hj]
  have hjn : j ≤ n := by omega
  have q1 : ¬ ((i : Int) = (j : Int)) := by omega
  have q2 : (i : Int) ≤ (j : Int) := by omega
  have q3 : (j : Int) ≤ (n : Int) := by omega
  have q4 : (n : Int) ≤ (c : Int) := by omega
  have q5 : i ≤ c := by omega
  have q6 : j ≤ c := by omega
  have q7 : (i : Int) ≤ (c : Int) := by omega
  have q8 : (i : Int) ≤ (n : Int) := by omega
  have B0 := Troupe.hid hb
  have SUB := Troupe.hid hsub
  have CT := Troupe.hid hct
  have HJ := Troupe.hid hj
  clear hb hsub hct ho hj
  obtain ⟨k, hk⟩ : ∃ k, k = n - 1 := ⟨_, rfl⟩
  have hki : i + (n - j) = k := by have := HJ.out; omega
  have hkc : ¬ c = k := by omega
  have hkn : (k : Int) ≤ (n : Int) := by omega
  have hkn' : k ≤ n := by omega
  have hkc' : (k : Int) ≤ (c : Int) := by omega
  have hn1 : n - k = 1 := by omega
  rw [← hk]
  have HK := Troupe.hid hk
  have FS : Hid (flatG (l.eraseIdx i) = flatG (l.take i) ++ flatG (l.drop (i + 1))) := by unfold Hid; rw [eraseIdx_eq, flatG_append]
  have AX : Hid (cs.take (flatG (l.take i)).length = flatG (l.take i)) := by
    unfold Hid
    rw [hA2, ← flatG_take, ← CT.out, List.take_take, Nat.min_eq_left (by omega)]
  have LZ : Hid ((flatG (l.take i)).length + (flatG (l.drop (i + 1))).length + 2 ≤ cs.length) := by unfold Hid; rw [hA2, hD, hcl]; have := HJ.out; omega
  have LK : Hid (k * 2 = (flatG (l.take i)).length + (flatG (l.drop (i + 1))).length) := by unfold Hid; rw [hA2, hD]; have := HJ.out; omega
  have LD : Hid ((flatG (l.drop (i + 1))).length = (n - j) * 2) := by unfold Hid; rw [hD, HJ.out]
  clear hk
  go_enter Try.func27, Try.ntmps27
  go_wp2_with fail
  refine region_still_tail 6 (by kernel_rfl) (by kernel_rfl) ?_
  intro w2 hh hf
  have B2 := Troupe.hid (B0.out.heap hh)
  have F2 := Troupe.hid hf
  have SUB2 : Hid (∀ q v, (flatG (l.drop (i + 1)))[q]? = some v → w2.cell? ((⟨g, j * 2, none⟩ : Addr).add q) = some v) := by
    intro q v hq
    rw [Addr.add_lit]
    have := HJ.out
    subst this
    exact (World.cell?_of_block (by rw [hh])).trans (SUB.out q v hq)
  clear hh hf
  simp only [List.take_succ_cons, List.take_zero, List.drop_succ_cons, List.drop_zero]
  by_cases hcj : c = j
  · have hnj : n - j = 0 := by omega
    have hcj' : c - j = 0 := by omega
    have ND : Hid (flatG (l.drop (i + 1)) = []) := by unfold Hid; have := LD.out; rw [hnj] at this; exact List.eq_nil_of_length_eq_zero (by omega)
    subst hcj
    repeat still_step
    refine wpStill_nil ?_
    refine wpList_appRoom rfl (.tmp 22) (.tmp 25) 44 rfl 47 Try.underlying44 2 size47 g i c rfl ⟨g, 0, none⟩ 0 _ rfl 47 cs B2.out [] rfl (fun _ _ h => by simp at h) (by simp) (by omega) (by have := LZ.out; rw [hA2] at this; simp only [List.length_nil]; omega) ?_
    intro w3 hb3 hf3
    rw [← ND.out] at hb3
    have B3 := Troupe.hid hb3
    have F3 := Troupe.hid hf3
    clear hb3 hf3
    rw [show i + 0 = k by omega]
    have FIT : Hid (k * 2 + [Value.int .i64 0, Value.int .i64 0].length ≤ (sets cs (i * 2) (flatG (l.drop (i + 1)))).length) := by
      unfold Hid
      rw [sets_len]; have := LZ.out; have := LK.out; simp only [List.length_cons, List.length_nil]; omega
    have ONE : Hid (∀ v ∈ [Value.int .i64 0, Value.int .i64 0], v.oneCell' = true) := by intro v hv; simp at hv; subst hv; rfl
    go_wp2_with (refine wpList_clearN rfl (.tmp 31) 44 rfl 47 Try.underlying44 _ (zero47 _) g (k * 2) 1 _ rfl (by decide) 47 _ B3.out [.int .i64 0, .int .i64 0] zeros47 FIT.out ONE.out ?_; intro w4 hb4 hf4; have B4 := Troupe.hid hb4; have F4 := Troupe.hid hf4; clear hb4 hf4)
    go_ret
    have hfin := del_cells cs (flatG (l.take i)) (flatG (l.drop (i + 1))) [.int .i64 0, .int .i64 0] (k * 2) AX.out LZ.out LK.out
    rw [← FS.out, hA2] at hfin
    refine ⟨_, rfl, ?_, ?_, rfl⟩
    · have := blk_own (base := 0) (size := 2) (n := k) (cap := c) B4.out (by rw [sets_len, sets_len, hcl]) (Nat.zero_le _) (by omega) hcm
      rw [hfin] at this
      exact this
    · exact ((F2.out.mono (S' := fun k => (Value.slice (some ⟨g, 0, none⟩) n c).ownBlock = some k) (fun _ _ h => h.elim)).trans F3.out (fun _ _ h => by simp [Value.ownBlock, h])).trans F4.out (fun _ _ h => by simp [Value.ownBlock, h])
  · repeat still_step
    refine wpStill_nil ?_
    refine wpList_appRoom rfl (.tmp 22) (.tmp 25) 44 rfl 47 Try.underlying44 2 size47 g i c rfl ⟨g, j * 2, none⟩ (n - j) (c - j) rfl 47 cs B2.out (flatG (l.drop (i + 1))) LD.out SUB2.out (flatG_one _) (by omega) (by have := LZ.out; rw [hA2] at this; omega) ?_
    intro w3 hb3 hf3
    have B3 := Troupe.hid hb3
    have F3 := Troupe.hid hf3
    clear hb3 hf3
    rw [hki]
    have FIT : Hid (k * 2 + [Value.int .i64 0, Value.int .i64 0].length ≤ (sets cs (i * 2) (flatG (l.drop (i + 1)))).length) := by
      unfold Hid
      rw [sets_len]; have := LZ.out; have := LK.out; simp only [List.length_cons, List.length_nil]; omega
    have ONE : Hid (∀ v ∈ [Value.int .i64 0, Value.int .i64 0], v.oneCell' = true) := by intro v hv; simp at hv; subst hv; rfl
    go_wp2_with (refine wpList_clearN rfl (.tmp 31) 44 rfl 47 Try.underlying44 _ (zero47 _) g (k * 2) 1 _ rfl (by decide) 47 _ B3.out [.int .i64 0, .int .i64 0] zeros47 FIT.out ONE.out ?_; intro w4 hb4 hf4; have B4 := Troupe.hid hb4; have F4 := Troupe.hid hf4; clear hb4 hf4)
    go_ret
    have hfin := del_cells cs (flatG (l.take i)) (flatG (l.drop (i + 1))) [.int .i64 0, .int .i64 0] (k * 2) AX.out LZ.out LK.out
    rw [← FS.out, hA2] at hfin
    refine ⟨_, rfl, ?_, ?_, rfl⟩
    · have := blk_own (base := 0) (size := 2) (n := k) (cap := c) B4.out (by rw [sets_len, sets_len, hcl]) (Nat.zero_le _) (by omega) hcm
      rw [hfin] at this
      exact this
    · exact ((F2.out.mono (S' := fun k => (Value.slice (some ⟨g, 0, none⟩) n c).ownBlock = some k) (fun _ _ h => h.elim)).trans F3.out (fun _ _ h => by simp [Value.ownBlock, h])).trans F4.out (fun _ _ h => by simp [Value.ownBlock, h])
end Go.Proofs.Ytcgdghnmcahfeaa
