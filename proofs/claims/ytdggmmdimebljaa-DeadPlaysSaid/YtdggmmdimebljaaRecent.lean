/- Recent, by its contract. -/
import Derived.Test.YtdggmmdimebljaaSink
namespace Go.Proofs.Ytdggmmdimebljaa
open Go.RowKit Go.Maps Go.Troupe

def lastL (R : List Let) (N a t : Nat) : List Let := if N ≤ t then R.drop a ++ R.take a else R.take a
def IsRecent (R : List Let) (N a t : Nat) (w : World) (e : Ending) (w' : World) : Prop :=
  ∃ v, e = .returned v ∧ w'.ownsRow w.heap.size 29 3 v (lastL R N a t).length (flat (lastL R N a t)) ∧ Below w.heap.size w w'

set_option maxRecDepth 100000 in
set_option maxHeartbeats 400000 in
theorem recent_full {p m r N a t : Nat} {c : Int → Nat} {R : List Let} (w : World) (h : Sink w p m r N c R a t) (hN0 : 0 < N) (hfull : N ≤ t) :
    Calls Try.prog 14 #[.pointer (some ⟨p, 0, none⟩)] w (IsRecent R N a t w) := by
  have ha : a < N := by have := h.at_; omega
  have haN : a ≤ N := by omega
  have hNa : ¬ N = a := by omega
  have hN64 := h.le
  have hfin : Hid (lastL R N a t = R.drop a ++ R.take a) := by unfold Hid lastL; rw [if_pos hfull]
  have H := Troupe.hid h
  clear h
  go_enter Try.func14, Try.ntmps14
  go_wp2
  refine region_still (by kernel_rfl) (by kernel_rfl) ?_
  intro w2 hh2 hf2
  have s2 := H.out.sp.heap hh2
  have r2 := H.out.row.heap hh2
  have e2 := s2.cell
  have S2 := Troupe.hid s2
  have R2 := Troupe.hid r2
  have F2 := Troupe.hid hf2
  clear s2 r2 hh2 hf2
  repeat still_step
  refine wpStill_nil ?_
  go_wp2
  refine region_still_tail 10 (by kernel_rfl) (by kernel_rfl) ?_
  intro w3 hh3 hf3
  have s3 := S2.out.heap hh3
  have r3 := R2.out.heap hh3
  have e3 := s3.cell
  have S3 := Troupe.hid s3
  have R3 := Troupe.hid r3
  have F3 := Troupe.hid (F2.out.and_then hf3)
  clear s3 r3 hh3 hf3 e2
  simp only [List.take_succ_cons, List.take_zero, List.drop_succ_cons, List.drop_zero]
  repeat still_step
  refine wpStill_nil ?_
  have hz3 := F3.out.size
  have hl1 : (flat (R.drop a)).length = (N - a) * 3 := by rw [flat_length, List.length_drop, H.out.len]; omega
  have hc1 : Cells w3 w3.heap.size (some ⟨r, a * 3, none⟩) (flat (R.drop a)) := by
    have := (Cells.blk (n := (flat R).length) R3.out R3.out.lt).cut (a * 3)
    rw [List.take_length, ← flat_drop] at this
    by_cases h0 : a * 3 = 0
    · rw [h0] at this ⊢; simpa [Addr.add] using this
    · simpa [Addr.add, h0] using this
  have HL1 := Troupe.hid hl1
  have HC1 := Troupe.hid hc1
  clear hl1 hc1
  go_wp2_with (at_builtin; refine wpList_app rfl (.tmp 14) (.tmp 23) 22 rfl w.heap.size 29 info29 Try.underlying22 rfl (by decide) (.slice none 0 0) 0 [] rfl (World.ownsRow_nil _ _ _ _) w3.heap.size _ (N - a) (N - a) (flat (R.drop a)) rfl HL1.out HC1.out (fun h => by cases h) (flat_one _) (by omega) (by unfold maxLen; omega) hz3 ?_; intro v4 w4 h4; have H4 := Troupe.hid h4; clear h4)
  refine region_still_tail 10 (by kernel_rfl) (by kernel_rfl) ?_
  intro w5 hh5 hf5
  have hr5 : r < w3.heap.size := R3.out.lt
  have hp5 : p < w3.heap.size := S3.out.lt
  have s5 := (S3.out.frm H4.out.frm (by simp [Value.ownBlock])).heap hh5
  have r5 := (R3.out.frm H4.out.frm (by simp [Value.ownBlock])).heap hh5
  have o5 := H4.out.own.kept (row := none) (w' := w5) ⟨hf5.os, hf5.tape, hf5.output, hf5.size, fun k _ _ => by rw [hh5]⟩ (by cases hv : v4.ownBlock <;> simp)
  have e5 := s5.cell
  have F5 := Troupe.hid (((F3.out.and_then H4.out.frm)).and_then hf5)
  have S5 := Troupe.hid s5
  have R5 := Troupe.hid r5
  have O5 := Troupe.hid o5
  clear s5 r5 hh5 hf5 e3 o5
  simp only [List.take_succ_cons, List.take_zero, List.drop_succ_cons, List.drop_zero]
  repeat still_step
  refine wpStill_nil ?_
  have hz5 := F5.out.size
  have hl2 : (flat (R.take a)).length = a * 3 := by rw [flat_length, List.length_take, H.out.len]; omega
  have hc2 : Cells w5 w5.heap.size (some ⟨r, 0, none⟩) (flat (R.take a)) := by
    rw [flat_take]
    exact Cells.blk R5.out R5.out.lt
  have HL2 := Troupe.hid hl2
  have HC2 := Troupe.hid hc2
  clear hl2 hc2
  go_wp2_with (at_builtin; refine wpList_app rfl (.tmp 25) (.tmp 34) 22 rfl w.heap.size 29 info29 Try.underlying22 rfl (by decide) v4 _ _ rfl O5.out w5.heap.size _ a N (flat (R.take a)) rfl HL2.out HC2.out (fun h => by cases h) (flat_one _) (by omega) (by unfold maxLen; omega) hz5 ?_; intro v6 w6 h6; have H6 := Troupe.hid h6; clear h6)
  go_ret
  refine ⟨v6, rfl, ?_, ?_⟩
  · rw [hfin.out, flat_append]
    have := H6.out.own
    rw [List.nil_append] at this
    rwa [show (R.drop a ++ R.take a).length = 0 + (N - a) + a by rw [List.length_append, List.length_drop, List.length_take, H.out.len]; omega]
  · refine (F5.out.and_then H6.out.frm).below (Nat.le_refl _) (fun k hk => ?_)
    have hv := O5.out.lt
    simp [Value.ownBlock] at hk
    exact (hv k hk).1

set_option maxRecDepth 100000 in
set_option maxHeartbeats 400000 in
theorem recent_part {p m r N a t : Nat} {c : Int → Nat} {R : List Let} (w : World) (h : Sink w p m r N c R a t) (hN0 : 0 < N) (hfull : t < N) :
    Calls Try.prog 14 #[.pointer (some ⟨p, 0, none⟩)] w (IsRecent R N a t w) := by
  have ha : a < N := by have := h.at_; omega
  have haN : a ≤ N := by omega
  have hN64 := h.le
  have hfin : Hid (lastL R N a t = R.take a) := by unfold Hid lastL; rw [if_neg (by omega)]
  have H := Troupe.hid h
  clear h
  go_enter Try.func14, Try.ntmps14
  go_wp2
  refine region_still (by kernel_rfl) (by kernel_rfl) ?_
  intro w2 hh2 hf2
  have s2 := H.out.sp.heap hh2
  have r2 := H.out.row.heap hh2
  have e2 := s2.cell
  have S2 := Troupe.hid s2
  have R2 := Troupe.hid r2
  have F2 := Troupe.hid hf2
  clear s2 r2 hh2 hf2
  repeat still_step
  refine wpStill_nil ?_
  go_wp2
  refine region_still_tail 10 (by kernel_rfl) (by kernel_rfl) ?_
  intro w5 hh5 hf5
  have s5 := S2.out.heap hh5
  have r5 := R2.out.heap hh5
  have e5 := s5.cell
  have F5 := Troupe.hid (F2.out.and_then hf5)
  have S5 := Troupe.hid s5
  have R5 := Troupe.hid r5
  clear s5 r5 hh5 hf5 e2
  simp only [List.take_succ_cons, List.take_zero, List.drop_succ_cons, List.drop_zero]
  repeat still_step
  refine wpStill_nil ?_
  have hz5 := F5.out.size
  have hl2 : (flat (R.take a)).length = a * 3 := by rw [flat_length, List.length_take, H.out.len]; omega
  have hc2 : Cells w5 w5.heap.size (some ⟨r, 0, none⟩) (flat (R.take a)) := by
    rw [flat_take]
    exact Cells.blk R5.out R5.out.lt
  have HL2 := Troupe.hid hl2
  have HC2 := Troupe.hid hc2
  clear hl2 hc2
  go_wp2_with (at_builtin; refine wpList_app rfl (.tmp 25) (.tmp 34) 22 rfl w.heap.size 29 info29 Try.underlying22 rfl (by decide) (.slice none 0 0) 0 [] rfl (World.ownsRow_nil _ _ _ _) w5.heap.size _ a N (flat (R.take a)) rfl HL2.out HC2.out (fun h => by cases h) (flat_one _) (by omega) (by unfold maxLen; omega) hz5 ?_; intro v6 w6 h6; have H6 := Troupe.hid h6; clear h6)
  go_ret
  refine ⟨v6, rfl, ?_, ?_⟩
  · rw [hfin.out]
    have := H6.out.own
    rw [List.nil_append] at this
    rwa [show (R.take a).length = 0 + a by rw [List.length_take, H.out.len]; omega]
  · refine (F5.out.and_then H6.out.frm).below (Nat.le_refl _) (fun k hk => ?_)
    simp [Value.ownBlock] at hk

set_option maxRecDepth 100000 in
set_option maxHeartbeats 400000 in
theorem recent_zero {p m r a t : Nat} {c : Int → Nat} {R : List Let} (w : World) (h : Sink w p m r 0 c R a t) :
    Calls Try.prog 14 #[.pointer (some ⟨p, 0, none⟩)] w (IsRecent R 0 a t w) := by
  obtain rfl : a = 0 := by have := h.at_; omega
  obtain rfl : R = [] := List.eq_nil_of_length_eq_zero h.len
  have hz : (0 : Int) ≤ (t : Int) := by omega
  have H := Troupe.hid h
  clear h
  go_enter Try.func14, Try.ntmps14
  go_wp2
  refine region_still (by kernel_rfl) (by kernel_rfl) ?_
  intro w2 hh2 hf2
  have s2 := H.out.sp.heap hh2
  have r2 := H.out.row.heap hh2
  have e2 := s2.cell
  have S2 := Troupe.hid s2
  have R2 := Troupe.hid r2
  have F2 := Troupe.hid hf2
  clear s2 r2 hh2 hf2
  repeat still_step
  refine wpStill_nil ?_
  go_wp2
  refine region_still_tail 10 (by kernel_rfl) (by kernel_rfl) ?_
  intro w3 hh3 hf3
  have s3 := S2.out.heap hh3
  have r3 := R2.out.heap hh3
  have e3 := s3.cell
  have S3 := Troupe.hid s3
  have R3 := Troupe.hid r3
  have F3 := Troupe.hid (F2.out.and_then hf3)
  clear s3 r3 hh3 hf3 e2
  simp only [List.take_succ_cons, List.take_zero, List.drop_succ_cons, List.drop_zero]
  repeat still_step
  refine wpStill_nil ?_
  have hz3 := F3.out.size
  have hc1 : Cells w3 w3.heap.size (some ⟨r, 0, none⟩) [] := .inl rfl
  have HC1 := Troupe.hid hc1
  clear hc1
  go_wp2_with (at_builtin; refine wpList_app rfl (.tmp 14) (.tmp 23) 22 rfl w.heap.size 29 info29 Try.underlying22 rfl (by decide) (.slice none 0 0) 0 [] rfl (World.ownsRow_nil _ _ _ _) w3.heap.size _ 0 0 [] rfl rfl HC1.out (fun h => by cases h) (by simp) (by omega) (by unfold maxLen; omega) hz3 ?_; intro v4 w4 h4; have H4 := Troupe.hid h4; clear h4)
  refine region_still_tail 10 (by kernel_rfl) (by kernel_rfl) ?_
  intro w5 hh5 hf5
  have hr5 : r < w3.heap.size := R3.out.lt
  have hp5 : p < w3.heap.size := S3.out.lt
  have s5 := (S3.out.frm H4.out.frm (by simp [Value.ownBlock])).heap hh5
  have r5 := (R3.out.frm H4.out.frm (by simp [Value.ownBlock])).heap hh5
  have o5 := H4.out.own.kept (row := none) (w' := w5) ⟨hf5.os, hf5.tape, hf5.output, hf5.size, fun k _ _ => by rw [hh5]⟩ (by cases hv : v4.ownBlock <;> simp)
  have e5 := s5.cell
  have F5 := Troupe.hid (((F3.out.and_then H4.out.frm)).and_then hf5)
  have S5 := Troupe.hid s5
  have R5 := Troupe.hid r5
  have O5 := Troupe.hid o5
  clear s5 r5 hh5 hf5 e3 o5
  simp only [List.take_succ_cons, List.take_zero, List.drop_succ_cons, List.drop_zero]
  repeat still_step
  refine wpStill_nil ?_
  have hz5 := F5.out.size
  have hc2 : Cells w5 w5.heap.size (some ⟨r, 0, none⟩) [] := .inl rfl
  have HC2 := Troupe.hid hc2
  clear hc2
  go_wp2_with (at_builtin; refine wpList_app rfl (.tmp 25) (.tmp 34) 22 rfl w.heap.size 29 info29 Try.underlying22 rfl (by decide) v4 _ _ rfl O5.out w5.heap.size _ 0 0 [] rfl rfl HC2.out (fun h => by cases h) (by simp) (by omega) (by unfold maxLen; omega) hz5 ?_; intro v6 w6 h6; have H6 := Troupe.hid h6; clear h6)
  go_ret
  refine ⟨v6, rfl, ?_, ?_⟩
  · simpa [lastL, flat] using H6.out.own
  · refine (F5.out.and_then H6.out.frm).below (Nat.le_refl _) (fun k hk => ?_)
    have hv := O5.out.lt
    simp [Value.ownBlock] at hk
    exact (hv k hk).1

theorem recent_any {p m r N a t : Nat} {c : Int → Nat} {R : List Let} (w : World) (h : Sink w p m r N c R a t) : Calls Try.prog 14 #[.pointer (some ⟨p, 0, none⟩)] w (IsRecent R N a t w) := by
  by_cases h0 : N = 0
  · subst h0; exact recent_zero w h
  · by_cases ht : N ≤ t
    · exact recent_full w h (by omega) ht
    · exact recent_part w h (by omega) (by omega)
end Go.Proofs.Ytdggmmdimebljaa
