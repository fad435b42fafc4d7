/- Slot and Who by contracts. -/
import Derived.Test.YtfeeajodgcdflaaData
namespace Go.Proofs.Ytfeeajodgcdflaa
open Go.RowKit Go.Maps Go.Troupe

/-- A slot's place, -1 if it is none. -/
def slotV (s : ByteArray) : Int := if s.toList = [97] then 0 else if s.toList = [98] then 1 else if s.toList = [99] then 2 else if s.toList = [100] then 3 else -1
theorem slotV_range (s : ByteArray) : -1 ≤ slotV s ∧ slotV s ≤ 3 := by
  unfold slotV
  repeat' split
  all_goals omega
theorem lne {a b : List UInt8} (h : ¬ a = b) : (a == b) = false := by rw [beq_eq_false_iff_ne]; exact h

set_option maxRecDepth 100000 in
theorem slot_any (s : ByteArray) (w : World) : Calls Try.prog 15 #[.string s] w fun e w' => e = .returned (.tuple #[.int .i64 (if slotV s < 0 then 0 else slotV s), .bool (decide (0 ≤ slotV s))]) ∧ w' = w := by
  obtain ⟨l, hl⟩ : ∃ l, s.toList = l := ⟨_, rfl⟩
  unfold slotV
  rw [hl]
  by_cases h100 : l = [100]
  · subst h100
    go_enter Try.func15, Try.ntmps15
    go_wp2
    go_ret2
    exact ⟨rfl, rfl⟩
  by_cases h99 : l = [99]
  · subst h99
    go_enter Try.func15, Try.ntmps15
    go_wp2
    go_ret2
    exact ⟨rfl, rfl⟩
  by_cases h98 : l = [98]
  · subst h98
    go_enter Try.func15, Try.ntmps15
    go_wp2
    go_ret2
    exact ⟨rfl, rfl⟩
  by_cases h97 : l = [97]
  · subst h97
    go_enter Try.func15, Try.ntmps15
    go_wp2
    go_ret2
    exact ⟨rfl, rfl⟩
  have g1 := lne h100
  have g2 := lne h99
  have g3 := lne h98
  have g4 := lne h97
  rw [if_neg h97, if_neg h98, if_neg h99, if_neg h100]
  go_enter Try.func15, Try.ntmps15
  go_wp2
  go_ret2
  exact ⟨rfl, rfl⟩
def nums (l : List Int) : List Value := l.map (Value.int .i64)
/-- Whom a word names. -/
def whoV (ref : ByteArray) (self sender parent : Int) (slots : List Int) : Int :=
  if ref.toList = [115, 101, 108, 102] then self else if ref.toList = [115, 101, 110, 100, 101, 114] then sender else if ref.toList = [112, 97, 114, 101, 110, 116] then parent else if slotV ref < 0 then 0 else slots[(slotV ref).toNat]?.getD 0
theorem num_cell {w : World} {B : Nat} {A : Option Addr} {l : List Int} (h : Cells w B A (nums l)) {i : Nat} {x : Int} (hx : l[i]? = some x) : ∃ b o, A = some ⟨b, o, none⟩ ∧ b < B ∧ w.cell? ⟨b, o + i, none⟩ = some (.int .i64 x) := by
  have hne : nums l ≠ [] := by intro e; have := congrArg List.length e; simp [nums] at this; subst this; simp at hx
  obtain ⟨b, o, hA, hb, g⟩ := h.at_ hne
  exact ⟨b, o, hA, hb, g i _ (by simp [nums, hx])⟩
set_option maxRecDepth 100000 in
theorem who_any (ref : ByteArray) (self sender parent : Int) (A : Option Addr) (n c : Nat) (l : List Int) (hl : l.length = n) (w : World) (hc : Cells w w.heap.size A (nums l)) :
    Calls Try.prog 17 #[.string ref, .int .i64 self, .int .i64 sender, .int .i64 parent, .slice A n c] w fun e w' => e = .returned (.int .i64 (whoV ref self sender parent l)) ∧ w' = w := by

  unfold whoV
  have SL := Troupe.hid (slot_any ref w)
  obtain ⟨r1, r2⟩ := slotV_range ref
  obtain ⟨s, hs⟩ : ∃ s, slotV ref = s := ⟨_, rfl⟩
  rw [hs] at SL r1 r2 ⊢
  obtain ⟨L, hL⟩ : ∃ L, ref.toList = L := ⟨_, rfl⟩
  rw [hL]
  have C := Troupe.hid hc
  clear hs hc
  by_cases h0 : L = [115, 101, 108, 102]
  · subst h0
    go_enter Try.func17, Try.ntmps17
    go_wp2
    go_ret
    exact ⟨rfl, rfl⟩
  by_cases h1 : L = [115, 101, 110, 100, 101, 114]
  · subst h1
    go_enter Try.func17, Try.ntmps17
    go_wp2
    go_ret
    exact ⟨rfl, rfl⟩
  by_cases h2 : L = [112, 97, 114, 101, 110, 116]
  · subst h2
    go_enter Try.func17, Try.ntmps17
    go_wp2
    go_ret
    exact ⟨rfl, rfl⟩
  rw [if_neg h0, if_neg h1, if_neg h2]
  have b0 := lne h0
  have b1 := lne h1
  have b2 := lne h2
  by_cases hneg : s < 0
  · rw [if_pos hneg]
    have hd : decide (0 ≤ s) = false := decide_eq_false (by omega)
    rw [if_pos hneg, hd] at SL
    go_enter Try.func17, Try.ntmps17
    go_wp2_with (go_at_call 15; refine SL.out.mono ?_; rintro e w' ⟨rfl, rfl⟩)
    go_ret
    exact ⟨rfl, rfl⟩
  · rw [if_neg hneg]
    have hd : decide (0 ≤ s) = true := decide_eq_true (by omega)
    rw [if_neg hneg, hd] at SL
    obtain ⟨k, rfl⟩ : ∃ k : Nat, s = k := ⟨s.toNat, by omega⟩
    by_cases hk : k < n
    · obtain ⟨x, hx⟩ : ∃ x, l[k]? = some x := ⟨_, List.getElem?_eq_getElem (by omega)⟩
      obtain ⟨b, o, rfl, _, hcell⟩ := num_cell C.out hx
      have e : l[(k : Int).toNat]?.getD 0 = x := by simp [hx]
      rw [e]
      clear hx e hneg hd r1
      go_enter Try.func17, Try.ntmps17
      go_wp2_with (go_at_call 15; refine SL.out.mono ?_; rintro e w' ⟨rfl, rfl⟩)
      go_ret
      exact ⟨rfl, rfl⟩
    · have e : l[(k : Int).toNat]?.getD 0 = 0 := by
        have : l[k]? = none := List.getElem?_eq_none (by omega)
        simp [this]
      rw [e]
      have hk2 : (n : Int) ≤ (k : Int) := by omega
      clear e hneg hd r1
      go_enter Try.func17, Try.ntmps17
      go_wp2_with (go_at_call 15; refine SL.out.mono ?_; rintro e w' ⟨rfl, rfl⟩)
      go_ret
      exact ⟨rfl, rfl⟩
end Go.Proofs.Ytfeeajodgcdflaa
