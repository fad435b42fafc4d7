/- The reference's Slot and Who by contracts. -/
import Derived.Test.YtfeeajodgcdflaaWords
import Derived.Test.YtfeeajodgcdflaaPlan
import Derived.Laws.IdiomStrings
namespace Go.Proofs.Ytfeeajodgcdflaa
open Go.RowKit Go.Maps Go.Troupe
attribute [local go_sem] reads readAt readUpon Cls
def slotL (l : List UInt8) : Int := if l = [97] then 0 else if l = [98] then 1 else if l = [99] then 2 else if l = [100] then 3 else -1
theorem slotL_eq (s : ByteArray) : slotV s = slotL s.toList := rfl
set_option maxRecDepth 100000 in
set_option maxHeartbeats 2000000 in
theorem rslot_any (s : ByteArray) (w : World) : Calls Try.prog 16 #[.string s] w fun e w' => e = .returned (.int .i64 (slotV s)) ∧ Below w.heap.size w w' := by
  obtain ⟨L, hL⟩ : ∃ l, s.toList = l := ⟨_, rfl⟩
  rw [slotL_eq, hL]
  go_enter Try.func16, Try.ntmps16
  go_upto_block 0 with (fail)
  go_step
  go_loopw [3] (fun v3 wr => ∃ i : Nat, v3 = .int .i64 i ∧ i ≤ 4 ∧ (∀ j, j < i → L ≠ [UInt8.ofNat (97 + j)]) ∧ Below w.heap.size w wr) (fun v3 _ => 4 - (intOf v3).toNat)
  case atStart => exact ⟨0, rfl, Nat.zero_le _, fun j hj => by omega, Below.refl _ _⟩
  case round =>
    obtain ⟨i, rfl, hi, hne, hb⟩ := hrel
    have HB := Troupe.hid hb
    have HNE := Troupe.hid hne
    clear hb hne
    by_cases h4 : i < 4
    · have hc : i = 0 ∨ i = 1 ∨ i = 2 ∨ i = 3 := by omega
      clear hi h4
      rcases hc with hi0 | hi1 | hi2 | hi3
      · subst hi0
        have lw : IntKind.i64.wrap (97 + (0 : Int)) = 97 := by decide
        have hcv : (convert 64 9 (.slice (some ⟨wr.heap.size, 0, none⟩) 1 1)).run Try.prog (wr.alloc (.cells #[.int .u8 97] 5)) = .ok (.string ⟨#[97]⟩) (wr.alloc (.cells #[.int .u8 97] 5)) := run_convert_bytes_back (P := Try.prog) (wr.alloc (.cells #[.int .u8 97] 5)) 64 9 5 ⟨wr.heap.size, 0, none⟩ 1 [97] Try.underlying64 Try.underlying5 Try.underlying9 (fun j hj => by
          have hj0 : j = 0 := by simpa using hj
          subst hj0
          have h := (Blk.new wr 5 [.int .u8 97]).cell 0
          rw [Addr.add_lit]; exact h)
        have B1 := Troupe.hid (HB.out.trans (((Below.refl wr.heap.size wr).alloc (Nat.le_refl _) (.cells #[.int .u8 97] 5)).mono HB.out.size))
        by_cases hs : L = [97]
        · subst hs
          go_wp2_with fail
          go_ret
          exact ⟨by simp [slotL], B1.out⟩
        · have hb : (L == [97]) = false := lne hs
          have hn := Troupe.hid hs
          clear hs
          go_wp2_with fail
          go_roundw
          case rel => exact ⟨1, by go_num, by omega, fun j hj => by
            by_cases h : j = 0
            · subst h; exact hn.out
            · exact HNE.out j (by omega), B1.out⟩
          case measure => simp [intOf]
      · subst hi1
        have lw : IntKind.i64.wrap (97 + (1 : Int)) = 98 := by decide
        have hcv : (convert 64 9 (.slice (some ⟨wr.heap.size, 0, none⟩) 1 1)).run Try.prog (wr.alloc (.cells #[.int .u8 98] 5)) = .ok (.string ⟨#[98]⟩) (wr.alloc (.cells #[.int .u8 98] 5)) := run_convert_bytes_back (P := Try.prog) (wr.alloc (.cells #[.int .u8 98] 5)) 64 9 5 ⟨wr.heap.size, 0, none⟩ 1 [98] Try.underlying64 Try.underlying5 Try.underlying9 (fun j hj => by
          have hj0 : j = 0 := by simpa using hj
          subst hj0
          have h := (Blk.new wr 5 [.int .u8 98]).cell 0
          rw [Addr.add_lit]; exact h)
        have B1 := Troupe.hid (HB.out.trans (((Below.refl wr.heap.size wr).alloc (Nat.le_refl _) (.cells #[.int .u8 98] 5)).mono HB.out.size))
        by_cases hs : L = [98]
        · subst hs
          go_wp2_with fail
          go_ret
          exact ⟨by simp [slotL], B1.out⟩
        · have hb : (L == [98]) = false := lne hs
          have hn := Troupe.hid hs
          clear hs
          go_wp2_with fail
          go_roundw
          case rel => exact ⟨2, by go_num, by omega, fun j hj => by
            by_cases h : j = 1
            · subst h; exact hn.out
            · exact HNE.out j (by omega), B1.out⟩
          case measure => simp [intOf]
      · subst hi2
        have lw : IntKind.i64.wrap (97 + (2 : Int)) = 99 := by decide
        have hcv : (convert 64 9 (.slice (some ⟨wr.heap.size, 0, none⟩) 1 1)).run Try.prog (wr.alloc (.cells #[.int .u8 99] 5)) = .ok (.string ⟨#[99]⟩) (wr.alloc (.cells #[.int .u8 99] 5)) := run_convert_bytes_back (P := Try.prog) (wr.alloc (.cells #[.int .u8 99] 5)) 64 9 5 ⟨wr.heap.size, 0, none⟩ 1 [99] Try.underlying64 Try.underlying5 Try.underlying9 (fun j hj => by
          have hj0 : j = 0 := by simpa using hj
          subst hj0
          have h := (Blk.new wr 5 [.int .u8 99]).cell 0
          rw [Addr.add_lit]; exact h)
        have B1 := Troupe.hid (HB.out.trans (((Below.refl wr.heap.size wr).alloc (Nat.le_refl _) (.cells #[.int .u8 99] 5)).mono HB.out.size))
        by_cases hs : L = [99]
        · subst hs
          go_wp2_with fail
          go_ret
          exact ⟨by simp [slotL], B1.out⟩
        · have hb : (L == [99]) = false := lne hs
          have hn := Troupe.hid hs
          clear hs
          go_wp2_with fail
          go_roundw
          case rel => exact ⟨3, by go_num, by omega, fun j hj => by
            by_cases h : j = 2
            · subst h; exact hn.out
            · exact HNE.out j (by omega), B1.out⟩
          case measure => simp [intOf]
      · subst hi3
        have lw : IntKind.i64.wrap (97 + (3 : Int)) = 100 := by decide
        have hcv : (convert 64 9 (.slice (some ⟨wr.heap.size, 0, none⟩) 1 1)).run Try.prog (wr.alloc (.cells #[.int .u8 100] 5)) = .ok (.string ⟨#[100]⟩) (wr.alloc (.cells #[.int .u8 100] 5)) := run_convert_bytes_back (P := Try.prog) (wr.alloc (.cells #[.int .u8 100] 5)) 64 9 5 ⟨wr.heap.size, 0, none⟩ 1 [100] Try.underlying64 Try.underlying5 Try.underlying9 (fun j hj => by
          have hj0 : j = 0 := by simpa using hj
          subst hj0
          have h := (Blk.new wr 5 [.int .u8 100]).cell 0
          rw [Addr.add_lit]; exact h)
        have B1 := Troupe.hid (HB.out.trans (((Below.refl wr.heap.size wr).alloc (Nat.le_refl _) (.cells #[.int .u8 100] 5)).mono HB.out.size))
        by_cases hs : L = [100]
        · subst hs
          go_wp2_with fail
          go_ret
          exact ⟨by simp [slotL], B1.out⟩
        · have hb : (L == [100]) = false := lne hs
          have hn := Troupe.hid hs
          clear hs
          go_wp2_with fail
          go_roundw
          case rel => exact ⟨4, by go_num, by omega, fun j hj => by
            by_cases h : j = 3
            · subst h; exact hn.out
            · exact HNE.out j (by omega), B1.out⟩
          case measure => simp [intOf]
    · have hi4 : i = 4 := by omega
      subst hi4
      have n0 : L ≠ [97] := HNE.out 0 (by omega)
      have n1 : L ≠ [98] := HNE.out 1 (by omega)
      have n2 : L ≠ [99] := HNE.out 2 (by omega)
      have n3 : L ≠ [100] := HNE.out 3 (by omega)
      go_wp2_with fail
      go_ret
      exact ⟨by
        unfold slotL
        rw [if_neg n0, if_neg n1, if_neg n2, if_neg n3]
        rfl, HB.out⟩

set_option maxRecDepth 100000 in
theorem rwho_any (ref : ByteArray) (self sender parent : Int) (A : Option Addr) (n c : Nat) (l : List Int) (hl : l.length = n) (w : World) (hc : Cells w w.heap.size A (nums l)) :
    Calls Try.prog 18 #[.string ref, .int .i64 self, .int .i64 sender, .int .i64 parent, .slice A n c] w fun e w' => e = .returned (.int .i64 (whoV ref self sender parent l)) ∧ Below w.heap.size w w' := by
  unfold whoV
  have SL := Troupe.hid (rslot_any ref w)
  obtain ⟨r1, r2⟩ := slotV_range ref
  obtain ⟨s, hs⟩ : ∃ s, slotV ref = s := ⟨_, rfl⟩
  rw [hs] at SL r1 r2 ⊢
  obtain ⟨L, hL⟩ : ∃ L, ref.toList = L := ⟨_, rfl⟩
  rw [hL]
  have C := Troupe.hid hc
  clear hs hc
  by_cases h0 : L = [115, 101, 108, 102]
  · subst h0
    go_enter Try.func18, Try.ntmps18
    go_wp2
    go_ret
    exact ⟨rfl, Below.refl _ _⟩
  by_cases h1 : L = [115, 101, 110, 100, 101, 114]
  · subst h1
    go_enter Try.func18, Try.ntmps18
    go_wp2
    go_ret
    exact ⟨rfl, Below.refl _ _⟩
  by_cases h2 : L = [112, 97, 114, 101, 110, 116]
  · subst h2
    go_enter Try.func18, Try.ntmps18
    go_wp2
    go_ret
    exact ⟨rfl, Below.refl _ _⟩
  rw [if_neg h0, if_neg h1, if_neg h2]
  have b0 := lne h0
  have b1 := lne h1
  have b2 := lne h2
  by_cases hneg : s < 0
  · rw [if_pos hneg]
    go_enter Try.func18, Try.ntmps18
    go_wp2_with (go_at_call 16; refine SL.out.mono ?_; rintro e w' ⟨rfl, hb⟩; have HB := Troupe.hid hb; clear hb)
    go_ret
    exact ⟨rfl, HB.out⟩
  · rw [if_neg hneg]
    obtain ⟨k, rfl⟩ : ∃ k : Nat, s = k := ⟨s.toNat, by omega⟩
    by_cases hk : k < n
    · obtain ⟨x, hx⟩ : ∃ x, l[k]? = some x := ⟨_, List.getElem?_eq_getElem (by omega)⟩
      obtain ⟨b, o, rfl, hb0, hcell⟩ := num_cell C.out hx
      have e : l[(k : Int).toNat]?.getD 0 = x := by simp [hx]
      rw [e]
      have HC := Troupe.hid hcell
      have HB0 := Troupe.hid hb0
      clear hx e r1 hcell hb0
      go_enter Try.func18, Try.ntmps18
      go_wp2_with (go_at_call 16; refine SL.out.mono ?_; rintro e w' ⟨rfl, hb⟩; have hcell := (hb.cell (p := ⟨b, o + k, none⟩) HB0.out).trans HC.out; have HB := Troupe.hid hb; clear hb)
      go_ret
      exact ⟨rfl, HB.out⟩
    · have e : l[(k : Int).toNat]?.getD 0 = 0 := by
        have : l[k]? = none := List.getElem?_eq_none (by omega)
        simp [this]
      rw [e]
      clear e r1
      go_enter Try.func18, Try.ntmps18
      go_wp2_with (go_at_call 16; refine SL.out.mono ?_; rintro e w' ⟨rfl, hb⟩; have HB := Troupe.hid hb; clear hb)
      go_ret
      exact ⟨rfl, HB.out⟩
end Go.Proofs.Ytfeeajodgcdflaa
