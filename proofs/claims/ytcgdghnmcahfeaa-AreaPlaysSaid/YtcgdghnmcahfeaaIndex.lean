/- slices.IndexFunc at the area's regions, with the closure of Take, by contract. -/
import Derived.Test.YtcgdghnmcahfeaaClos
namespace Go.Proofs.Ytcgdghnmcahfeaa
open Go.RowKit Go.Maps Go.Troupe

/-- Where the search for room ends: the place, and the cell in the closure's box. -/
def Scanned (k : Int) (l : List Rg) (g : Nat) (w : World) (e : Ending) (w' : World) : Prop :=
  e = .returned (.int .i64 (scan k 0 0 l).1) ∧ Frm (fun j => j = g) w w' ∧ Blk w' g 3 [.int .i64 (scan k 0 0 l).2]
theorem endAt_le {e N : Nat} {l : List Rg} (h : Ok e N l) : ∀ r ∈ l, r.1 + r.2 ≤ N := fun r hr => (h.mem r hr).2.2
set_option maxRecDepth 100000 in
set_option maxHeartbeats 1000000 in
theorem index_any (k : Int) (g gk : Nat) (Ad : Option Addr) (n c B N : Nat) (l : List Rg) (w : World) (hl : l.length = n) (hN : N ≤ 65536) (hc : Cells w B Ad (flatG l)) (hB : B ≤ w.heap.size) (hok : Ok 0 N l)
    (hg : Blk w g 3 [.int .i64 0]) (hk : w.cell? ⟨gk, 0, none⟩ = some (.int .i64 k)) (hgk : gk ≠ g) (hBg : ∀ b, Ad = some b → b.block ≠ g) :
    Calls Try.prog 28 #[.slice Ad n c, .func (.func 29) #[] #[.pointer (some ⟨g, 0, none⟩), .pointer (some ⟨gk, 0, none⟩)]] w (Scanned k l g w) := by
  have hn : n ≤ 65536 := by have := hok.length; omega
  have C0 := Troupe.hid hc
  have OK := Troupe.hid hok
  have BG := Troupe.hid hBg
  have G0 := Troupe.hid hg
  have K0 := Troupe.hid hk
  clear hc hok hBg hg hk
  go_enter Try.func28, Try.ntmps28
  go_wp2_with fail
  go_loopw [8] (fun i wr => ∃ j e : Nat, j ≤ n ∧ i = .int .i64 j ∧ e ≤ 65536 ∧ scan k 0 0 l = scan k j e (l.drop j) ∧ Frm (fun b => b = g) w wr ∧ Blk wr g 3 [.int .i64 e]) (fun i _ => n - (intOf i).toNat)
  case atStart => exact ⟨0, 0, Nat.zero_le _, rfl, Nat.zero_le _, rfl, Frm.refl _ _, G0.out⟩
  case round =>
    obtain ⟨j, e, hj, rfl, he, hsc, hf, hg⟩ := hrel
    have SC := Troupe.hid hsc
    have F := Troupe.hid hf
    have G1 := Troupe.hid hg
    have K1 : Hid (wr.cell? ⟨gk, 0, none⟩ = some (.int .i64 k)) := (hf.cell (block_lt_of_cell K0.out) hgk).trans K0.out
    clear hsc hf hg
    by_cases hlt : j < n
    · obtain ⟨x, hx⟩ : ∃ x, l[j]? = some x := ⟨_, List.getElem?_eq_getElem (by omega)⟩
      obtain ⟨b, off, rfl, hbB, d0', d1'⟩ := C0.out.rg hx
      have hbg : b ≠ g := BG.out _ rfl
      have d0 : wr.cell? ⟨b, off + j * 2, none⟩ = some (.int .i64 x.1) := (F.out.cell (by show b < _; omega) hbg).trans d0'
      have d1 : wr.cell? ⟨b, off + j * 2 + 1, none⟩ = some (.int .i64 x.2) := (F.out.cell (by show b < _; omega) hbg).trans d1'
      clear d0' d1'
      have hxm := OK.out.mem x (List.mem_of_getElem? hx)
      have hdr : l.drop j = x :: l.drop (j + 1) := by
        rw [List.drop_eq_getElem_cons (by omega)]
        rw [(List.getElem?_eq_some_iff.1 hx).2]
      have DR := Troupe.hid hdr
      have HC := Troupe.hid (clos29_any k e x g gk wr he (by omega) G1.out K1.out)
      clear hx hdr
      go_wp2_with fail
      refine HC.out.mono ?_
      rintro en w2 ⟨rfl, hf2, hg2⟩
      have F2 := Troupe.hid (F.out.trans hf2 (fun _ _ h => h))
      have G2 := Troupe.hid hg2
      clear hf2 hg2 d0 d1
      by_cases hp : k ≤ (x.1 : Int) - e
      · rw [decide_eq_true hp]
        have G3 : Hid (Blk w2 g 3 [.int .i64 (scan k 0 0 l).2] ∧ (scan k 0 0 l).1 = j) := by
          have h := G2.out
          rw [if_pos hp] at h
          rw [SC.out, DR.out]
          unfold scan
          rw [if_pos hp]
          exact ⟨h, rfl⟩
        clear hp
        go_wp2_with fail
        go_ret
        exact ⟨by rw [G3.out.2]; rfl, F2.out, G3.out.1⟩
      · rw [decide_eq_false hp]
        have G3 : Hid (Blk w2 g 3 [.int .i64 (x.1 + x.2 : Nat)] ∧ scan k 0 0 l = scan k (j + 1) (x.1 + x.2) (l.drop (j + 1))) := by
          have h := G2.out
          rw [if_neg hp] at h
          refine ⟨h, ?_⟩
          rw [SC.out, DR.out]
          conv => lhs; unfold scan
          rw [if_neg hp]
        clear hp
        go_wp2_with fail
        go_roundw
        case rel => exact ⟨j + 1, x.1 + x.2, by omega, by go_num, by omega, G3.out.2, F2.out, G3.out.1⟩
        case measure => simp [intOf]; omega
    · have hend : Hid (scan k 0 0 l = (-1, e)) := by
        have h := SC.out
        rw [List.drop_eq_nil_of_le (by omega)] at h
        exact h
      go_wp2_with fail
      go_ret
      exact ⟨by rw [hend.out]; rfl, F.out, by rw [hend.out]; exact G1.out⟩
end Go.Proofs.Ytcgdghnmcahfeaa
