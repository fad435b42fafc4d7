/- The closures of Take and Give, and cmp.Compare at numbers, by contracts. -/
import Derived.Test.YtcgdghnmcahfeaaData
namespace Go.Proofs.Ytcgdghnmcahfeaa
open Go.RowKit Go.Maps Go.Troupe

def cmpV (a b : Int) : Int := if a < b then -1 else if b < a then 1 else 0
set_option maxRecDepth 100000 in
theorem cmp_any (a b : Int) (w : World) : Calls Try.prog 26 #[.int .i64 a, .int .i64 b] w fun e w' => e = .returned (.int .i64 (cmpV a b)) ∧ w' = w := by
  unfold cmpV
  by_cases h1 : a < b
  · rw [if_pos h1]
    go_enter Try.func26, Try.ntmps26
    go_wp2
    go_ret
    exact ⟨rfl, rfl⟩
  · rw [if_neg h1]
    by_cases h2 : b < a
    · rw [if_pos h2]
      go_enter Try.func26, Try.ntmps26
      go_wp2
      go_ret
      exact ⟨rfl, rfl⟩
    · rw [if_neg h2]
      go_enter Try.func26, Try.ntmps26
      go_wp2
      go_ret
      exact ⟨rfl, rfl⟩
set_option maxRecDepth 100000 in
theorem clos25_any (r : Rg) (t : Int) (w : World) : Calls Try.prog 25 #[.agg #[.int .i64 r.1, .int .i64 r.2], .int .i64 t] w fun e w' => e = .returned (.int .i64 (cmpV r.1 t)) ∧ Below w.heap.size w w' := by
  go_enter Try.func25, Try.ntmps25
  go_wp2_with fail
  refine (cmp_any _ _ _).mono ?_
  rintro e w' ⟨rfl, rfl⟩
  go_wp2_with fail
  go_ret
  exact ⟨rfl, (Below.refl _ _).alloc (Nat.le_refl _) _⟩
/-- The closure of Take: does room for k end ahead of this region? -/
def Fit (k : Int) (e : Nat) (r : Rg) (g : Nat) (w : World) (en : Ending) (w' : World) : Prop :=
  en = .returned (.bool (decide (k ≤ (r.1 : Int) - e))) ∧ Frm (fun j => j = g) w w' ∧ Blk w' g 3 [.int .i64 (if k ≤ (r.1 : Int) - e then e else (r.1 + r.2 : Nat))]
set_option maxRecDepth 100000 in
theorem clos29_any (k : Int) (e : Nat) (r : Rg) (g gk : Nat) (w : World) (he : e ≤ 65536) (hr : r.1 + r.2 ≤ 65536) (hg : Blk w g 3 [.int .i64 e]) (hk : w.cell? ⟨gk, 0, none⟩ = some (.int .i64 k)) :
    Calls Try.prog 29 #[.agg #[.int .i64 r.1, .int .i64 r.2], .pointer (some ⟨g, 0, none⟩), .pointer (some ⟨gk, 0, none⟩)] w (Fit k e r g w) := by
  have b0 : Blk (w.alloc (.cells #[.int .i64 r.1, .int .i64 r.2] 47)) w.heap.size 47 [.int .i64 r.1, .int .i64 r.2] := Blk.new w 47 _
  have c0 : (w.alloc (.cells #[.int .i64 r.1, .int .i64 r.2] 47)).cell? ⟨w.heap.size, 0, none⟩ = some (.int .i64 r.1) := b0.cell 0
  have c1 : (w.alloc (.cells #[.int .i64 r.1, .int .i64 r.2] 47)).cell? ⟨w.heap.size, 1, none⟩ = some (.int .i64 r.2) := b0.cell 1
  have bg : Blk (w.alloc (.cells #[.int .i64 r.1, .int .i64 r.2] 47)) g 3 [.int .i64 e] := hg.alloc _
  have c2 : (w.alloc (.cells #[.int .i64 r.1, .int .i64 r.2] 47)).cell? ⟨g, 0, none⟩ = some (.int .i64 e) := bg.cell 0
  have f2 : (w.alloc (.cells #[.int .i64 r.1, .int .i64 r.2] 47)).frozen? ⟨g, 0, none⟩ = false := bg.frozen 0
  have c3 : (w.alloc (.cells #[.int .i64 r.1, .int .i64 r.2] 47)).cell? ⟨gk, 0, none⟩ = some (.int .i64 k) := (World.cell?_of_block (Below.heap_alloc _ _ _ (block_lt_of_cell hk))).trans hk
  have F0 : Frm (fun j => j = g) w (w.alloc (.cells #[.int .i64 r.1, .int .i64 r.2] 47)) := (Frm.refl _ w).alloc _
  have e1 : IntKind.i64.wrap ((r.1 : Int) - e) = (r.1 : Int) - e := by rw [IntKind.wrap_i64]; omega
  have e2 : IntKind.i64.wrap ((r.1 : Int) + r.2) = ((r.1 + r.2 : Nat) : Int) := by rw [IntKind.wrap_i64]; omega
  have F := Troupe.hid F0
  have BG := Troupe.hid bg
  clear b0 bg F0 hg hk
  unfold Fit
  by_cases h : k ≤ (r.1 : Int) - e
  · rw [if_pos h, decide_eq_true h]
    go_enter Try.func29, Try.ntmps29
    go_wp2_with fail
    go_ret
    exact ⟨rfl, F.out, BG.out⟩
  · rw [if_neg h, decide_eq_false h]
    go_enter Try.func29, Try.ntmps29
    go_wp2_with fail
    go_ret
    exact ⟨rfl, F.out.setCell (fun _ => rfl) _, BG.out.set_ 0 _⟩
end Go.Proofs.Ytcgdghnmcahfeaa
