/- A line that was made since w0, and alive: the document's examples hold. -/
import Derived.Test.YtmbpilhngniigaaUnstash
import Derived.Test.YtmbpilhngniigaaNext
import Derived.Test.YtmbpilhngniigaaClear
import Derived.Test.YtmbpilhngniigaaSame
namespace Go.Proofs.Ytmbpilhngniigaa
open Go.RowKit Go.Maps Go.Troupe

/-- A line made since w0, what lay there untouched. -/
structure Ls (w0 wk : World) (p : Nat) (R : Nat) (As Fr : List Int) : Prop where
  ex : ∃ S, Line wk p S R As Fr ∧ ∀ k, S k → w0.heap.size ≤ k
  be : Below w0.heap.size w0 wk
section
variable {w0 wk w' : World} {p R : Nat} {As Fr : List Int}
theorem Ls.below (h : Ls w0 wk p R As Fr) (hb : Below wk.heap.size wk w') : Ls w0 w' p R As Fr := by
  obtain ⟨S, h1, h2⟩ := h.ex
  exact ⟨⟨S, h1.below hb, h2⟩, h.be.trans (hb.mono h.be.size)⟩
theorem Ls.R64 (h : Ls w0 wk p R As Fr) : R ≤ 64 := by
  obtain ⟨S, h1, h2⟩ := h.ex
  exact h1.hR
theorem Ls.left {As' Fr' : List Int} {S : Nat → Prop} (h : Ls w0 wk p R As Fr) (hS : ∀ k, S k → w0.heap.size ≤ k) (hl : Left p S R As' Fr' wk w') : Ls w0 w' p R As' Fr' := by
  obtain ⟨S', h1, h2, h3⟩ := hl
  have hs := h.be.size
  refine ⟨⟨S', h1, fun k hk => ?_⟩, h.be.trans (h3.below h.be.size hS)⟩
  rcases h2 k hk with h | h
  · exact hS k h
  · omega
theorem Ls.new (n : Int) (w : World) : Calls Try.prog 9 #[.int .i64 n] w fun e w' => ∃ p, e = .returned (.pointer (some ⟨p, 0, none⟩)) ∧ Ls w w' p (roomN n) [] [] := by
  refine (new_any n w).mono ?_
  rintro e w' ⟨p, rfl, h1, h2⟩
  exact ⟨p, rfl, ⟨_, h1, fun k hk => hk.1⟩, h2⟩
theorem Ls.stash (h : Ls w0 wk p R As Fr) (id : Int) (hn : As.length < R) :
    Calls Try.prog 10 #[.pointer (some ⟨p, 0, none⟩), .int .u64 id] wk fun e w' => e = .returned (.int .i64 0) ∧ Ls w0 w' p R (As ++ [id]) Fr := by
  obtain ⟨S, h1, h2⟩ := h.ex
  refine (stash_ok id wk h1 hn).mono ?_
  rintro e w' ⟨rfl, hl⟩
  exact ⟨rfl, h.left h2 hl⟩
theorem Ls.full (h : Ls w0 wk p R As Fr) (id : Int) (hn : R ≤ As.length) :
    Calls Try.prog 10 #[.pointer (some ⟨p, 0, none⟩), .int .u64 id] wk fun e w' => e = .returned (.int .i64 4) ∧ Ls w0 w' p R As Fr := by
  obtain ⟨S, h1, h2⟩ := h.ex
  refine (stash_full id wk h1 hn).mono ?_
  rintro e w' ⟨rfl, hl⟩
  exact ⟨rfl, h.left h2 hl⟩
theorem Ls.unstash (h : Ls w0 wk p R As Fr) (hn : As.length ≤ 1000000) (hn2 : Fr.length ≤ 1000000) :
    Calls Try.prog 11 #[.pointer (some ⟨p, 0, none⟩)] wk fun e w' => e = .returned (.int .i64 As.length) ∧ Ls w0 w' p R [] (Fr ++ As.reverse) := by
  obtain ⟨S, h1, h2⟩ := h.ex
  refine (unstash_any wk h1 hn hn2).mono ?_
  rintro e w' ⟨rfl, hl⟩
  exact ⟨rfl, h.left h2 hl⟩
theorem Ls.nextNone (h : Ls w0 wk p R As []) : Calls Try.prog 12 #[.pointer (some ⟨p, 0, none⟩)] wk fun e w' => e = .returned (.tuple #[.int .u64 0, .bool false]) ∧ Ls w0 w' p R As [] := by
  obtain ⟨S, h1, h2⟩ := h.ex
  refine (next_none wk h1).mono ?_
  rintro e w' ⟨rfl, hl⟩
  exact ⟨rfl, h.left h2 hl⟩
theorem Ls.nextSome {a : Int} (h : Ls w0 wk p R As (Fr ++ [a])) (hn : Fr.length ≤ 1000000) : Calls Try.prog 12 #[.pointer (some ⟨p, 0, none⟩)] wk fun e w' => e = .returned (.tuple #[.int .u64 a, .bool true]) ∧ Ls w0 w' p R As Fr := by
  obtain ⟨S, h1, h2⟩ := h.ex
  refine (next_some a wk h1 hn).mono ?_
  rintro e w' ⟨rfl, hl⟩
  exact ⟨rfl, h.left h2 hl⟩
/-- A row of n new words. -/
structure Row (w0 wk w' : World) (n : Nat) (l : List Int) (A : Option Addr) (c : Nat) : Prop where
  own : w'.ownsRow wk.heap.size 28 1 (.slice A n c) n (words l)
  cells : Cells w' w'.heap.size A (words l)
  nil : A = none → n = 0 ∧ c = 0
  le : w0.heap.size ≤ wk.heap.size
theorem row_of {n : Nat} {l : List Int} {v : Value} (h : w'.ownsRow wk.heap.size 28 1 v n (words l)) (hb : w0.heap.size ≤ wk.heap.size) : ∃ A c, v = .slice A n c ∧ Row w0 wk w' n l A c := by
  obtain ⟨A, c, rfl, _, _, hc, hnil, _⟩ := own_form h
  exact ⟨A, c, rfl, h, hc, hnil, hb⟩
theorem Ls.front (h : Ls w0 wk p R As Fr) (hn : Fr.length ≤ 1000000) :
    Calls Try.prog 13 #[.pointer (some ⟨p, 0, none⟩)] wk fun e w' => ∃ A c, e = .returned (.slice A Fr.length c) ∧ Row w0 wk w' Fr.length Fr.reverse A c ∧ Below wk.heap.size wk w' ∧ Ls w0 w' p R As Fr := by
  obtain ⟨S, h1, h2⟩ := h.ex
  refine (front_any wk h1 hn).mono ?_
  rintro e w' ⟨v, rfl, ho, hb⟩
  obtain ⟨A, c, rfl, hr⟩ := row_of ho h.be.size
  exact ⟨A, c, rfl, hr, hb, h.below hb⟩
theorem Ls.stashed (h : Ls w0 wk p R As Fr) (hn : As.length ≤ 1000000) :
    Calls Try.prog 21 #[.pointer (some ⟨p, 0, none⟩)] wk fun e w' => ∃ A c, e = .returned (.slice A As.length c) ∧ Row w0 wk w' As.length As A c ∧ Below wk.heap.size wk w' ∧ Ls w0 w' p R As Fr := by
  obtain ⟨S, h1, h2⟩ := h.ex
  refine (stashed_any wk h1 hn).mono ?_
  rintro e w' ⟨v, rfl, ho, hb⟩
  obtain ⟨A, c, rfl, hr⟩ := row_of ho h.be.size
  exact ⟨A, c, rfl, hr, hb, h.below hb⟩
theorem Ls.clear (h : Ls w0 wk p R As Fr) (hn : Fr.length ≤ 1000000) (hn2 : As.length ≤ 1000000) :
    Calls Try.prog 14 #[.pointer (some ⟨p, 0, none⟩)] wk fun e w' => ∃ A c, e = .returned (.slice A (Fr.length + As.length) c) ∧ Row w0 wk w' (Fr.length + As.length) (Fr.reverse ++ As) A c ∧ Ls w0 w' p R [] [] := by
  obtain ⟨S, h1, h2⟩ := h.ex
  refine (clear_any wk h1 hn hn2).mono ?_
  rintro e w' ⟨v, rfl, ho, hl⟩
  obtain ⟨A, c, rfl, hr⟩ := row_of ho h.be.size
  exact ⟨A, c, rfl, hr, h.left h2 hl⟩
end

set_option maxRecDepth 100000 in
set_option maxHeartbeats 2000000 in
theorem alive_any (w : World) : Calls Try.prog 8 #[] w fun e w' => e = .returned (.bool true) ∧ Below w.heap.size w w' := by
  go_enter Try.func8, Try.ntmps8
  go_wp2_with fail
  refine (Ls.new 2 w).mono ?_
  rintro e w1 ⟨p, rfl, h⟩
  have A0 := Troupe.hid h
  clear h
  go_wp2_with fail
  refine (A0.out.stash 5 (by decide)).mono ?_
  rintro e w2 ⟨rfl, h⟩
  have A1 := Troupe.hid h
  clear h
  go_wp2_with fail
  refine (A1.out.stash 6 (by decide)).mono ?_
  rintro e w3 ⟨rfl, h⟩
  have A2 := Troupe.hid h
  clear h
  go_wp2_with fail
  refine (A2.out.full 7 (by decide)).mono ?_
  rintro e w4 ⟨rfl, h⟩
  have A3 := Troupe.hid h
  clear h
  go_wp2_with fail
  refine (A3.out.unstash (by decide) (by decide)).mono ?_
  rintro e w5 ⟨rfl, h⟩
  have A4 : Hid (Ls w w5 p (roomN 2) [] ([6] ++ [5])) := h
  clear h
  go_wp2_with fail
  refine (A4.out.nextSome (by decide)).mono ?_
  rintro e w6 ⟨rfl, h⟩
  have A5 := Troupe.hid h
  clear h
  go_wp2_with fail
  refine (A5.out.stash 7 (by decide)).mono ?_
  rintro e w7 ⟨rfl, h⟩
  have A6 := Troupe.hid h
  clear h
  go_wp2_with fail
  refine (A6.out.unstash (by decide) (by decide)).mono ?_
  rintro e w8 ⟨rfl, h⟩
  have A7 : Hid (Ls w w8 p (roomN 2) [] [6, 7]) := h
  clear h
  go_wp2_with fail
  refine (A7.out.front (by decide)).mono ?_
  rintro e w9 ⟨A, c, rfl, hr, -, h⟩
  have R8 : Hid (Row w w8 w9 2 [7, 6] A c) := hr
  have A8 := Troupe.hid h
  clear h hr
  go_wp2_with fail
  have b9 : Below w9.heap.size w9 (w9.alloc (.cells #[.int .u64 7, .int .u64 6] 28)) := (Below.refl _ _).alloc (Nat.le_refl _) _
  have k9 := Blk.new w9 28 [.int .u64 7, .int .u64 6]
  refine (same_eq A 2 c (some ⟨w9.heap.size, 0, none⟩) 2 [7, 6] _ rfl (by decide) ((R8.out.cells.below b9).mono b9.size) (k9.blk_cells.mono k9.lt)).mono ?_
  rintro e w10 ⟨rfl, hb⟩
  have A9 := Troupe.hid (A8.out.below (b9.trans (hb.mono b9.size)))
  clear hb b9 k9
  go_wp2_with fail
  refine (A9.out.clear (by decide) (by decide)).mono ?_
  rintro e w11 ⟨A', c', rfl, hr, h⟩
  have R10 : Hid (Row w w10 w11 2 [7, 6] A' c') := hr
  have A10 := Troupe.hid h
  clear h hr
  go_wp2_with fail
  have b11 : Below w11.heap.size w11 (w11.alloc (.cells #[.int .u64 7, .int .u64 6] 28)) := (Below.refl _ _).alloc (Nat.le_refl _) _
  have k11 := Blk.new w11 28 [.int .u64 7, .int .u64 6]
  refine (same_eq A' 2 c' (some ⟨w11.heap.size, 0, none⟩) 2 [7, 6] _ rfl (by decide) ((R10.out.cells.below b11).mono b11.size) (k11.blk_cells.mono k11.lt)).mono ?_
  rintro e w12 ⟨rfl, hb⟩
  have A11 := Troupe.hid (A10.out.below (b11.trans (hb.mono b11.size)))
  clear hb b11 k11
  go_wp2_with fail
  refine (A11.out.front (by decide)).mono ?_
  rintro e w13 ⟨A3, c3, rfl, hr, -, h⟩
  have A12 := Troupe.hid h
  clear h hr
  go_wp2_with fail
  go_ret
  exact ⟨rfl, A12.out.be⟩
end Go.Proofs.Ytmbpilhngniigaa
