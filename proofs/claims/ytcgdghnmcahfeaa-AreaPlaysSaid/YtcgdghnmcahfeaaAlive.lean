/- An area that was made since w0, and alive: the document's examples hold. -/
import Derived.Test.YtcgdghnmcahfeaaOps
namespace Go.Proofs.Ytcgdghnmcahfeaa
open Go.RowKit Go.Maps Go.Troupe

/-- An area made since w0, what lay there untouched; S: its own blocks. -/
structure ArS (w0 wk : World) (p : Nat) (S : Nat → Prop) (N : Nat) (l : List Rg) : Prop where
  ar : Area wk p S N l
  lo : ∀ k, S k → w0.heap.size ≤ k
  be : Below w0.heap.size w0 wk
/-- Its own blocks behind a call: as they were, or new. -/
def Grown (S S' : Nat → Prop) (w w' : World) : Prop := (∀ k, S' k → S k ∨ w.heap.size ≤ k) ∧ Frm S w w'
section
variable {w0 wk w' : World} {p N : Nat} {S S' : Nat → Prop} {l : List Rg}
theorem ArS.below (h : ArS w0 wk p S N l) (hb : Below wk.heap.size wk w') : ArS w0 w' p S N l := ⟨h.ar.below hb, h.lo, h.be.trans (hb.mono h.be.size)⟩
theorem ArS.left {l' : List Rg} (h : ArS w0 wk p S N l) (hl : Left p S N l' wk w') : ∃ S', ArS w0 w' p S' N l' ∧ Grown S S' wk w' := by
  obtain ⟨S', h1, h2, h3⟩ := hl
  have hs := h.be.size
  refine ⟨S', ⟨h1, fun k hk => ?_, h.be.trans (h3.below h.be.size h.lo)⟩, fun k hk => (h2 k hk).imp_right And.left, h3⟩
  rcases h2 k hk with h' | h'
  · exact h.lo k h'
  · omega
def Ar (w0 wk : World) (p : Nat) (N : Nat) (l : List Rg) : Prop := ∃ S, ArS w0 wk p S N l
theorem Ar.be (h : Ar w0 wk p N l) : Below w0.heap.size w0 wk := by obtain ⟨S, h⟩ := h; exact h.be
theorem Ar.ok (h : Ar w0 wk p N l) : Ok 0 N l := by obtain ⟨S, h⟩ := h; exact h.ar.ok
theorem Ar.hN (h : Ar w0 wk p N l) : N ≤ 65536 := by obtain ⟨S, h⟩ := h; exact h.ar.hN
theorem Ar.below (h : Ar w0 wk p N l) (hb : Below wk.heap.size wk w') : Ar w0 w' p N l := by obtain ⟨S, h⟩ := h; exact ⟨S, h.below hb⟩
theorem Ar.take (h : Ar w0 wk p N l) (k : Int) {l' : List Rg} {x e : Int} (hv : takeV N l k = (l', x, e)) :
    Calls Try.prog 13 #[.pointer (some ⟨p, 0, none⟩), .int .i64 k] wk fun en w' => en = .returned (.tuple #[.int .i64 x, .int .i64 e]) ∧ Ar w0 w' p N l' := by
  obtain ⟨S, h⟩ := h
  refine (take_any k wk h.ar).mono ?_
  rintro en w' ⟨rfl, hl⟩
  rw [hv] at hl ⊢
  obtain ⟨S', h', _⟩ := h.left hl
  exact ⟨rfl, S', h'⟩
theorem Ar.give (h : Ar w0 wk p N l) (t : Int) {l' : List Rg} {e : Int} (hv : giveV l t = (l', e)) :
    Calls Try.prog 11 #[.pointer (some ⟨p, 0, none⟩), .int .i64 t] wk fun en w' => en = .returned (.int .i64 e) ∧ Ar w0 w' p N l' := by
  obtain ⟨S, h⟩ := h
  refine (give_any t wk h.ar).mono ?_
  rintro en w' ⟨rfl, hl⟩
  rw [hv] at hl ⊢
  obtain ⟨S', h', _⟩ := h.left hl
  exact ⟨rfl, S', h'⟩
theorem Ar.free (h : Ar w0 wk p N l) {x : Int} (hv : freeV N l = x) :
    Calls Try.prog 15 #[.pointer (some ⟨p, 0, none⟩)] wk fun en w' => en = .returned (.int .i64 x) ∧ Ar w0 w' p N l := by
  obtain ⟨S, h⟩ := h
  refine (free_any wk h.ar).mono ?_
  rintro en w' ⟨rfl, hb⟩
  rw [hv]
  exact ⟨rfl, S, h.below hb⟩
theorem Ar.new (n : Int) (w : World) : Calls Try.prog 9 #[.int .i64 n] w fun e w' => ∃ p, e = .returned (.pointer (some ⟨p, 0, none⟩)) ∧ Ar w w' p (areaN n) [] := by
  refine (new_any n w).mono ?_
  rintro e w' ⟨p, rfl, h1, h2⟩
  exact ⟨p, rfl, _, h1, fun k hk => hk.1, h2⟩
end

set_option maxRecDepth 100000 in
set_option maxHeartbeats 2000000 in
theorem alive_any (w : World) : Calls Try.prog 8 #[] w fun e w' => e = .returned (.bool true) ∧ Below w.heap.size w w' := by
  go_enter Try.func8, Try.ntmps8
  go_wp2_with fail
  refine (Ar.new 10 w).mono ?_
  rintro e w1 ⟨p, rfl, h1⟩
  have H1 := Troupe.hid h1
  clear h1
  go_wp2_with fail
  refine (H1.out.free (x := 10) (by decide)).mono ?_
  rintro e w2 ⟨rfl, h2⟩
  have H2 := Troupe.hid h2
  clear h2
  go_wp2_with fail
  refine (H2.out.take 3 (l' := [(0, 3)]) (x := 0) (e := 0) (by decide)).mono ?_
  rintro e w3 ⟨rfl, h3⟩
  have H3 := Troupe.hid h3
  clear h3
  go_wp2_with fail
  refine (H3.out.take 4 (l' := [(0, 3), (3, 4)]) (x := 3) (e := 0) (by decide)).mono ?_
  rintro e w4 ⟨rfl, h4⟩
  have H4 := Troupe.hid h4
  clear h4
  go_wp2_with fail
  refine (H4.out.take 4 (l' := [(0, 3), (3, 4)]) (x := 0) (e := 4) (by decide)).mono ?_
  rintro e w5 ⟨rfl, h5⟩
  have H5 := Troupe.hid h5
  clear h5
  go_wp2_with fail
  refine (H5.out.take 3 (l' := [(0, 3), (3, 4), (7, 3)]) (x := 7) (e := 0) (by decide)).mono ?_
  rintro e w6 ⟨rfl, h6⟩
  have H6 := Troupe.hid h6
  clear h6
  go_wp2_with fail
  refine (H6.out.give 3 (l' := [(0, 3), (7, 3)]) (e := 0) (by decide)).mono ?_
  rintro e w7 ⟨rfl, h7⟩
  have H7 := Troupe.hid h7
  clear h7
  go_wp2_with fail
  refine (H7.out.take 2 (l' := [(0, 3), (3, 2), (7, 3)]) (x := 3) (e := 0) (by decide)).mono ?_
  rintro e w8 ⟨rfl, h8⟩
  have H8 := Troupe.hid h8
  clear h8
  go_wp2_with fail
  refine (H8.out.give 4 (l' := [(0, 3), (3, 2), (7, 3)]) (e := 2) (by decide)).mono ?_
  rintro e w9 ⟨rfl, h9⟩
  have H9 := Troupe.hid h9
  clear h9
  go_wp2_with fail
  refine (H9.out.free (x := 2) (by decide)).mono ?_
  rintro e wa ⟨rfl, ha⟩
  have HA := Troupe.hid ha
  clear ha
  go_wp2_with fail
  go_ret
  exact ⟨rfl, HA.out.be⟩
end Go.Proofs.Ytcgdghnmcahfeaa
