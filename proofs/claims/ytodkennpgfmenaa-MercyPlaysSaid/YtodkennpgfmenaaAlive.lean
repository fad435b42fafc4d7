/- alive: the document's examples hold. -/
import Derived.Test.YtodkennpgfmenaaAsk
import Derived.Test.YtodkennpgfmenaaDir
namespace Go.Proofs.Ytodkennpgfmenaa
open Go.RowKit Go.Maps Go.Troupe

/-- What an Ask answers and leaves, the answer known. -/
def Gave (p m : Nat) (S : Nat → Prop) (L W : Int) (G' : Int → List Int) (r : Bool) (w : World) (e : Ending) (w' : World) : Prop :=
  e = .returned (.bool r) ∧ ∃ S', Budget w' p m S' L W G' ∧ (∀ k, S' k → S k ∨ (w.heap.size ≤ k ∧ k < w'.heap.size)) ∧ Frm S w w'
theorem ask_yes {p m : Nat} {S : Nat → Prop} {L W : Int} {G : Int → List Int} {child now N : Int} {w : World} (h : Budget w p m S L W G) (hn : (G child).length ≤ 1000000) (hN : clamp now 0 1099511627776 = N) (hz : leftOf L (G child) N W ≠ 0) :
    Calls Try.prog 12 #[.pointer (some ⟨p, 0, none⟩), .int .i64 child, .int .i64 now] w (Gave p m S L W (give G child N) true w) := by
  subst hN
  refine (ask_any child now w h hn).mono ?_
  rintro e w' ⟨rfl, S', h1, h2, h3⟩
  have hz' : (leftOf L (G child) (clamp now 0 1099511627776) W == 0) = false := by rw [beq_eq_false_iff_ne]; exact hz
  rw [hz'] at h1 ⊢
  exact ⟨rfl, S', h1, h2, h3⟩
theorem ask_no {p m : Nat} {S : Nat → Prop} {L W : Int} {G : Int → List Int} {child now N : Int} {w : World} (h : Budget w p m S L W G) (hn : (G child).length ≤ 1000000) (hN : clamp now 0 1099511627776 = N) (hz : leftOf L (G child) N W = 0) :
    Calls Try.prog 12 #[.pointer (some ⟨p, 0, none⟩), .int .i64 child, .int .i64 now] w (Gave p m S L W G false w) := by
  subst hN
  refine (ask_any child now w h hn).mono ?_
  rintro e w' ⟨rfl, S', h1, h2, h3⟩
  have hz' : (leftOf L (G child) (clamp now 0 1099511627776) W == 0) = true := by rw [hz]; rfl
  rw [hz'] at h1 ⊢
  exact ⟨rfl, S', h1, h2, h3⟩

def boom : ByteArray := ⟨#[98, 111, 111, 109]⟩
structure AL (w wk : World) (p m a b : Nat) (G : Int → List Int) : Prop where
  ex : ∃ S, Budget wk p m S 2 10 G ∧ ∀ k, S k → w.heap.size ≤ k ∧ k ≠ a ∧ k ≠ b
  ba : Blk wk a 50 (flatC [⟨boom, 2⟩, ⟨noS, 4⟩])
  bb : Blk wk b 26 [.string ⟨#[]⟩, .int .i64 0, .int .i64 0, .slice (some ⟨a, 0, none⟩) 2 2, .slice none 0 0]
  be : Below w.heap.size w wk
theorem AL.gave {w wk w' : World} {p m a b : Nat} {G G' : Int → List Int} {S : Nat → Prop} {r : Bool} {e : Ending} (h : AL w wk p m a b G) (hS : ∀ k, S k → w.heap.size ≤ k ∧ k ≠ a ∧ k ≠ b) (hg : Gave p m S 2 10 G' r wk e w') : e = .returned (.bool r) ∧ AL w w' p m a b G' := by
  obtain ⟨rfl, S', h1, h2, h3⟩ := hg
  have ha := h.ba.lt
  have hb := h.bb.lt
  refine ⟨rfl, ⟨S', h1, fun k hk => ?_⟩, h.ba.frm h3 (fun hk => (hS _ hk).2.1 rfl), h.bb.frm h3 (fun hk => (hS _ hk).2.2 rfl), h.be.trans (h3.below h.be.size (fun k hk => (hS k hk).1))⟩
  rcases h2 k hk with h | h'
  · exact hS k h
  · have := h.be.size; exact ⟨by omega, by omega, by omega⟩
theorem AL.yes {w wk : World} {p m a b : Nat} {G : Int → List Int} (h : AL w wk p m a b G) (child now : Int) (N : Int) (hn : (G child).length ≤ 1000000) (hN : clamp now 0 1099511627776 = N) (hz : leftOf 2 (G child) N 10 ≠ 0) :
    Calls Try.prog 12 #[.pointer (some ⟨p, 0, none⟩), .int .i64 child, .int .i64 now] wk fun e w' => e = .returned (.bool true) ∧ AL w w' p m a b (give G child N) := by
  obtain ⟨S, h1, h2⟩ := h.ex
  exact (ask_yes h1 hn hN hz).mono fun e w' hg => h.gave h2 hg
theorem AL.no {w wk : World} {p m a b : Nat} {G : Int → List Int} (h : AL w wk p m a b G) (child now : Int) (N : Int) (hn : (G child).length ≤ 1000000) (hN : clamp now 0 1099511627776 = N) (hz : leftOf 2 (G child) N 10 = 0) :
    Calls Try.prog 12 #[.pointer (some ⟨p, 0, none⟩), .int .i64 child, .int .i64 now] wk fun e w' => e = .returned (.bool false) ∧ AL w w' p m a b G := by
  obtain ⟨S, h1, h2⟩ := h.ex
  exact (ask_no h1 hn hN hz).mono fun e w' hg => h.gave h2 hg
theorem AL.below {w wk w' : World} {p m a b : Nat} {G : Int → List Int} (h : AL w wk p m a b G) (hb : Below wk.heap.size wk w') : AL w w' p m a b G := by
  obtain ⟨S, h1, h2⟩ := h.ex
  exact ⟨⟨S, h1.below hb, h2⟩, h.ba.below hb h.ba.lt, h.bb.below hb h.bb.lt, h.be.trans (hb.mono h.be.size)⟩
theorem AL.left {w wk : World} {p m a b : Nat} {G : Int → List Int} (h : AL w wk p m a b G) (child now : Int) (v : Int) (hn : (G child).length ≤ 1000000) (hv : leftOf 2 (G child) (clamp now 0 1099511627776) 10 = v) :
    Calls Try.prog 13 #[.pointer (some ⟨p, 0, none⟩), .int .i64 child, .int .i64 now] wk fun e w' => e = .returned (.int .i64 v) ∧ AL w w' p m a b G := by
  obtain ⟨S, h1, h2⟩ := h.ex
  refine (left_any child now wk h1 hn).mono ?_
  rintro e w' ⟨rfl, hb⟩
  exact ⟨by rw [hv], h.below hb⟩
theorem AL.dir {w wk : World} {p m a b : Nat} {G : Int → List Int} (h : AL w wk p m a b G) (r : ByteArray) (v : Int) (hv : dirC [⟨boom, 2⟩, ⟨noS, 4⟩] r = v) :
    Calls Try.prog 9 #[.agg #[.string ⟨#[]⟩, .int .i64 0, .int .i64 0, .slice (some ⟨a, 0, none⟩) 2 2, .slice none 0 0], .string r] wk fun e w' => e = .returned (.int .i64 v) ∧ AL w w' p m a b G := by
  refine (directive_any r (some ⟨a, 0, none⟩) 2 2 [⟨boom, 2⟩, ⟨noS, 4⟩] wk rfl (by simp [maxLen]) ?_).mono ?_
  · have := Cells.blk (n := 4) h.ba h.ba.lt
    exact this
  · rintro e w' ⟨rfl, hb⟩
    exact ⟨by rw [hv], h.below hb⟩

set_option maxRecDepth 100000 in
set_option maxHeartbeats 1000000 in
theorem alive_any (w : World) : Calls Try.prog 8 #[] w fun e w' => e = .returned (.bool true) ∧ Below w.heap.size w w' := by
  go_enter Try.func8, Try.ntmps8
  go_wp2_with fail
  refine (new_any 2 10 w).mono ?_
  rintro e w1 ⟨p, m, rfl, hb1, hbe1⟩
  change Budget w1 p m _ 2 10 _ at hb1
  have HB1 := Troupe.hid hb1
  have BE1 := Troupe.hid hbe1
  clear hb1 hbe1
  have al : AL w ((w1.alloc (.cells #[.string ⟨#[98, 111, 111, 109]⟩, .int .i64 2, .string ⟨#[]⟩, .int .i64 4] 50)).alloc (.cells #[.string ⟨#[]⟩, .int .i64 0, .int .i64 0, .slice (some ⟨w1.heap.size, 0, none⟩) 2 2, .slice none 0 0] 26)) p m w1.heap.size (w1.heap.size + 1) (fun _ => []) := by
    have b1 : Below w1.heap.size w1 ((w1.alloc (.cells #[.string ⟨#[98, 111, 111, 109]⟩, .int .i64 2, .string ⟨#[]⟩, .int .i64 4] 50)).alloc (.cells #[.string ⟨#[]⟩, .int .i64 0, .int .i64 0, .slice (some ⟨w1.heap.size, 0, none⟩) 2 2, .slice none 0 0] 26)) := ((Below.refl _ _).alloc (Nat.le_refl _) _).alloc (by simp) _
    refine ⟨⟨_, HB1.out.below b1, fun k hk => ⟨hk.1, by omega, by omega⟩⟩, (Blk.new w1 50 [.string ⟨#[98, 111, 111, 109]⟩, .int .i64 2, .string ⟨#[]⟩, .int .i64 4]).alloc _, ?_, BE1.out.trans (b1.mono BE1.out.size)⟩
    simpa using Blk.new (w1.alloc (.cells #[.string ⟨#[98, 111, 111, 109]⟩, .int .i64 2, .string ⟨#[]⟩, .int .i64 4] 50)) 26 [.string ⟨#[]⟩, .int .i64 0, .int .i64 0, .slice (some ⟨w1.heap.size, 0, none⟩) 2 2, .slice none 0 0]
  have A0 := Troupe.hid al
  clear al
  go_wp2_with fail
  refine (A0.out.yes 7 1 1 (by decide) (by decide) (by decide)).mono ?_
  rintro e w2 ⟨rfl, h⟩
  have A1 := Troupe.hid h
  clear h
  go_wp2_with fail
  refine (A1.out.yes 7 5 5 (by decide) (by decide) (by decide)).mono ?_
  rintro e w3 ⟨rfl, h⟩
  have A2 := Troupe.hid h
  clear h
  go_wp2_with fail
  refine (A2.out.no 7 10 10 (by decide) (by decide) (by decide)).mono ?_
  rintro e w4 ⟨rfl, h⟩
  have A3 := Troupe.hid h
  clear h
  go_wp2_with fail
  refine (A3.out.left 7 11 1 (by decide) (by decide)).mono ?_
  rintro e w5 ⟨rfl, h⟩
  have A4 := Troupe.hid h
  clear h
  go_wp2_with fail
  refine (A4.out.yes 7 11 11 (by decide) (by decide) (by decide)).mono ?_
  rintro e w6 ⟨rfl, h⟩
  have A5 := Troupe.hid h
  clear h
  go_wp2_with fail
  refine (A5.out.left 8 11 2 (by decide) (by decide)).mono ?_
  rintro e w7 ⟨rfl, h⟩
  have A6 := Troupe.hid h
  have c6 := h.bb.cell
  clear h
  go_wp2_with fail
  refine (A6.out.dir ⟨#[98, 111, 111, 109]⟩ 2 (by kernel_rfl)).mono ?_
  rintro e w8 ⟨rfl, h⟩
  have A7 := Troupe.hid h
  have c7 := h.bb.cell
  clear h c6
  go_wp2_with fail
  refine (A7.out.dir ⟨#[120]⟩ 4 (by kernel_rfl)).mono ?_
  rintro e w9 ⟨rfl, h⟩
  have A8 := Troupe.hid h
  clear h c7
  go_wp2_with fail
  refine (directive_any ⟨#[120]⟩ none 0 0 [] w9 rfl (by simp [maxLen]) (.inl rfl)).mono ?_
  rintro e w10 ⟨he, hb⟩
  have he' : e = .returned (.int .i64 3) := by rw [he]; rfl
  subst he'
  have A9 := Troupe.hid (A8.out.below hb)
  clear hb
  go_wp2_with fail
  go_ret
  exact ⟨rfl, A9.out.be⟩
end Go.Proofs.Ytodkennpgfmenaa
