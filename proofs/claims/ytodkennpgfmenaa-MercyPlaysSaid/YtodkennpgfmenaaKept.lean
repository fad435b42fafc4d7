/- A budget that one law made: its functions by contracts, over lists. -/
import Derived.Test.YtodkennpgfmenaaAlive
namespace Go.Proofs.Ytodkennpgfmenaa
open Go.RowKit Go.Maps Go.Troupe

/-- A budget made by the call that began in w. -/
def Kt (w wr : World) (p m : Nat) (L W : Int) (G : Int → List Int) : Prop :=
  ∃ S, Budget wr p m S L W G ∧ (∀ k, S k → w.heap.size ≤ k) ∧ Below w.heap.size w wr
theorem Kt.be {w wr : World} {p m : Nat} {L W : Int} {G : Int → List Int} (h : Kt w wr p m L W G) : Below w.heap.size w wr := by
  obtain ⟨S, _, _, hb⟩ := h; exact hb
theorem Kt.new {w w1 w2 : World} {l i : Int} {e : Ending} (hb : Below w.heap.size w w1) (h : IsNew l i w1 e w2) :
    ∃ p m, e = .returned (.pointer (some ⟨p, 0, none⟩)) ∧ Kt w w2 p m (clamp l 0 100) (clamp i 1 4095) (fun _ => []) := by
  obtain ⟨p, m, rfl, h1, h2⟩ := h
  have hs := hb.size
  exact ⟨p, m, rfl, _, h1, fun k hk => by omega, hb.trans (h2.mono hs)⟩
theorem Kt.gave {w wr w' : World} {p m : Nat} {L W : Int} {G' : Int → List Int} {S : Nat → Prop} {r : Bool} {e : Ending} (hb : Below w.heap.size w wr) (hS : ∀ k, S k → w.heap.size ≤ k) (hg : Gave p m S L W G' r wr e w') : e = .returned (.bool r) ∧ Kt w w' p m L W G' := by
  obtain ⟨rfl, S', h1, h2, h3⟩ := hg
  have hs := hb.size
  refine ⟨rfl, S', h1, fun k hk => ?_, hb.trans (h3.below hs hS)⟩
  rcases h2 k hk with h | h'
  · exact hS k h
  · omega
theorem Kt.yes {w wr : World} {p m : Nat} {L W : Int} {G : Int → List Int} (h : Kt w wr p m L W G) {child now : Int} (N : Int) (hn : (G child).length ≤ 1000000) (hN : clamp now 0 1099511627776 = N) (hz : leftOf L (G child) N W ≠ 0) :
    Calls Try.prog 12 #[.pointer (some ⟨p, 0, none⟩), .int .i64 child, .int .i64 now] wr fun e w' => e = .returned (.bool true) ∧ Kt w w' p m L W (give G child N) := by
  obtain ⟨S, h1, h2, hb⟩ := h
  exact (ask_yes h1 hn hN hz).mono fun e w' hg => Kt.gave hb h2 hg
theorem Kt.no {w wr : World} {p m : Nat} {L W : Int} {G : Int → List Int} (h : Kt w wr p m L W G) {child now : Int} (N : Int) (hn : (G child).length ≤ 1000000) (hN : clamp now 0 1099511627776 = N) (hz : leftOf L (G child) N W = 0) :
    Calls Try.prog 12 #[.pointer (some ⟨p, 0, none⟩), .int .i64 child, .int .i64 now] wr fun e w' => e = .returned (.bool false) ∧ Kt w w' p m L W G := by
  obtain ⟨S, h1, h2, hb⟩ := h
  exact (ask_no h1 hn hN hz).mono fun e w' hg => Kt.gave hb h2 hg
theorem Kt.ask {w wr : World} {p m : Nat} {L W : Int} {G : Int → List Int} (h : Kt w wr p m L W G) {child now : Int} (N : Int) (hn : (G child).length ≤ 1000000) (hN : clamp now 0 1099511627776 = N) :
    Calls Try.prog 12 #[.pointer (some ⟨p, 0, none⟩), .int .i64 child, .int .i64 now] wr fun e w' => e = .returned (.bool (!(leftOf L (G child) N W == 0))) ∧ Kt w w' p m L W (if leftOf L (G child) N W == 0 then G else give G child N) := by
  by_cases hz : leftOf L (G child) N W = 0
  · have hz' : (leftOf L (G child) N W == 0) = true := by rw [hz]; rfl
    rw [hz']; exact h.no N hn hN hz
  · have hz' : (leftOf L (G child) N W == 0) = false := by rw [beq_eq_false_iff_ne]; exact hz
    rw [hz']; exact h.yes N hn hN hz
theorem Kt.left {w wr : World} {p m : Nat} {L W : Int} {G : Int → List Int} (h : Kt w wr p m L W G) {child now : Int} (N v : Int) (hn : (G child).length ≤ 1000000) (hN : clamp now 0 1099511627776 = N) (hv : leftOf L (G child) N W = v) :
    Calls Try.prog 13 #[.pointer (some ⟨p, 0, none⟩), .int .i64 child, .int .i64 now] wr fun e w' => e = .returned (.int .i64 v) ∧ Kt w w' p m L W G := by
  subst hN hv
  obtain ⟨S, h1, h2, hb⟩ := h
  refine (left_any child now wr h1 hn).mono ?_
  rintro e w' ⟨rfl, hb'⟩
  exact ⟨rfl, S, h1.below hb', h2, hb.trans (hb'.mono hb.size)⟩
theorem Kt.forget {w wr : World} {p m : Nat} {L W : Int} {G : Int → List Int} (h : Kt w wr p m L W G) (child : Int) :
    Calls Try.prog 15 #[.pointer (some ⟨p, 0, none⟩), .int .i64 child] wr fun e w' => e = .returned (.tuple #[]) ∧ Kt w w' p m L W (fun k => if k = child then [] else G k) := by
  obtain ⟨S, h1, h2, hb⟩ := h
  refine (forget_any child wr h1).mono ?_
  rintro e w' ⟨rfl, h3, h4⟩
  exact ⟨rfl, S, h3, h2, hb.trans (h4.below hb.size h2)⟩
theorem clampL (l : Int) : ∃ n : Nat, n ≤ 100 ∧ clamp l 0 100 = n := by
  unfold clamp
  split
  · exact ⟨0, by omega, rfl⟩
  · split
    · exact ⟨100, by omega, rfl⟩
    · exact ⟨l.toNat, by omega, by omega⟩
theorem clampW (l : Int) : ∃ n : Nat, 1 ≤ n ∧ n ≤ 4095 ∧ clamp l 1 4095 = n := by
  unfold clamp
  split
  · exact ⟨1, by omega, by omega, rfl⟩
  · split
    · exact ⟨4095, by omega, by omega, rfl⟩
    · exact ⟨l.toNat, by omega, by omega, by omega⟩
theorem clampN (l : Int) : 0 ≤ clamp l 0 1099511627776 ∧ clamp l 0 1099511627776 ≤ 1099511627776 := by
  unfold clamp
  split <;> (try split) <;> omega
theorem left_rep {n i w : Nat} (N : Int) (hi : i ≤ n) (hw : 1 ≤ w) : leftOf n (List.replicate i N) N w = (n : Int) - i := by
  have : spent (List.replicate i N) N w = i := by
    unfold spent
    rw [List.filter_eq_self.2 (fun x hx => by rw [List.eq_of_mem_replicate hx]; simp; omega)]
    simp
  unfold leftOf
  rw [this, if_neg (by omega)]
theorem give_rep {G : Int → List Int} {c N : Int} {i : Nat} (h : G c = List.replicate i N) : give G c N c = List.replicate (i + 1) N := by
  unfold give
  rw [if_pos rfl, h, List.replicate_succ']
end Go.Proofs.Ytodkennpgfmenaa
