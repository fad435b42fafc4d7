/- The line: how it lies in memory, and its functions by contracts. -/
import Derived.Test.YtmbpilhngniigaaReverse
namespace Go.Proofs.Ytmbpilhngniigaa
open Go.RowKit Go.Maps Go.Troupe

theorem own_at {w : World} {base n size : Nat} {e : TypeId} {v : Value} {xs : List Value} {b : Nat} (h : w.ownsRow base e size v n xs) (hb : v.ownBlock = some b) : ∃ cs, Blk w b e cs := by
  obtain ⟨A, cap, rfl, -⟩ := own_form h
  rcases own_blk h with ⟨rfl, -⟩ | ⟨g, cs, rfl, hbk, -⟩
  · simp [Value.ownBlock] at hb
  · simp [Value.ownBlock] at hb
    subst hb
    exact ⟨cs, hbk⟩
theorem _root_.Go.Troupe.Blk.blk_cells {w : World} {g : Nat} {t : TypeId} {cs : List Value} (h : Blk w g t cs) : Cells w (g + 1) (some ⟨g, 0, none⟩) cs := by
  have := Cells.blk (n := cs.length) h (Nat.lt_succ_self g)
  rwa [List.take_length] at this
theorem words_length (l : List Int) : (words l).length = l.length := by simp [words]

/-- A line at p: its room, what is aside, what stands in front (the next one last). -/
structure Line (w : World) (p : Nat) (S : Nat → Prop) (R : Nat) (As Fr : List Int) : Prop where
  ex : ∃ va vf, Blk w p 50 [.int .i64 R, va, vf] ∧ w.ownsRow 0 28 1 va As.length (words As) ∧ w.ownsRow 0 28 1 vf Fr.length (words Fr) ∧ (∀ b, va.ownBlock = some b → vf.ownBlock ≠ some b) ∧
    (∀ b, va.ownBlock = some b → S b ∧ b < w.heap.size) ∧ (∀ b, vf.ownBlock = some b → S b ∧ b < w.heap.size)
  sS : S p
  hR : R ≤ 64
theorem Line.lt {w : World} {p : Nat} {S : Nat → Prop} {R : Nat} {As Fr : List Int} (h : Line w p S R As Fr) : p < w.heap.size := by
  obtain ⟨va, vf, h1, _⟩ := h.ex; exact h1.lt
theorem Line.frm {w w' : World} {p : Nat} {S T : Nat → Prop} {R : Nat} {As Fr : List Int} (h : Line w p S R As Fr) (hf : Frm T w w') (hT : ∀ k, k < w.heap.size → T k → ¬ S k) : Line w' p S R As Fr := by
  obtain ⟨va, vf, h1, h2, h3, h4, h5, h6⟩ := h.ex
  have hs := hf.size
  exact ⟨⟨va, vf, h1.frm hf (fun hk => hT _ h1.lt hk h.sS), own_frm h2 hf (fun b hb hk => hT _ (h5 b hb).2 hk (h5 b hb).1), own_frm h3 hf (fun b hb hk => hT _ (h6 b hb).2 hk (h6 b hb).1), h4,
    fun b hb => ⟨(h5 b hb).1, Nat.lt_of_lt_of_le (h5 b hb).2 hs⟩, fun b hb => ⟨(h6 b hb).1, Nat.lt_of_lt_of_le (h6 b hb).2 hs⟩⟩, h.sS, h.hR⟩
theorem Line.below {w w' : World} {p : Nat} {S : Nat → Prop} {R : Nat} {As Fr : List Int} (h : Line w p S R As Fr) (hf : Below w.heap.size w w') : Line w' p S R As Fr :=
  h.frm (Frm.of_below hf) (fun k hk hn => absurd hk (by omega))

def roomN (n : Int) : Nat := if n < 0 then 0 else if 64 < n then 64 else n.toNat
def IsNew (n : Int) (w : World) (e : Ending) (w' : World) : Prop :=
  ∃ p, e = .returned (.pointer (some ⟨p, 0, none⟩)) ∧ Line w' p (fun k => w.heap.size ≤ k ∧ k < w'.heap.size) (roomN n) [] [] ∧ Below w.heap.size w w'
theorem line_of (w : World) {x : Int} {R : Nat} (hx : x = R) (hR : R ≤ 64) : Line (w.alloc (.cells #[.int .i64 x, .slice none 0 0, .slice none 0 0] 50)) w.heap.size (fun k => w.heap.size ≤ k ∧ k < (w.alloc (.cells #[.int .i64 x, .slice none 0 0, .slice none 0 0] 50)).heap.size) R [] [] := by
  subst hx
  refine ⟨⟨_, _, Blk.new w 50 [.int .i64 R, .slice none 0 0, .slice none 0 0], World.ownsRow_nil _ _ _ _, World.ownsRow_nil _ _ _ _, ?_, ?_, ?_⟩, by simp, hR⟩
  all_goals intro b hb; simp [Value.ownBlock] at hb
theorem new_any (n : Int) (w : World) : Calls Try.prog 9 #[.int .i64 n] w (IsNew n w) := by
  have hR : roomN n ≤ 64 := by unfold roomN; split <;> (try split) <;> omega
  go_enter Try.func9, Try.ntmps9
  go_wp2
  all_goals go_ret
  all_goals refine ⟨_, rfl, line_of w ?_ hR, (Below.refl _ _).alloc (Nat.le_refl _) _⟩
  all_goals unfold roomN
  all_goals split <;> (try split) <;> omega

set_option maxRecDepth 100000 in
theorem stashed_any {p : Nat} {S : Nat → Prop} {R : Nat} {As Fr : List Int} (w : World) (h : Line w p S R As Fr) (hn : As.length ≤ 1000000) :
    Calls Try.prog 21 #[.pointer (some ⟨p, 0, none⟩)] w (Cloned w As.length As) := by
  obtain ⟨va, vf, h1, h2, h3, h4, h5, h6⟩ := h.ex
  obtain ⟨A, cap, rfl, _, _, hc, hnil, _⟩ := own_form h2
  have c1 : w.cell? ⟨p, 1, none⟩ = some (.slice A As.length cap) := h1.cell 1
  have K := Troupe.hid (clone_any A _ cap w.heap.size As w rfl (by omega) hc hnil)
  clear h h1 h2 h3 h4 h5 h6 hc hnil
  go_enter Try.func21, Try.ntmps21
  go_wp2_with fail
  refine K.out.mono ?_
  rintro e w' ⟨v, rfl, ho, hb⟩
  have HO := Troupe.hid ho
  have HB := Troupe.hid hb
  clear ho hb c1
  go_wp2_with fail
  go_ret
  exact ⟨v, rfl, HO.out, HB.out⟩
set_option maxRecDepth 100000 in
theorem front_any {p : Nat} {S : Nat → Prop} {R : Nat} {As Fr : List Int} (w : World) (h : Line w p S R As Fr) (hn : Fr.length ≤ 1000000) :
    Calls Try.prog 13 #[.pointer (some ⟨p, 0, none⟩)] w (Cloned w Fr.length Fr.reverse) := by
  obtain ⟨va, vf, h1, h2, h3, h4, h5, h6⟩ := h.ex
  obtain ⟨A, cap, rfl, _, _, hc, hnil, _⟩ := own_form h3
  have c1 : w.cell? ⟨p, 2, none⟩ = some (.slice A Fr.length cap) := h1.cell 2
  have K := Troupe.hid (clone_any A _ cap w.heap.size Fr w rfl (by omega) hc hnil)
  clear h h1 h2 h3 h4 h5 h6 hc hnil
  go_enter Try.func13, Try.ntmps13
  go_wp2_with fail
  refine K.out.mono ?_
  rintro e w' ⟨v, rfl, ho, hb⟩
  obtain ⟨A', cap', rfl, -⟩ := own_form ho
  have HO := Troupe.hid ho
  have HB := Troupe.hid hb
  clear ho hb c1
  go_wp2_with fail
  refine (reverse_any A' Fr.length cap' w.heap.size Fr w' rfl (by omega) HO.out).mono ?_
  rintro e w2 ⟨rfl, ho2, hf2⟩
  have HO2 := Troupe.hid ho2
  have HB2 := Troupe.hid (HB.out.trans (hf2.below HB.out.size (fun k hk => (HO.out.lt k hk).1)))
  clear ho2 hf2
  go_wp2_with fail
  go_ret
  exact ⟨_, rfl, HO2.out, HB2.out⟩
end Go.Proofs.Ytmbpilhngniigaa
