/- The document's area: how it lies in memory; New, room and Take by contracts. -/
import Derived.Test.YtcgdghnmcahfeaaSim
namespace Go.Proofs.Ytcgdghnmcahfeaa
open Go.RowKit Go.Maps Go.Troupe

/-- The document's area at p: its row of cells; T: the blocks that are its own. -/
structure Rf (w : World) (p : Nat) (T : Nat → Prop) (O : List Int) : Prop where
  ex : ∃ v, Blk w p 53 [v] ∧ w.ownsRow 0 3 1 v O.length (wordsI O) ∧ (∀ b, v.ownBlock = some b → T b ∧ b < w.heap.size)
  tT : T p
section
variable {w w' : World} {p : Nat} {S T : Nat → Prop} {O : List Int}
theorem Rf.lt (h : Rf w p T O) : p < w.heap.size := by obtain ⟨v, h1, _⟩ := h.ex; exact h1.lt
theorem Rf.frm (h : Rf w p T O) (hf : Frm S w w') (hT : ∀ k, k < w.heap.size → S k → ¬ T k) : Rf w' p T O := by
  obtain ⟨v, h1, h2, h3⟩ := h.ex
  exact ⟨⟨v, h1.frm hf (fun hk => hT _ h1.lt hk h.tT), own_frm h2 hf (fun b hb hk => hT _ (h3 b hb).2 hk (h3 b hb).1), fun b hb => ⟨(h3 b hb).1, Nat.lt_of_lt_of_le (h3 b hb).2 hf.size⟩⟩, h.tT⟩
theorem Rf.below (h : Rf w p T O) (hf : Below w.heap.size w w') : Rf w' p T O := h.frm (Frm.of_below hf) (fun k hk hn => absurd hk (by omega))
theorem Rf.trim (h : Rf w p T O) : Rf w p (fun k => T k ∧ k < w.heap.size) O := by
  have hp := h.lt
  obtain ⟨v, h1, h2, h3⟩ := h.ex
  exact ⟨⟨v, h1, h2, fun b hb => ⟨h3 b hb, (h3 b hb).2⟩⟩, ⟨h.tT, hp⟩⟩
end
theorem own_set1 {w : World} {base n cap g : Nat} {e : TypeId} {xs : List Value} (h : w.ownsRow base e 1 (.slice (some ⟨g, 0, none⟩) n cap) n xs) {i : Nat} (hi : i < n) (u : Value) :
    w.cell? ⟨g, i, none⟩ = xs[i]? ∧ (w.cell? ⟨g, i, none⟩).isSome = true ∧ w.frozen? ⟨g, i, none⟩ = false ∧ (w.setCell ⟨g, i, none⟩ u).ownsRow base e 1 (.slice (some ⟨g, 0, none⟩) n cap) n (xs.set i u) := by
  rcases own_blk h with ⟨h0, -⟩ | ⟨g', cs, hA, hbk, hcl, hbg, hqc, hcm, htk⟩
  · cases h0
  · obtain rfl : g = g' := by cases hA; rfl
    rw [Nat.mul_one] at hcl htk
    refine ⟨?_, hbk.isSome (by omega), hbk.frozen i, ?_⟩
    · rw [hbk.cell, ← htk, List.getElem?_take, if_pos hi]
    · have := blk_own (base := base) (n := n) (cap := cap) (size := 1) (hbk.set_ i u) (by simpa using hcl) hbg hqc hcm
      rw [Nat.mul_one, List.take_set, htk] at this
      exact this
theorem wordsI_len (l : List Int) : (wordsI l).length = l.length := by simp [wordsI]
theorem wordsI_at (l : List Int) (i : Nat) (x : Int) (h : l[i]? = some x) : (wordsI l)[i]? = some (.int .i64 x) := by simp [wordsI, h]
theorem putO_zero (O : List Int) (b : Nat) (x : Int) : putO O b 0 x = O := by simp [putO]
theorem putO_next (O : List Int) (b t : Nat) (x : Int) (h : b + t < O.length) : (wordsI (putO O b t x)).set (b + t) (.int .i64 x) = wordsI (putO O b (t + 1) x) := by
  have e : wordsI ((putO O b t x).set (b + t) x) = (wordsI (putO O b t x)).set (b + t) (.int .i64 x) := by simp [wordsI, List.map_set]
  rw [← e]
  congr 1
  apply List.ext_getElem?
  intro i
  rw [List.getElem?_set, putO_len _ _ _ (by omega), putO_get _ _ _ (by omega), putO_get _ _ _ (by omega)]
  by_cases h1 : b + t = i
  · subst h1
    rw [if_pos rfl, if_pos h, if_pos (by omega)]
  · rw [if_neg h1]
    by_cases h2 : b ≤ i ∧ i < b + t
    · rw [if_pos h2, if_pos (by omega)]
    · rw [if_neg h2, if_neg (by omega)]

def IsRef (M : Nat) (w : World) (e : Ending) (w' : World) : Prop :=
  ∃ p, e = .returned (.pointer (some ⟨p, 0, none⟩)) ∧ Rf w' p (fun k => w.heap.size ≤ k ∧ k < w'.heap.size) (List.replicate M (-1)) ∧ Below w.heap.size w w'
set_option maxRecDepth 100000 in
set_option maxHeartbeats 2000000 in
theorem refnew_any (n : Int) (M : Nat) (w : World) (hM : M = areaN n) (hM2 : M ≤ 65536) : Calls Try.prog 10 #[.int .i64 n] w (IsRef M w) := by
  have CN := Troupe.hid (fun W => hM ▸ count_any n W)
  clear hM
  have b0 : Blk (w.alloc (.cells #[.slice none 0 0] 53)) w.heap.size 53 [.slice none 0 0] := Blk.new w 53 _
  have B0 := Troupe.hid b0
  have BE0 : Hid (Below w.heap.size w (w.alloc (.cells #[.slice none 0 0] 53))) := (Below.refl _ _).alloc (Nat.le_refl _) _
  clear b0
  go_enter Try.func10, Try.ntmps10
  go_wp2_with fail
  generalize w.alloc (.cells #[.slice none 0 0] 53) = w0 at *
  go_loopw [4] (fun v4 wr => ∃ (i : Nat) (v : Value), v4 = .int .i64 i ∧ i ≤ M ∧ Blk wr w.heap.size 53 [v] ∧ wr.ownsRow w.heap.size 3 1 v i (wordsI (List.replicate i (-1))) ∧ Below w.heap.size w wr) (fun v4 _ => M - (intOf v4).toNat)
  case atStart => exact ⟨0, _, rfl, Nat.zero_le _, B0.out, World.ownsRow_nil _ _ _ _, BE0.out⟩
  case round =>
    obtain ⟨i, v, rfl, hi, hk, ho, hb⟩ := hrel
    obtain ⟨A, c, rfl, -⟩ := own_form ho
    have K := Troupe.hid hk
    have OW := Troupe.hid ho
    have HB := Troupe.hid hb
    clear hk ho hb
    go_wp2_with fail
    refine (CN.out wr).mono ?_
    rintro e w6 ⟨rfl, rfl⟩
    by_cases hlt : i < M
    · have c0 : w6.cell? ⟨w.heap.size, 0, none⟩ = some (.slice A i c) := K.out.cell 0
      have F1 : Frm (fun _ => False) w6 (w6.alloc (.cells #[.int .i64 (-1)] 3)) := (Frm.refl _ w6).alloc _
      have V1 := Troupe.hid (own_frm OW.out F1 (fun _ _ h => h))
      have K1 := Troupe.hid (K.out.alloc (.cells #[.int .i64 (-1)] 3))
      have C1 := Troupe.hid (Blk.blk_cells (Blk.new w6 3 [.int .i64 (-1)]))
      have hw1 : (w6.alloc (.cells #[.int .i64 (-1)] 3)).heap.size = w6.heap.size + 1 := by simp
      have hbs := HB.out.size
      have BB := Troupe.hid (HB.out.alloc HB.out.size (.cells #[.int .i64 (-1)] 3))
      clear F1
      go_wp2_with (at_builtin; refine wpList_app rfl (.tmp 17) (.tmp 18) 39 rfl w.heap.size 3 info3 Try.underlying39 rfl (by decide) (.slice A i c) i _ rfl V1.out (w6.heap.size + 1) (some ⟨w6.heap.size, 0, none⟩) 1 1 [.int .i64 (-1)] rfl rfl C1.out (fun h => by cases h) (by simp [Value.oneCell']) (by omega) (by unfold maxLen; omega) (by omega) ?_; intro v2 w7 h2; obtain ⟨A2, c2, rfl, -⟩ := own_form h2.own; have NP : ¬ (Value.slice A i c).ownBlock = some w.heap.size := (fun e => by (obtain ⟨cs, hbk⟩ := own_at V1.out e; exact hbk.ne K1.out (by decide) rfl)); have k7 := K1.out.frm h2.frm NP; have f7 := k7.frozen; have d7 := k7.cell; have K7 := Troupe.hid k7; have H2 := Troupe.hid h2; clear h2 NP k7)
      go_roundw
      case rel =>
        refine ⟨i + 1, _, by go_num, by omega, K7.out.set_ 0 _, ?_, (BB.out.trans (H2.out.frm.below BB.out.size (fun k hk => (V1.out.lt k hk).1))).setCell (Nat.le_refl _) _⟩
        have e : wordsI (List.replicate (i + 1) (-1)) = wordsI (List.replicate i (-1)) ++ [.int .i64 (-1)] := by
          rw [List.replicate_succ']; simp [wordsI]
        rw [e]
        refine own_frm H2.out.own (Frm.one w7 ⟨w.heap.size, 0, none⟩ _) (fun b hb e => ?_)
        obtain ⟨cs, hbk⟩ := own_at H2.out.own hb
        exact hbk.ne K7.out (by decide) e
      case measure => simp [intOf]; omega
    · obtain rfl : i = M := by omega
      go_wp2_with fail
      go_ret
      refine ⟨w.heap.size, rfl, ⟨⟨_, K.out, ?_, fun b hb => ?_⟩, ⟨Nat.le_refl _, K.out.lt⟩⟩, HB.out⟩
      · rw [List.length_replicate]; exact Go.Joins.ownsRow_le OW.out (Nat.zero_le _)
      · have := OW.out.lt b hb; exact ⟨this, this.2⟩
end Go.Proofs.Ytcgdghnmcahfeaa
