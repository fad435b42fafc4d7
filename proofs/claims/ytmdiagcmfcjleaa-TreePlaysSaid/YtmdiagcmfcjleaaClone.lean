/- slices.Clone at numbers and the reference's Ints, by contracts. -/
import Derived.Test.YtmdiagcmfcjleaaReverse
namespace Go.Proofs.Ytmdiagcmfcjleaa
open Go.RowKit Go.Maps Go.Troupe

def Cloned (w : World) (n : Nat) (l : List Int) (e : Ending) (w' : World) : Prop :=
  ∃ v, e = .returned v ∧ w'.ownsRow w.heap.size 3 1 v n (wordsI l) ∧ Below w.heap.size w w'
set_option maxRecDepth 100000 in
theorem clone_any (Ad : Option Addr) (n c B : Nat) (l : List Int) (w : World) (hl : l.length = n) (hn : n ≤ 1000000000) (hc : Cells w B Ad (wordsI l)) (hA : Ad = none → n = 0 ∧ c = 0) :
    Calls Try.prog 30 #[.slice Ad n c] w (Cloned w n l) := by
  have hnil := fun W => Lib.run_eql_slice_nil (P := Try.prog) W 25 3 Ad n c 0 0 Try.underlying25
  cases Ad with
  | none =>
    obtain ⟨rfl, rfl⟩ := hA rfl
    obtain rfl : l = [] := List.eq_nil_of_length_eq_zero hl
    simp only [Option.isNone_none] at hnil
    go_enter Try.func30, Try.ntmps30
    go_wp2_with fail
    go_ret
    exact ⟨.slice none 0 0, rfl, World.ownsRow_nil _ _ _ _, Below.refl _ _⟩
  | some ad =>
    simp only [Option.isNone_some] at hnil
    have hblk := Blk.new w 3 []
    have hown : (w.alloc (.cells #[] 3)).ownsRow w.heap.size 3 1 (.slice (some ⟨w.heap.size, 0, none⟩) 0 0) 0 [] := by
      have := blk_own (base := w.heap.size) (n := 0) (cap := 0) (size := 1) hblk (by simp) (Nat.le_refl _) (Nat.le_refl _) (by simp [maxLen])
      simpa using this
    have hc1 : Cells (w.alloc (.cells #[] 3)) B (some ad) (wordsI l) := hc.keep fun p _ u hu => by
      rw [← hu]
      exact World.cell?_of_block (Below.heap_alloc _ _ _ (by
        rcases Nat.lt_or_ge p.block w.heap.size with h | h
        · exact h
        · unfold World.cell? at hu; rw [Array.getElem?_eq_none h] at hu; cases hu))
    have OWN := Troupe.hid hown
    have C1 := Troupe.hid hc1
    have LEN : Hid ((wordsI l).length = n * 1) := by unfold Hid; rw [wordsI_len, hl]; omega
    clear hblk hown hc1 hc
    go_enter Try.func30, Try.ntmps30
    go_wp2_with (at_builtin; refine wpList_app rfl (.tmp 5) (.tmp 6) 25 rfl w.heap.size 3 info3 Try.underlying25 rfl (by decide) (.slice (some ⟨w.heap.size, 0, none⟩) 0 0) 0 [] rfl OWN.out B (some ad) n c (wordsI l) rfl LEN.out C1.out (fun h => by cases h) (one_ints _) (by omega) (by unfold maxLen; omega) (by simp) ?_; intro v' w' h'; have H := Troupe.hid h'; clear h')
    go_ret
    refine ⟨v', rfl, ?_, ?_⟩
    · have := H.out.own
      simpa using this
    · refine ((((Below.refl _ _).alloc (Nat.le_refl _) _).trans (H.out.frm.below (by simp) (fun k hk => ?_))))
      simp [Value.ownBlock] at hk
      omega

set_option maxRecDepth 100000 in
set_option maxHeartbeats 400000 in
theorem ints_eq (A1 : Option Addr) (n c1 : Nat) (A2 : Option Addr) (c2 : Nat) (l : List Int) (w : World) (hl : l.length = n) (hn : n ≤ 1000000000) (h1 : Cells w w.heap.size A1 (wordsI l)) (h2 : Cells w w.heap.size A2 (wordsI l)) :
    Calls Try.prog 21 #[.slice A1 n c1, .slice A2 n c2] w fun e w' => e = .returned (.bool true) ∧ Below w.heap.size w w' := by
  have C1 := Troupe.hid h1
  have C2 := Troupe.hid h2
  clear h1 h2
  go_enter Try.func21, Try.ntmps21
  go_wp2_with fail
  go_loopw [5] (fun v5 wr => ∃ i : Nat, i ≤ n ∧ v5 = .int .i64 i ∧ Below w.heap.size w wr) (fun v5 _ => n - (intOf v5).toNat)
  case atStart => exact ⟨0, by omega, rfl, Below.refl _ _⟩
  case round =>
    obtain ⟨i, hi, rfl, hb⟩ := hrel
    have HB := Troupe.hid hb
    by_cases hlt : i < n
    · obtain ⟨x, hx⟩ : ∃ x, l[i]? = some x := ⟨_, List.getElem?_eq_getElem (by omega)⟩
      have hne : wordsI l ≠ [] := by intro e; have := congrArg List.length e; simp [wordsI] at this; subst this; simp at hx
      obtain ⟨b1, o1, hA1, _, g1⟩ := (C1.out.below hb).at_ hne
      obtain ⟨b2, o2, hA2, _, g2⟩ := (C2.out.below hb).at_ hne
      subst hA1 hA2
      have d1 : wr.cell? ⟨b1, o1 + i, none⟩ = some (.int .i64 x) := g1 i _ (by simp [wordsI, hx])
      have d2 : wr.cell? ⟨b2, o2 + i, none⟩ = some (.int .i64 x) := g2 i _ (by simp [wordsI, hx])
      clear g1 g2 hx hne hb
      go_wp2_with fail
      go_quiet (fail)
      go_wp2_with fail
      go_roundw
      case rel => exact ⟨i + 1, by omega, by go_num, HB.out.trans ((Frm.refl (fun _ => False) wr).drewN _ |>.below HB.out.size (fun _ h => h.elim))⟩
      case measure => simp [intOf]; omega
    · clear hb
      go_wp2_with fail
      go_ret
      exact ⟨rfl, HB.out⟩

end Go.Proofs.Ytmdiagcmfcjleaa
