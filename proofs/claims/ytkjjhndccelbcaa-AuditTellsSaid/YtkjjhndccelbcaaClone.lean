/- slices.Clone at effects, by contract. -/
import Derived.Test.YtkjjhndccelbcaaData
namespace Go.Proofs.Ytkjjhndccelbcaa
open Go.RowKit Go.Maps Go.Troupe

theorem info57 : (Try.prog.info? 57).map (fun i => (i.zero, i.size, i.bytes)) = some (some (.agg #[.int .i64 0, .string ⟨#[]⟩, .string ⟨#[]⟩, .string ⟨#[]⟩, .int .i64 0, .int .i64 0, .int .i64 0]), 7, 80) := by kernel_rfl

def ClonedE (w : World) (n : Nat) (l : List Eff) (e : Ending) (w' : World) : Prop :=
  ∃ v, e = .returned v ∧ w'.ownsRow w.heap.size 57 7 v n (flatE l) ∧ Below w.heap.size w w'
set_option maxRecDepth 100000 in
theorem cloneE_any (Ad : Option Addr) (n c B : Nat) (l : List Eff) (w : World) (hl : l.length = n) (hn : n * 80 ≤ 140737488355328) (hc : Cells w B Ad (flatE l)) (hA : Ad = none → n = 0 ∧ c = 0) :
    Calls Try.prog 78 #[.slice Ad n c] w (ClonedE w n l) := by
  have hnil := fun W => Lib.run_eql_slice_nil (P := Try.prog) W 58 57 Ad n c 0 0 Try.underlying58
  cases Ad with
  | none =>
    obtain ⟨rfl, rfl⟩ := hA rfl
    obtain rfl : l = [] := List.eq_nil_of_length_eq_zero hl
    simp only [Option.isNone_none] at hnil
    go_enter Try.func78, Try.ntmps78
    go_wp2_with fail
    go_ret
    exact ⟨.slice none 0 0, rfl, World.ownsRow_nil _ _ _ _, Below.refl _ _⟩
  | some ad =>
    simp only [Option.isNone_some] at hnil
    have hblk := Blk.new w 57 []
    have hown : (w.alloc (.cells #[] 57)).ownsRow w.heap.size 57 7 (.slice (some ⟨w.heap.size, 0, none⟩) 0 0) 0 [] := by
      have := blk_own (base := w.heap.size) (n := 0) (cap := 0) (size := 7) hblk (by simp) (Nat.le_refl _) (Nat.le_refl _) (by simp [maxLen])
      simpa using this
    have hc1 : Cells (w.alloc (.cells #[] 57)) B (some ad) (flatE l) := hc.keep fun p _ u hu => by
      rw [← hu]
      exact World.cell?_of_block (Below.heap_alloc _ _ _ (by
        rcases Nat.lt_or_ge p.block w.heap.size with h | h
        · exact h
        · unfold World.cell? at hu; rw [Array.getElem?_eq_none h] at hu; cases hu))
    have OWN := Troupe.hid hown
    have C1 := Troupe.hid hc1
    have LEN : Hid ((flatE l).length = n * 7) := by unfold Hid; rw [flatE_length, hl]
    clear hblk hown hc1 hc
    go_enter Try.func78, Try.ntmps78
    go_wp2_with (at_builtin; refine wpList_app rfl (.tmp 5) (.tmp 6) 58 rfl w.heap.size 57 info57 Try.underlying58 rfl (by decide) (.slice (some ⟨w.heap.size, 0, none⟩) 0 0) 0 [] rfl OWN.out B (some ad) n c (flatE l) rfl LEN.out C1.out (fun h => by cases h) (one_effs _) (by omega) (by unfold maxLen; omega) (by simp) ?_; intro v' w' h'; have H := Troupe.hid h'; clear h')
    go_ret
    refine ⟨v', rfl, ?_, ?_⟩
    · have := H.out.own
      simpa using this
    · refine ((((Below.refl _ _).alloc (Nat.le_refl _) _).trans (H.out.frm.below (by simp) (fun k hk => ?_))))
      simp [Value.ownBlock] at hk
      omega
end Go.Proofs.Ytkjjhndccelbcaa
