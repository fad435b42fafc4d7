/- Functions of package slices at words, by contracts. -/
import Derived.Test.YtmbpilhngniigaaChecked
import Derived.Test.YtmbpilhngniigaaMem
import Derived.Lib.SliceRun
import Derived.Deep.CutRange
import Derived.Deep.CutBlock
namespace Go.Proofs.Ytmbpilhngniigaa
open Go.RowKit Go.Maps Go.Troupe

theorem info28 : (Try.prog.info? 28).map (fun i => (i.zero, i.size, i.bytes)) = some (some (.int .u64 0), 1, 8) := by kernel_rfl
theorem one_ints (q : IntKind) (l : List Int) : ∀ u ∈ l.map (Value.int q), u.oneCell' = true := by
  intro u hu
  obtain ⟨x, _, rfl⟩ := List.mem_map.1 hu
  rfl
def Cloned (w : World) (n : Nat) (l : List Int) (e : Ending) (w' : World) : Prop :=
  ∃ v, e = .returned v ∧ w'.ownsRow w.heap.size 28 1 v n (l.map (Value.int .u64)) ∧ Below w.heap.size w w'
set_option maxRecDepth 100000 in
theorem clone_any (Ad : Option Addr) (n c B : Nat) (l : List Int) (w : World) (hl : l.length = n) (hn : n ≤ 1000000000) (hc : Cells w B Ad (l.map (Value.int .u64))) (hA : Ad = none → n = 0 ∧ c = 0) :
    Calls Try.prog 23 #[.slice Ad n c] w (Cloned w n l) := by
  have hnil := fun W => Lib.run_eql_slice_nil (P := Try.prog) W 22 28 Ad n c 0 0 Try.underlying22
  cases Ad with
  | none =>
    obtain ⟨rfl, rfl⟩ := hA rfl
    obtain rfl : l = [] := List.eq_nil_of_length_eq_zero hl
    simp only [Option.isNone_none] at hnil
    go_enter Try.func23, Try.ntmps23
    go_wp2_with fail
    go_ret
    exact ⟨.slice none 0 0, rfl, World.ownsRow_nil _ _ _ _, Below.refl _ _⟩
  | some ad =>
    simp only [Option.isNone_some] at hnil
    have hblk := Blk.new w 28 []
    have hown : (w.alloc (.cells #[] 28)).ownsRow w.heap.size 28 1 (.slice (some ⟨w.heap.size, 0, none⟩) 0 0) 0 [] := by
      have := blk_own (base := w.heap.size) (n := 0) (cap := 0) (size := 1) hblk (by simp) (Nat.le_refl _) (Nat.le_refl _) (by simp [maxLen])
      simpa using this
    have hc1 : Cells (w.alloc (.cells #[] 28)) B (some ad) (l.map (Value.int .u64)) := hc.keep fun p _ u hu => by
      rw [← hu]
      exact World.cell?_of_block (Below.heap_alloc _ _ _ (by
        rcases Nat.lt_or_ge p.block w.heap.size with h | h
        · exact h
        · unfold World.cell? at hu; rw [Array.getElem?_eq_none h] at hu; cases hu))
    have OWN := Troupe.hid hown
    have C1 := Troupe.hid hc1
    have LEN : Hid ((l.map (Value.int .u64)).length = n * 1) := by unfold Hid; simp [hl]
    clear hblk hown hc1 hc
    go_enter Try.func23, Try.ntmps23
    go_wp2_with (at_builtin; refine wpList_app rfl (.tmp 5) (.tmp 6) 22 rfl w.heap.size 28 info28 Try.underlying22 rfl (by decide) (.slice (some ⟨w.heap.size, 0, none⟩) 0 0) 0 [] rfl OWN.out B (some ad) n c (l.map (Value.int .u64)) rfl LEN.out C1.out (fun h => by cases h) (one_ints _ _) (by omega) (by unfold maxLen; omega) (by simp) ?_; intro v' w' h'; have H := Troupe.hid h'; clear h')
    go_ret
    refine ⟨v', rfl, ?_, ?_⟩
    · have := H.out.own
      simpa using this
    · refine ((((Below.refl _ _).alloc (Nat.le_refl _) _).trans (H.out.frm.below (by simp) (fun k hk => ?_))))
      simp [Value.ownBlock] at hk
      omega
end Go.Proofs.Ytmbpilhngniigaa
