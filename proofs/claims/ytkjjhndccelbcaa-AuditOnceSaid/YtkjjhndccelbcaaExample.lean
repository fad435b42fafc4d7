/- The document's example: one kind, six events. -/
import Derived.Test.YtkjjhndccelbcaaCheckE
namespace Go.Proofs.Ytkjjhndccelbcaa
open Go.RowKit Go.Maps Go.Troupe

def exE : List Eff := [⟨11, ⟨#[]⟩, ⟨#[]⟩, ⟨#[]⟩, 0, 0, 0⟩]
def exRows (b : Nat) : List Rw := [⟨⟨#[120]⟩, false, 0, exE, some ⟨b + 1, 0, none⟩, 1⟩]
def exSts (b : Nat) : List St := [⟨⟨#[115]⟩, exRows b, some ⟨b + 1 + 1, 0, none⟩, 1⟩]
/-- The example's kinds. -/
def exKs (b : Nat) : List Kf := [⟨⟨#[97]⟩, 0, 1, [], none, 0, exSts b, some ⟨b + 1 + 1 + 1, 0, none⟩, 1⟩]
/-- The example's events. -/
def ev0 : Ev := ⟨7, 1, 0, 0, 0, ⟨#[97]⟩, 0, 0, false⟩
def ev1 : Ev := ⟨2, 0, 1, -1, 1, ⟨#[120]⟩, 0, 0, false⟩
def ev2 : Ev := ⟨3, 1, 1, 0, 0, ⟨#[]⟩, 0, 0, false⟩
def ev3 : Ev := ⟨4, 1, 1, 0, 0, ⟨#[115]⟩, 0, 0, false⟩
def ev3t : Ev := ⟨4, 1, 1, 0, 0, ⟨#[116]⟩, 0, 0, false⟩
def ev4 : Ev := ⟨13, 1, 0, 0, 0, ⟨#[]⟩, 0, 0, false⟩
def ev5 : Ev := ⟨14, 1, 0, 0, 0, ⟨#[]⟩, 0, 0, false⟩
def exEvs : List Ev := [ev0, ev1, ev2, ev3, ev4, ev5]
structure ExIn (w w' : World) : Prop where
  be : Below w.heap.size w w'
  kin : KindsIn w' (w.heap.size + 1 + 1 + 1 + 1 + 1) (exKs w.heap.size)
  kb : Blk w' (w.heap.size + 1 + 1 + 1 + 1) 67 (flatK (exKs w.heap.size))
  eb : Blk w' (w.heap.size + 1 + 1 + 1 + 1 + 1 + 1) 32 (flatV exEvs)
def Exampled (w : World) (e : Ending) (w' : World) : Prop := e = .returned (.tuple #[.agg #[.slice (some ⟨w.heap.size + 1 + 1 + 1 + 1, 0, none⟩) 1 1], .slice (some ⟨w.heap.size + 1 + 1 + 1 + 1 + 1 + 1, 0, none⟩) 6 6]) ∧ ExIn w w'
theorem blk_in {w : World} {g B : Nat} {t : TypeId} {cs : List Value} (h : Blk w g t cs) (hB : g < B) : Cells w B (some ⟨g, 0, none⟩) cs := h.blk_cells.mono hB
set_option maxRecDepth 100000 in
set_option maxHeartbeats 1000000 in
theorem example_any (w : World) : Calls Try.prog 14 #[] w (Exampled w) := by
  go_enter Try.func14, Try.ntmps14
  go_wp2_with fail
  obtain ⟨w0, h0⟩ : ∃ w0, w0 = w.alloc (.cells #[.slice (some ⟨w.heap.size + 1 + 1 + 1 + 1, 0, none⟩) 1 1] 24) := ⟨_, rfl⟩
  obtain ⟨w1, h1⟩ : ∃ w1, w1 = w0.alloc (.cells (flatE exE).toArray 57) := ⟨_, rfl⟩
  obtain ⟨w2, h2⟩ : ∃ w2, w2 = w1.alloc (.cells (flatR (exRows w.heap.size)).toArray 60) := ⟨_, rfl⟩
  obtain ⟨w3, h3⟩ : ∃ w3, w3 = w2.alloc (.cells (flatS (exSts w.heap.size)).toArray 63) := ⟨_, rfl⟩
  obtain ⟨w4, h4⟩ : ∃ w4, w4 = w3.alloc (.cells (flatK (exKs w.heap.size)).toArray 67) := ⟨_, rfl⟩
  obtain ⟨w5, h5⟩ : ∃ w5, w5 = w4.alloc (.cells #[.slice (some ⟨w.heap.size + 1 + 1 + 1 + 1, 0, none⟩) 1 1] 24) := ⟨_, rfl⟩
  obtain ⟨w6, h6⟩ : ∃ w6, w6 = w5.alloc (.cells (flatV exEvs).toArray 32) := ⟨_, rfl⟩
  rw [← h0]
  change bodyPost Try.prog Try.f14 (Exampled w) Exit.ret _ ((((((w0.alloc (.cells (flatE exE).toArray 57)).alloc (.cells (flatR (exRows w.heap.size)).toArray 60)).alloc (.cells (flatS (exSts w.heap.size)).toArray 63)).alloc (.cells (flatK (exKs w.heap.size)).toArray 67)).alloc (.cells #[.slice (some ⟨w.heap.size + 1 + 1 + 1 + 1, 0, none⟩) 1 1] 24)).alloc (.cells (flatV exEvs).toArray 32))
  rw [← h1, ← h2, ← h3, ← h4, ← h5, ← h6]
  have s0 : w0.heap.size = w.heap.size + 1 := by rw [h0]; simp
  have s1 : w1.heap.size = w.heap.size + 1 + 1 := by rw [h1]; simp [s0]
  have s2 : w2.heap.size = w.heap.size + 1 + 1 + 1 := by rw [h2]; simp [s1]
  have s3 : w3.heap.size = w.heap.size + 1 + 1 + 1 + 1 := by rw [h3]; simp [s2]
  have s4 : w4.heap.size = w.heap.size + 1 + 1 + 1 + 1 + 1 := by rw [h4]; simp [s3]
  have s5 : w5.heap.size = w.heap.size + 1 + 1 + 1 + 1 + 1 + 1 := by rw [h5]; simp [s4]
  have s6 : w6.heap.size = w.heap.size + 1 + 1 + 1 + 1 + 1 + 1 + 1 := by rw [h6]; simp [s5]
  have b0 : Blk w6 w.heap.size 24 [.slice (some ⟨w.heap.size + 1 + 1 + 1 + 1, 0, none⟩) 1 1] := by
    rw [h6, h5, h4, h3, h2, h1, h0]; exact ((((((Blk.new w 24 [.slice (some ⟨w.heap.size + 1 + 1 + 1 + 1, 0, none⟩) 1 1]).alloc _).alloc _).alloc _).alloc _).alloc _).alloc _
  have b1 : Blk w6 (w.heap.size + 1) 57 (flatE exE) := by
    rw [h6, h5, h4, h3, h2, h1, ← s0]; exact (((((Blk.new w0 57 (flatE exE)).alloc _).alloc _).alloc _).alloc _).alloc _
  have b2 : Blk w6 (w.heap.size + 1 + 1) 60 (flatR (exRows w.heap.size)) := by
    rw [h6, h5, h4, h3, h2, ← s1]; exact ((((Blk.new w1 60 (flatR (exRows w.heap.size))).alloc _).alloc _).alloc _).alloc _
  have b3 : Blk w6 (w.heap.size + 1 + 1 + 1) 63 (flatS (exSts w.heap.size)) := by
    rw [h6, h5, h4, h3, ← s2]; exact (((Blk.new w2 63 (flatS (exSts w.heap.size))).alloc _).alloc _).alloc _
  have b4 : Blk w6 (w.heap.size + 1 + 1 + 1 + 1) 67 (flatK (exKs w.heap.size)) := by
    rw [h6, h5, h4, ← s3]; exact ((Blk.new w3 67 (flatK (exKs w.heap.size))).alloc _).alloc _
  have b6 : Blk w6 (w.heap.size + 1 + 1 + 1 + 1 + 1 + 1) 32 (flatV exEvs) := by
    rw [h6, ← s5]; exact Blk.new w5 32 (flatV exEvs)
  have be : Below w.heap.size w w6 := by
    rw [h6, h5, h4, h3, h2, h1, h0]; exact (((((((Below.refl _ w).alloc (Nat.le_refl _) _).alloc (by simp) _).alloc (by simp; omega) _).alloc (by simp; omega) _).alloc (by simp; omega) _).alloc (by simp; omega) _).alloc (by simp; omega) _
  clear h0 h1 h2 h3 h4 h5 h6 s0 s1 s2 s3 s4 s5
  have hK : KindsIn w6 (w.heap.size + 1 + 1 + 1 + 1 + 1) (exKs w.heap.size) := by
    intro k hk
    have hk' : k = ⟨⟨#[97]⟩, 0, 1, [], none, 0, exSts w.heap.size, some ⟨w.heap.size + 1 + 1 + 1, 0, none⟩, 1⟩ := by simpa [exKs] using hk
    subst hk'
    refine ⟨⟨Cells.nil _ _ _, fun _ => rfl, by simp⟩, blk_in b3 (by omega), fun h => (by cases h), ?_, by simp [exSts]⟩
    intro s hs
    have hs' : s = ⟨⟨#[115]⟩, exRows w.heap.size, some ⟨w.heap.size + 1 + 1, 0, none⟩, 1⟩ := by simpa [exSts] using hs
    subst hs'
    refine ⟨blk_in b2 (by omega), fun h => (by cases h), ?_, by simp [exRows]⟩
    intro r hr
    have hr' : r = ⟨⟨#[120]⟩, false, 0, exE, some ⟨w.heap.size + 1, 0, none⟩, 1⟩ := by simpa [exRows] using hr
    subst hr'
    exact ⟨blk_in b1 (by omega), fun h => (by cases h), by simp [exE]⟩
  exact bodyPost_ret (results_cell_tmp_row rfl _ _ w.heap.size 24 _ (0, 0) _ rfl b0 Try.underlying24 rfl (by kernel_rfl)) rfl ⟨rfl, be, hK, b4, b6⟩
end Go.Proofs.Ytkjjhndccelbcaa
