/- alive: the document's examples hold. -/
import Derived.Test.YtfeeajodgcdflaaDo
import Derived.Test.YtfeeajodgcdflaaWords
import Derived.Test.YtfeeajodgcdflaaInv
namespace Go.Proofs.Ytfeeajodgcdflaa
open Go.RowKit Go.Maps Go.Troupe

def sX : ByteArray := ⟨#[120]⟩
def exE1 : List Eff := [⟨11, ⟨#[]⟩, ⟨#[]⟩, ⟨#[]⟩, 0, 0, 0⟩]
def exE2 : List Eff := [⟨1, ⟨#[97]⟩, ⟨#[]⟩, ⟨#[120]⟩, 1, 0, 0⟩, ⟨3, ⟨#[]⟩, ⟨#[]⟩, ⟨#[116]⟩, 0, 0, 0⟩]
def exE3 : List Eff := [⟨4, ⟨#[]⟩, ⟨#[]⟩, ⟨#[]⟩, 0, 0, 0⟩]
def exRows (b : Nat) : List Rw := [⟨⟨#[120]⟩, true, 0, exE1, some ⟨b + 1, 0, none⟩, 1⟩, ⟨⟨#[120]⟩, false, 0, exE2, some ⟨b + 1 + 1, 0, none⟩, 2⟩, ⟨⟨#[]⟩, false, 0, exE3, some ⟨b + 1 + 1 + 1, 0, none⟩, 1⟩]
def exSts (b : Nat) : List St := [⟨⟨#[115]⟩, exRows b, some ⟨b + 1 + 1 + 1 + 1, 0, none⟩, 3⟩]
/-- The document's kind. -/
def exK (b : Nat) : Kd := ⟨⟨#[107]⟩, 0, 0, none, 0, 0, some ⟨b + 1 + 1 + 1 + 1 + 1, 0, none⟩, 1, exSts b⟩
def Exampled (w : World) (e : Ending) (w' : World) : Prop := e = .returned (exK w.heap.size).val ∧ KindIn w' w'.heap.size (exK w.heap.size) ∧ Below w.heap.size w w'
theorem blk_in {w : World} {g B : Nat} {t : TypeId} {cs : List Value} (h : Blk w g t cs) (hB : g < B) : Cells w B (some ⟨g, 0, none⟩) cs := h.blk_cells.mono hB
set_option maxRecDepth 100000 in
set_option maxHeartbeats 1000000 in
theorem example_any (w : World) : Calls Try.prog 27 #[] w (Exampled w) := by
  go_enter Try.func27, Try.ntmps27
  go_wp2_with fail
  obtain ⟨w0, h0⟩ : ∃ w0, w0 = w.alloc (.cells #[.string ⟨#[107]⟩, .int .i64 0, .int .i64 0, .slice none 0 0, .slice (some ⟨w.heap.size + 1 + 1 + 1 + 1 + 1, 0, none⟩) 1 1] 25) := ⟨_, rfl⟩
  obtain ⟨w1, h1⟩ : ∃ w1, w1 = w0.alloc (.cells #[.int .i64 11, .string ⟨#[]⟩, .string ⟨#[]⟩, .string ⟨#[]⟩, .int .i64 0, .int .i64 0, .int .i64 0] 36) := ⟨_, rfl⟩
  obtain ⟨w2, h2⟩ : ∃ w2, w2 = w1.alloc (.cells #[.int .i64 1, .string ⟨#[97]⟩, .string ⟨#[]⟩, .string ⟨#[120]⟩, .int .i64 1, .int .i64 0, .int .i64 0, .int .i64 3, .string ⟨#[]⟩, .string ⟨#[]⟩, .string ⟨#[116]⟩, .int .i64 0, .int .i64 0, .int .i64 0] 36) := ⟨_, rfl⟩
  obtain ⟨w3, h3⟩ : ∃ w3, w3 = w2.alloc (.cells #[.int .i64 4, .string ⟨#[]⟩, .string ⟨#[]⟩, .string ⟨#[]⟩, .int .i64 0, .int .i64 0, .int .i64 0] 36) := ⟨_, rfl⟩
  obtain ⟨w4, h4⟩ : ∃ w4, w4 = w3.alloc (.cells (flatR (exRows w.heap.size)).toArray 47) := ⟨_, rfl⟩
  obtain ⟨w5, h5⟩ : ∃ w5, w5 = w4.alloc (.cells (flatS (exSts w.heap.size)).toArray 45) := ⟨_, rfl⟩
  rw [← h0, ← h1, ← h2, ← h3]
  change bodyPost Try.prog Try.f27 (Exampled w) Exit.ret _ ((w3.alloc (.cells (flatR (exRows w.heap.size)).toArray 47)).alloc (.cells (flatS (exSts w.heap.size)).toArray 45))
  rw [← h4, ← h5]
  have s0 : w0.heap.size = w.heap.size + 1 := by rw [h0]; simp
  have s1 : w1.heap.size = w.heap.size + 1 + 1 := by rw [h1]; simp [s0]
  have s2 : w2.heap.size = w.heap.size + 1 + 1 + 1 := by rw [h2]; simp [s1]
  have s3 : w3.heap.size = w.heap.size + 1 + 1 + 1 + 1 := by rw [h3]; simp [s2]
  have s4 : w4.heap.size = w.heap.size + 1 + 1 + 1 + 1 + 1 := by rw [h4]; simp [s3]
  have s5 : w5.heap.size = w.heap.size + 1 + 1 + 1 + 1 + 1 + 1 := by rw [h5]; simp [s4]
  have bk : Blk w5 w.heap.size 25 [.string ⟨#[107]⟩, .int .i64 0, .int .i64 0, .slice none 0 0, .slice (some ⟨w.heap.size + 1 + 1 + 1 + 1 + 1, 0, none⟩) 1 1] := by
    rw [h5, h4, h3, h2, h1, h0]; exact (((((Blk.new w 25 [.string ⟨#[107]⟩, .int .i64 0, .int .i64 0, .slice none 0 0, .slice (some ⟨w.heap.size + 1 + 1 + 1 + 1 + 1, 0, none⟩) 1 1]).alloc _).alloc _).alloc _).alloc _).alloc _
  have b1 : Blk w5 (w.heap.size + 1) 36 (flatE exE1) := by
    rw [h5, h4, h3, h2, h1, ← s0]; exact ((((Blk.new w0 36 (flatE exE1)).alloc _).alloc _).alloc _).alloc _
  have b2 : Blk w5 (w.heap.size + 1 + 1) 36 (flatE exE2) := by
    rw [h5, h4, h3, h2, ← s1]; exact (((Blk.new w1 36 (flatE exE2)).alloc _).alloc _).alloc _
  have b3 : Blk w5 (w.heap.size + 1 + 1 + 1) 36 (flatE exE3) := by
    rw [h5, h4, h3, ← s2]; exact ((Blk.new w2 36 (flatE exE3)).alloc _).alloc _
  have b4 : Blk w5 (w.heap.size + 1 + 1 + 1 + 1) 47 (flatR (exRows w.heap.size)) := by
    rw [h5, h4, ← s3]; exact (Blk.new w3 47 (flatR (exRows w.heap.size))).alloc _
  have b5 : Blk w5 (w.heap.size + 1 + 1 + 1 + 1 + 1) 45 (flatS (exSts w.heap.size)) := by
    rw [h5, ← s4]; exact Blk.new w4 45 (flatS (exSts w.heap.size))
  have be : Below w.heap.size w w5 := by
    rw [h5, h4, h3, h2, h1, h0]; exact ((((((Below.refl _ w).alloc (Nat.le_refl _) _).alloc (by simp) _).alloc (by simp; omega) _).alloc (by simp; omega) _).alloc (by simp; omega) _).alloc (by simp; omega) _
  clear h0 h1 h2 h3 h4 h5 s0 s1 s2 s3 s4
  refine bodyPost_ret (results_cell_row rfl _ _ w.heap.size 25 _ (0, 0) _ rfl bk Try.underlying25 rfl (by kernel_rfl)) rfl ⟨rfl, ⟨?_, ?_, by simp [exK, exSts]⟩, be⟩
  · exact blk_in b5 (by omega)
  · intro s hs
    have hs' : s = ⟨⟨#[115]⟩, exRows w.heap.size, some ⟨w.heap.size + 1 + 1 + 1 + 1, 0, none⟩, 3⟩ := by simpa [exK, exSts] using hs
    subst hs'
    refine ⟨blk_in b4 (by omega), ?_, by simp [exRows]⟩
    intro r hr
    have hr' := hr
    simp only [exRows, List.mem_cons, List.not_mem_nil, or_false] at hr'
    rcases hr' with rfl | rfl | rfl
    · exact ⟨blk_in b1 (by omega), fun h => (by cases h), by simp [exE1]⟩
    · exact ⟨blk_in b2 (by omega), fun h => (by cases h), by simp [exE2]⟩
    · exact ⟨blk_in b3 (by omega), fun h => (by cases h), by simp [exE3]⟩
attribute [local go_sem] reads readAt readUpon Cls
def PlanAt (w0 w : World) (P : Pl) (v : Value) : Prop := ∃ A c, v = P.val (.slice A P.effs.length c) ∧ w.ownsRow w0.heap.size 36 7 (.slice A P.effs.length c) P.effs.length (flatE P.effs)
def zP : List Value := [.bool false, .slice none 0 0, .string ⟨#[]⟩, .bool false, .string ⟨#[]⟩]
def BoxAt (w0 w : World) (v : Value) : Prop := ∃ t, v = .pointer (some ⟨t, 0, none⟩) ∧ Blk w t 30 zP ∧ w0.heap.size ≤ t
theorem PlanAt.below {w0 w w' : World} {P : Pl} {v : Value} (h : PlanAt w0 w P v) (hb : Below w.heap.size w w') : PlanAt w0 w' P v := by
  obtain ⟨A, c, e, ho⟩ := h
  exact ⟨A, c, e, own_below ho hb⟩
theorem BoxAt.below {w0 w w' : World} {v : Value} (h : BoxAt w0 w v) (hb : Below w.heap.size w w') : BoxAt w0 w' v := by
  obtain ⟨t, e, hbk, ht⟩ := h
  exact ⟨t, e, hbk.below hb hbk.lt, ht⟩
theorem BoxAt.lt {w0 w : World} {v : Value} (h : BoxAt w0 w v) : ∀ t, v = .pointer (some ⟨t, 0, none⟩) → t < w.heap.size := by
  obtain ⟨t, e, hbk, ht⟩ := h
  intro t' e'
  rw [e] at e'
  cases e'
  exact hbk.lt
def exP1 : Pl := ⟨false, [], ⟨#[115]⟩, true, noS⟩
def exP2 : Pl := ⟨false, [⟨1, ⟨#[97]⟩, ⟨#[]⟩, ⟨#[120]⟩, 2, 4, 0⟩], ⟨#[116]⟩, false, noS⟩
def exP3 : Pl := ⟨true, [], ⟨#[115]⟩, false, noS⟩
theorem plan1 (b : Nat) : planV (exSts b) ⟨#[115]⟩ ⟨#[120]⟩ 0 = exP1 := by kernel_rfl
theorem plan2 (b : Nat) : planV (exSts b) ⟨#[115]⟩ ⟨#[120]⟩ 5 = exP2 := by kernel_rfl
theorem plan3 (b : Nat) : planV (exSts b) ⟨#[115]⟩ ⟨#[121]⟩ 1 = exP3 := by kernel_rfl
/-- What has been done of the three plans and their boxes. -/
structure IA (w0 w : World) (d : Nat → Bool) (v9 v11 v13 v2 v3 v4 : Value) : Prop where
  be : Below w0.heap.size w0 w
  r : d 0 = true ∧ d 2 = true ∧ d 4 = true
  p1 : d 1 = true → PlanAt w0 w exP1 v9
  p3 : d 3 = true → PlanAt w0 w exP2 v11
  p5 : d 5 = true → PlanAt w0 w exP3 v13
  b6 : d 6 = true → BoxAt w0 w v2
  b7 : d 7 = true → BoxAt w0 w v3
  b8 : d 8 = true → BoxAt w0 w v4
  n67 : d 6 = true → d 7 = true → v2 ≠ v3
  n68 : d 6 = true → d 8 = true → v2 ≠ v4
  n78 : d 7 = true → d 8 = true → v3 ≠ v4
section
variable {w0 w w' : World} {d : Nat → Bool} {v9 v11 v13 v2 v3 v4 v : Value}
theorem IA.below (h : IA w0 w d v9 v11 v13 v2 v3 v4) (hb : Below w.heap.size w w') : IA w0 w' d v9 v11 v13 v2 v3 v4 :=
  ⟨h.be.trans (hb.mono h.be.size), h.r, fun e => (h.p1 e).below hb, fun e => (h.p3 e).below hb, fun e => (h.p5 e).below hb, fun e => (h.b6 e).below hb, fun e => (h.b7 e).below hb, fun e => (h.b8 e).below hb, h.n67, h.n68, h.n78⟩
theorem IA.call1 (h : IA w0 w d v9 v11 v13 v2 v3 v4) (hp : PlanAt w0 w exP1 v) : IA w0 w (fun k => if k = 1 then true else d k) v v11 v13 v2 v3 v4 :=
  ⟨h.be, by simpa using h.r, fun _ => hp, fun e => h.p3 (by simpa using e), fun e => h.p5 (by simpa using e), fun e => h.b6 (by simpa using e), fun e => h.b7 (by simpa using e), fun e => h.b8 (by simpa using e), fun e f => h.n67 (by simpa using e) (by simpa using f), fun e f => h.n68 (by simpa using e) (by simpa using f), fun e f => h.n78 (by simpa using e) (by simpa using f)⟩
theorem IA.call3 (h : IA w0 w d v9 v11 v13 v2 v3 v4) (hp : PlanAt w0 w exP2 v) : IA w0 w (fun k => if k = 3 then true else d k) v9 v v13 v2 v3 v4 :=
  ⟨h.be, by simpa using h.r, fun e => h.p1 (by simpa using e), fun _ => hp, fun e => h.p5 (by simpa using e), fun e => h.b6 (by simpa using e), fun e => h.b7 (by simpa using e), fun e => h.b8 (by simpa using e), fun e f => h.n67 (by simpa using e) (by simpa using f), fun e f => h.n68 (by simpa using e) (by simpa using f), fun e f => h.n78 (by simpa using e) (by simpa using f)⟩
theorem IA.call5 (h : IA w0 w d v9 v11 v13 v2 v3 v4) (hp : PlanAt w0 w exP3 v) : IA w0 w (fun k => if k = 5 then true else d k) v9 v11 v v2 v3 v4 :=
  ⟨h.be, by simpa using h.r, fun e => h.p1 (by simpa using e), fun e => h.p3 (by simpa using e), fun _ => hp, fun e => h.b6 (by simpa using e), fun e => h.b7 (by simpa using e), fun e => h.b8 (by simpa using e), fun e f => h.n67 (by simpa using e) (by simpa using f), fun e f => h.n68 (by simpa using e) (by simpa using f), fun e f => h.n78 (by simpa using e) (by simpa using f)⟩
theorem box_new (h : Below w0.heap.size w0 w) : BoxAt w0 (w.alloc (.cells zP.toArray 30)) (.pointer (some ⟨w.heap.size, 0, none⟩)) := ⟨_, rfl, Blk.new _ _ _, h.size⟩
theorem box_ne (h : BoxAt w0 w v) : v ≠ .pointer (some ⟨w.heap.size, 0, none⟩) := fun e => by have := h.lt _ e; omega
theorem IA.al6 (h : IA w0 w d v9 v11 v13 v2 v3 v4) : IA w0 (w.alloc (.cells zP.toArray 30)) (fun k => if k = 6 then true else d k) v9 v11 v13 (.pointer (some ⟨w.heap.size, 0, none⟩)) v3 v4 := by
  have hb : Below w.heap.size w (w.alloc (.cells zP.toArray 30)) := (Below.refl _ _).alloc (Nat.le_refl _) _
  have g := h.below hb
  exact ⟨g.be, by simpa using g.r, fun e => g.p1 (by simpa using e), fun e => g.p3 (by simpa using e), fun e => g.p5 (by simpa using e), fun _ => box_new h.be, fun e => g.b7 (by simpa using e), fun e => g.b8 (by simpa using e), fun _ f => (box_ne (h.b7 (by simpa using f))).symm, fun _ f => (box_ne (h.b8 (by simpa using f))).symm, fun e f => h.n78 (by simpa using e) (by simpa using f)⟩
theorem IA.al7 (h : IA w0 w d v9 v11 v13 v2 v3 v4) : IA w0 (w.alloc (.cells zP.toArray 30)) (fun k => if k = 7 then true else d k) v9 v11 v13 v2 (.pointer (some ⟨w.heap.size, 0, none⟩)) v4 := by
  have hb : Below w.heap.size w (w.alloc (.cells zP.toArray 30)) := (Below.refl _ _).alloc (Nat.le_refl _) _
  have g := h.below hb
  exact ⟨g.be, by simpa using g.r, fun e => g.p1 (by simpa using e), fun e => g.p3 (by simpa using e), fun e => g.p5 (by simpa using e), fun e => g.b6 (by simpa using e), fun _ => box_new h.be, fun e => g.b8 (by simpa using e), fun e _ => box_ne (h.b6 (by simpa using e)), fun e f => h.n68 (by simpa using e) (by simpa using f), fun _ f => (box_ne (h.b8 (by simpa using f))).symm⟩
theorem IA.al8 (h : IA w0 w d v9 v11 v13 v2 v3 v4) : IA w0 (w.alloc (.cells zP.toArray 30)) (fun k => if k = 8 then true else d k) v9 v11 v13 v2 v3 (.pointer (some ⟨w.heap.size, 0, none⟩)) := by
  have hb : Below w.heap.size w (w.alloc (.cells zP.toArray 30)) := (Below.refl _ _).alloc (Nat.le_refl _) _
  have g := h.below hb
  exact ⟨g.be, by simpa using g.r, fun e => g.p1 (by simpa using e), fun e => g.p3 (by simpa using e), fun e => g.p5 (by simpa using e), fun e => g.b6 (by simpa using e), fun e => g.b7 (by simpa using e), fun _ => box_new h.be, fun e f => h.n67 (by simpa using e) (by simpa using f), fun e _ => box_ne (h.b6 (by simpa using e)), fun e _ => box_ne (h.b7 (by simpa using e))⟩
end
/-- The slots within the region. -/
def arr (g : Nat) (kv v9 v11 v13 v2 v3 v4 : Value) : Act := { tmps := #[.bool false, .pointer (some ⟨g, 0, none⟩), v2, v3, v4, undef, undef, kv, kv, v9, kv, v11, kv, v13, undef, undef, undef, undef, undef, undef, undef, undef, undef, undef, undef, undef, undef, undef, undef, undef, undef, undef, undef, undef, undef, undef, undef, undef, undef, undef, undef, undef, undef, undef, undef, undef, undef, undef, undef, undef, undef, undef, undef, undef, undef, undef, undef, undef, undef, undef, undef, undef, undef, undef, undef, undef, undef, undef, undef], defers := [] }
def inv (w0 : World) (g : Nat) (kv : Value) (L : Array Bool) (a : Act) (w : World) : Prop := ∃ v9 v11 v13 v2 v3 v4, a = arr g kv v9 v11 v13 v2 v3 v4 ∧ IA w0 w (fun k => L.getD k false) v9 v11 v13 v2 v3 v4
theorem inv_step {w0 w : World} {g : Nat} {kv v9 v11 v13 v2 v3 v4 : Value} {L : Array Bool} {i : Nat} (hi : i < L.size) (h : IA w0 w (fun k => if k = i then true else L.getD k false) v9 v11 v13 v2 v3 v4) :
    inv w0 g kv (L.setIfInBounds i true) (arr g kv v9 v11 v13 v2 v3 v4) w :=
  ⟨v9, v11, v13, v2, v3, v4, rfl, by rw [show (fun k => (L.setIfInBounds i true).getD k false) = fun k => if k = i then true else L.getD k false from funext (getD_done L i · hi)]; exact h⟩
set_option maxRecDepth 100000 in
set_option maxHeartbeats 4000000 in
theorem alive_any (w : World) : Calls Try.prog 11 #[] w fun e w' => e = .returned (.bool true) ∧ Below w.heap.size w w' := by
  go_enter Try.func11, Try.ntmps11
  go_wp2_with fail
  refine (example_any w).mono ?_
  rintro e w1 ⟨rfl, hk, hb⟩
  have ekv : (exK w.heap.size).val = .agg #[.string ⟨#[107]⟩, .int .i64 0, .int .i64 0, .slice none 0 0, .slice (some ⟨w.heap.size + 1 + 1 + 1 + 1 + 1, 0, none⟩) 1 1] := rfl
  rw [ekv]
  have F2 : Below w1.heap.size w1 (w1.alloc (.cells #[.string ⟨#[107]⟩, .int .i64 0, .int .i64 0, .slice none 0 0, .slice (some ⟨w.heap.size + 1 + 1 + 1 + 1 + 1, 0, none⟩) 1 1] 25)) := (Below.refl _ _).alloc (Nat.le_refl _) _
  have K2 : Blk (w1.alloc (.cells #[.string ⟨#[107]⟩, .int .i64 0, .int .i64 0, .slice none 0 0, .slice (some ⟨w.heap.size + 1 + 1 + 1 + 1 + 1, 0, none⟩) 1 1] 25)) w1.heap.size 25 [.string ⟨#[107]⟩, .int .i64 0, .int .i64 0, .slice none 0 0, .slice (some ⟨w.heap.size + 1 + 1 + 1 + 1 + 1, 0, none⟩) 1 1] := Blk.new _ _ _
  have KI := Troupe.hid ((hk.below F2).mono F2.size)
  have B2 := Troupe.hid (hb.trans (F2.mono hb.size))
  have K2H := Troupe.hid K2
  clear hk hb F2 K2 ekv
  go_wp2_with fail
  generalize w1.alloc (.cells #[.string ⟨#[107]⟩, .int .i64 0, .int .i64 0, .slice none 0 0, .slice (some ⟨w.heap.size + 1 + 1 + 1 + 1 + 1, 0, none⟩) 1 1] 25) = w2 at *
  generalize w1.heap.size = g at *
  have HDO : Hid (∀ (st tag : ByteArray) (n : Int), (-9223372036854775808 ≤ n ∧ n ≤ 9223372036854775807) → ∀ w', Below w2.heap.size w2 w' → Calls Try.prog 13 #[.agg #[.string ⟨#[107]⟩, .int .i64 0, .int .i64 0, .slice none 0 0, .slice (some ⟨w.heap.size + 1 + 1 + 1 + 1 + 1, 0, none⟩) 1 1], .string st, .string tag, .int .i64 n] w' (Done (planV (exSts w.heap.size) st tag n) w')) :=
    fun st tag n hn w' hb => do_any (exK w.heap.size) st tag n hn w' ((KI.out.below hb).mono hb.size)
  let S0 : World → Prop := fun w' => Below w2.heap.size w2 w'
  have hne : Nonempty (SW S0) := ⟨⟨w2, Below.refl _ _⟩⟩
  have FC : ∀ (z : SW S0) (i : Nat), z.w.cell? ⟨g, i, none⟩ = [Value.string ⟨#[107]⟩, .int .i64 0, .int .i64 0, .slice none 0 0, .slice (some ⟨w.heap.size + 1 + 1 + 1 + 1 + 1, 0, none⟩) 1 1][i]? := fun z i => (K2H.out.below z.h K2H.out.lt).cell i
  refine region_inv (S := Cls S0) (I := inv w2 g (.agg #[.string ⟨#[107]⟩, .int .i64 0, .int .i64 0, .slice none 0 0, .slice (some ⟨w.heap.size + 1 + 1 + 1 + 1 + 1, 0, none⟩) 1 1])) [0, 2, 4] 9 (by kernel_rfl) (by kernel_rfl) (fun _ _ d _ _ h => by cases d <;> exact h) ?_ ?_ ?_ ?_
  · rintro L a w' ⟨v9, v11, v13, v2, v3, v4, rfl, hI⟩
    exact Cls.of hI.be
  · rintro L a w' i hsz ⟨v9, v11, v13, v2, v3, v4, rfl, hI⟩ hi him
    have hun := (mem_ready.1 hi).1
    have hsz' : L.size = 12 := hsz
    clear FC hne hi
    match i, him with
    | 0, _ => exact absurd hI.r.1 (by rw [getD_both hun]; decide)
    | 1, _ =>
      refine wpOp_of_one rfl ?_
      unfold arr
      go_wp2_with fail
      refine (HDO.out ⟨#[115]⟩ ⟨#[120]⟩ 0 (by omega) w' hI.be).mono ?_
      rintro e w'' ⟨v, rfl, ho, hb⟩
      rw [plan1] at ho ⊢
      have ho' := Go.Joins.ownsRow_le ho hI.be.size
      obtain ⟨Av, cv, rfl, -⟩ := own_form ho
      have hstp := inv_step (w0 := w2) (g := g) (kv := .agg #[.string ⟨#[107]⟩, .int .i64 0, .int .i64 0, .slice none 0 0, .slice (some ⟨w.heap.size + 1 + 1 + 1 + 1 + 1, 0, none⟩) 1 1]) (L := L) (i := 1) (by omega) ((hI.below hb).call1 (v := exP1.val (.slice Av exP1.effs.length cv)) ⟨Av, cv, rfl, ho'⟩)
      clear ho ho' hb
      go_wp2_with fail
      exact hstp
    | 2, _ => exact absurd hI.r.2.1 (by rw [getD_both hun]; decide)
    | 3, _ =>
      refine wpOp_of_one rfl ?_
      unfold arr
      go_wp2_with fail
      refine (HDO.out ⟨#[115]⟩ ⟨#[120]⟩ 5 (by omega) w' hI.be).mono ?_
      rintro e w'' ⟨v, rfl, ho, hb⟩
      rw [plan2] at ho ⊢
      have ho' := Go.Joins.ownsRow_le ho hI.be.size
      obtain ⟨Av, cv, rfl, -⟩ := own_form ho
      have hstp := inv_step (w0 := w2) (g := g) (kv := .agg #[.string ⟨#[107]⟩, .int .i64 0, .int .i64 0, .slice none 0 0, .slice (some ⟨w.heap.size + 1 + 1 + 1 + 1 + 1, 0, none⟩) 1 1]) (L := L) (i := 3) (by omega) ((hI.below hb).call3 (v := exP2.val (.slice Av exP2.effs.length cv)) ⟨Av, cv, rfl, ho'⟩)
      clear ho ho' hb
      go_wp2_with fail
      exact hstp
    | 4, _ => exact absurd hI.r.2.2 (by rw [getD_both hun]; decide)
    | 5, _ =>
      refine wpOp_of_one rfl ?_
      unfold arr
      go_wp2_with fail
      refine (HDO.out ⟨#[115]⟩ ⟨#[121]⟩ 1 (by omega) w' hI.be).mono ?_
      rintro e w'' ⟨v, rfl, ho, hb⟩
      rw [plan3] at ho ⊢
      have ho' := Go.Joins.ownsRow_le ho hI.be.size
      obtain ⟨Av, cv, rfl, -⟩ := own_form ho
      have hstp := inv_step (w0 := w2) (g := g) (kv := .agg #[.string ⟨#[107]⟩, .int .i64 0, .int .i64 0, .slice none 0 0, .slice (some ⟨w.heap.size + 1 + 1 + 1 + 1 + 1, 0, none⟩) 1 1]) (L := L) (i := 5) (by omega) ((hI.below hb).call5 (v := exP3.val (.slice Av exP3.effs.length cv)) ⟨Av, cv, rfl, ho'⟩)
      clear ho ho' hb
      go_wp2_with fail
      exact hstp
    | 6, _ =>
      refine wpOp_of_one rfl ?_
      unfold arr
      have hstp := inv_step (w0 := w2) (g := g) (kv := .agg #[.string ⟨#[107]⟩, .int .i64 0, .int .i64 0, .slice none 0 0, .slice (some ⟨w.heap.size + 1 + 1 + 1 + 1 + 1, 0, none⟩) 1 1]) (L := L) (i := 6) (by omega) hI.al6
      go_wp2_with fail
      exact hstp
    | 7, _ =>
      refine wpOp_of_one rfl ?_
      unfold arr
      have hstp := inv_step (w0 := w2) (g := g) (kv := .agg #[.string ⟨#[107]⟩, .int .i64 0, .int .i64 0, .slice none 0 0, .slice (some ⟨w.heap.size + 1 + 1 + 1 + 1 + 1, 0, none⟩) 1 1]) (L := L) (i := 7) (by omega) hI.al7
      go_wp2_with fail
      exact hstp
    | 8, _ =>
      refine wpOp_of_one rfl ?_
      unfold arr
      have hstp := inv_step (w0 := w2) (g := g) (kv := .agg #[.string ⟨#[107]⟩, .int .i64 0, .int .i64 0, .slice none 0 0, .slice (some ⟨w.heap.size + 1 + 1 + 1 + 1 + 1, 0, none⟩) 1 1]) (L := L) (i := 8) (by omega) hI.al8
      go_wp2_with fail
      exact hstp
  · rintro L a w' hall ⟨v9, v11, v13, v2, v3, v4, rfl, hI⟩
    obtain ⟨A1, c1, rfl, o1⟩ := hI.p1 (hall 1 (by decide))
    obtain ⟨A2, c2, rfl, o2⟩ := hI.p3 (hall 3 (by decide))
    obtain ⟨A3, c3, rfl, o3⟩ := hI.p5 (hall 5 (by decide))
    obtain ⟨t2, rfl, k2, h2⟩ := hI.b6 (hall 6 (by decide))
    obtain ⟨t3, rfl, k3, h3⟩ := hI.b7 (hall 7 (by decide))
    obtain ⟨t4, rfl, k4, h4⟩ := hI.b8 (hall 8 (by decide))
    have n23 : ¬ t2 = t3 := fun e => hI.n67 (hall 6 (by decide)) (hall 7 (by decide)) (by rw [e])
    have n24 : ¬ t2 = t4 := fun e => hI.n68 (hall 6 (by decide)) (hall 8 (by decide)) (by rw [e])
    have n34 : ¬ t3 = t4 := fun e => hI.n78 (hall 7 (by decide)) (hall 8 (by decide)) (by rw [e])
    have n32 : ¬ t3 = t2 := fun e => n23 e.symm
    have n42 : ¬ t4 = t2 := fun e => n24 e.symm
    have n43 : ¬ t4 = t3 := fun e => n34 e.symm
    have BE := Troupe.hid hI.be
    have C2 := Troupe.hid (own_cells o2)
    have O2 := Troupe.hid o2
    have K2' := Troupe.hid k2
    have K3' := Troupe.hid k3
    have K4' := Troupe.hid k4
    have HT := Troupe.hid (And.intro h2 (And.intro h3 h4))
    have e2 := k2.cell
    have f2 := k2.frozen
    have e3 := k3.cell
    have f3 := k3.frozen
    have e4 := k4.cell
    have f4 := k4.frozen
    unfold zP at e2 e3 e4
    clear hI FC hne hall o1 o2 o3 k2 k3 k4 h2 h3 h4
    unfold arr
    dsimp only [exP1, exP2, exP3, Pl.val, List.length_cons, List.length_nil]
    simp only [Nat.zero_add]
    simp only [List.drop_succ_cons, List.drop_zero]
    go_wp2_with fail
    obtain ⟨s1, F1⟩ := set5 K2'.out (.bool false) (.slice A1 0 c1) (.string ⟨#[115]⟩) (.bool true) (.string noS)
    obtain ⟨s2, F2⟩ := set5 (K3'.out.frm F1 n32) (.bool false) (.slice A2 1 c2) (.string ⟨#[116]⟩) (.bool false) (.string noS)
    obtain ⟨s3, F3⟩ := set5 ((K4'.out.frm F1 n42).frm F2 n43) (.bool true) (.slice A3 0 c3) (.string ⟨#[115]⟩) (.bool false) (.string noS)
    have q2 := (s1.frm F2 n23).frm F3 n24
    have q3 := s2.frm F3 n34
    have nt : ∀ {wx : World} {t : Nat} {cs : List Value} {v : Value} {m : Nat} {xs : List Value}, wx.ownsRow w2.heap.size 36 7 v m xs → Blk wx t 30 cs → ∀ k, v.ownBlock = some k → ¬ k = t := fun ho hb k hk e => by
      obtain ⟨cs', hbk⟩ := own_at ho hk
      exact hbk.ne hb (by decide) e
    have oW1 := own_frm O2.out F1 (nt O2.out K2'.out)
    have oW2 := own_frm oW1 F2 (nt oW1 (K3'.out.frm F1 n32))
    have oW3 := own_frm oW2 F3 (nt oW2 ((K4'.out.frm F1 n42).frm F2 n43))
    have BW : Below w2.heap.size w2 (((((((((((((((w'.setCell ⟨t2, 0, none⟩ (.bool false)).setCell ⟨t2, 1, none⟩ (.slice A1 0 c1)).setCell ⟨t2, 2, none⟩ (.string ⟨#[115]⟩)).setCell ⟨t2, 3, none⟩ (.bool true)).setCell ⟨t2, 4, none⟩ (.string noS)).setCell ⟨t3, 0, none⟩ (.bool false)).setCell ⟨t3, 1, none⟩ (.slice A2 1 c2)).setCell ⟨t3, 2, none⟩ (.string ⟨#[116]⟩)).setCell ⟨t3, 3, none⟩ (.bool false)).setCell ⟨t3, 4, none⟩ (.string noS)).setCell ⟨t4, 0, none⟩ (.bool true)).setCell ⟨t4, 1, none⟩ (.slice A3 0 c3)).setCell ⟨t4, 2, none⟩ (.string ⟨#[115]⟩)).setCell ⟨t4, 3, none⟩ (.bool false)).setCell ⟨t4, 4, none⟩ (.string noS)) := by
      obtain ⟨z2, z3, z4⟩ := HT.out
      exact ((BE.out.trans (F1.below BE.out.size (fun k hk => by omega))).trans (F2.below (by have := BE.out.size; have := F1.size; omega) (fun k hk => by omega))).trans (F3.below (by have := BE.out.size; have := F1.size; have := F2.size; omega) (fun k hk => by omega))
    clear F1 F2 F3 s1 s2 oW1 oW2 nt e2 f2 e3 f3 e4 f4 K2' K3' K4' O2 C2
    generalize (((((((((((((((w'.setCell ⟨t2, 0, none⟩ (.bool false)).setCell ⟨t2, 1, none⟩ (.slice A1 0 c1)).setCell ⟨t2, 2, none⟩ (.string ⟨#[115]⟩)).setCell ⟨t2, 3, none⟩ (.bool true)).setCell ⟨t2, 4, none⟩ (.string noS)).setCell ⟨t3, 0, none⟩ (.bool false)).setCell ⟨t3, 1, none⟩ (.slice A2 1 c2)).setCell ⟨t3, 2, none⟩ (.string ⟨#[116]⟩)).setCell ⟨t3, 3, none⟩ (.bool false)).setCell ⟨t3, 4, none⟩ (.string noS)).setCell ⟨t4, 0, none⟩ (.bool true)).setCell ⟨t4, 1, none⟩ (.slice A3 0 c3)).setCell ⟨t4, 2, none⟩ (.string ⟨#[115]⟩)).setCell ⟨t4, 3, none⟩ (.bool false)).setCell ⟨t4, 4, none⟩ (.string noS)) = W at *
    obtain ⟨b, off, hA, _, hc⟩ := cells_at (sz := 7) (i := 0) (x := ⟨1, ⟨#[97]⟩, ⟨#[]⟩, ⟨#[120]⟩, 2, 4, 0⟩) (fun _ => rfl) (by decide) (own_cells oW3) rfl
    have c0 : W.cell? ⟨b, off, none⟩ = some (.int .i64 1) := hc 0 (by decide) _ rfl
    have c1' : W.cell? ⟨b, off + 1, none⟩ = some (.string ⟨#[97]⟩) := hc 1 (by decide) _ rfl
    have c2' : W.cell? ⟨b, off + 2, none⟩ = some (.string ⟨#[]⟩) := hc 2 (by decide) _ rfl
    have c3' : W.cell? ⟨b, off + 3, none⟩ = some (.string ⟨#[120]⟩) := hc 3 (by decide) _ rfl
    have c4' : W.cell? ⟨b, off + 4, none⟩ = some (.int .i64 2) := hc 4 (by decide) _ rfl
    have c5' : W.cell? ⟨b, off + 5, none⟩ = some (.int .i64 4) := hc 5 (by decide) _ rfl
    have c6' : W.cell? ⟨b, off + 6, none⟩ = some (.int .i64 0) := hc 6 (by decide) _ rfl
    subst hA
    have e2 := q2.cell
    have e3 := q3.cell
    have e4 := s3.cell
    have BWH := Troupe.hid BW
    clear hc BW q2 q3 s3 oW3
    refine (slot_any ⟨#[99]⟩ W).mono ?_
    rintro e wz ⟨rfl, rfl⟩
    have sl : slotV ⟨#[99]⟩ = 2 := by kernel_rfl
    rw [sl]
    clear sl
    have wb1 : whoV ⟨#[98]⟩ 1 2 3 [7, 8] = 8 := by kernel_rfl
    have wc1 : whoV ⟨#[99]⟩ 1 2 3 [7, 8] = 0 := by kernel_rfl
    have ws1 : whoV ⟨#[115, 101, 110, 100, 101, 114]⟩ 1 2 3 [] = 2 := by kernel_rfl
    have WB1 := Troupe.hid wb1
    have WC1 := Troupe.hid wc1
    have WS1 := Troupe.hid ws1
    clear wb1 wc1 ws1
    go_wp2_with fail
    have k5 : Blk (wz.alloc (.cells #[.int .i64 7, .int .i64 8] 3)) wz.heap.size 3 [.int .i64 7, .int .i64 8] := Blk.new _ _ _
    refine (who_any ⟨#[98]⟩ 1 2 3 (some ⟨wz.heap.size, 0, none⟩) 2 2 [7, 8] rfl (wz.alloc (.cells #[.int .i64 7, .int .i64 8] 3)) (k5.blk_cells.mono k5.lt)).mono ?_
    rintro e wy ⟨rfl, rfl⟩
    rw [WB1.out]
    clear k5
    go_wp2_with fail
    have k6 := Blk.new (wz.alloc (.cells #[.int .i64 7, .int .i64 8] 3)) 3 [.int .i64 7, .int .i64 8]
    have b6 : Below wz.heap.size wz ((wz.alloc (.cells #[.int .i64 7, .int .i64 8] 3)).alloc (.cells #[.int .i64 7, .int .i64 8] 3)) := ((Below.refl _ _).alloc (Nat.le_refl _) _).alloc (by simp) _
    have BZ := Troupe.hid (B2.out.trans ((BWH.out.mono B2.out.size).trans (b6.mono (Nat.le_trans B2.out.size BWH.out.size))))
    rw [show (wz.alloc (.cells #[.int .i64 7, .int .i64 8] 3)).heap.size = wz.heap.size + 1 by simp] at k6
    refine (who_any ⟨#[99]⟩ 1 2 3 (some ⟨wz.heap.size + 1, 0, none⟩) 2 2 [7, 8] rfl _ (k6.blk_cells.mono k6.lt)).mono ?_
    rintro e wy ⟨rfl, rfl⟩
    rw [WC1.out]
    clear k6 b6
    go_wp2_with fail
    refine (who_any ⟨#[115, 101, 110, 100, 101, 114]⟩ 1 2 3 none 0 0 [] rfl _ (Cells.nil _ _ _)).mono ?_
    rintro e wy ⟨rfl, rfl⟩
    rw [WS1.out]
    go_wp2_with fail
    go_ret
    exact ⟨rfl, BZ.out⟩
  · intro w6 hh o1 o2 o3
    have F6 : Below w2.heap.size w2 w6 := (Frm.of_heap (S := fun _ => False) hh o1 o2 o3).below (Nat.le_refl _) (fun _ h => h.elim)
    clear hh o1 o2 o3
    refine ⟨Cls.of F6, ?_⟩
    simp only [pick, List.getElem?_cons_succ, List.getElem?_cons_zero]
    repeat (refine wpReads_step (fun K hK => ?_); go_simp; refine hK _ ?_; clear hK K)
    refine wpReads_nil ?_
    change inv w2 g _ (setAll [0, 2, 4] (Array.replicate 12 false)) _ _
    exact ⟨undef, undef, undef, undef, undef, undef, rfl, F6, by decide, (fun h => absurd h (by decide)), (fun h => absurd h (by decide)), (fun h => absurd h (by decide)), (fun h => absurd h (by decide)), (fun h => absurd h (by decide)), (fun h => absurd h (by decide)), (fun h => absurd h (by decide)), (fun h => absurd h (by decide)), (fun h => absurd h (by decide))⟩
end Go.Proofs.Ytfeeajodgcdflaa
