/- Whole kinds, with their cases: as Lean data, and how they lie in cells; slices.IndexFunc at kinds, slices.Clone at cases, states and rows, by contracts. -/
import Derived.Test.YtkjjhndccelbcaaDo
namespace Go.Proofs.Ytkjjhndccelbcaa
open Go.RowKit Go.Maps Go.Troupe

structure Cs where
  reason : ByteArray
  d : Int
def Cs.cells (c : Cs) : List Value := [.string c.reason, .int .i64 c.d]
def flatC (l : List Cs) : List Value := l.flatMap Cs.cells
theorem flatC_length (l : List Cs) : (flatC l).length = l.length * 2 := by
  induction l with
  | nil => rfl
  | cons x l ih => simp [flatC, Cs.cells] at ih ⊢; omega
theorem one_cases (l : List Cs) : ∀ u ∈ flatC l, u.oneCell' = true := by
  intro u hu
  obtain ⟨x, _, h⟩ := List.mem_flatMap.1 hu
  simp [Cs.cells] at h
  rcases h with rfl | rfl <;> rfl
theorem one_rows (l : List Rw) : ∀ u ∈ flatR l, u.oneCell' = true := by
  intro u hu
  obtain ⟨x, _, h⟩ := List.mem_flatMap.1 hu
  simp [Rw.cells] at h
  rcases h with rfl | rfl | rfl | rfl <;> rfl
theorem one_states (l : List St) : ∀ u ∈ flatS l, u.oneCell' = true := by
  intro u hu
  obtain ⟨x, _, h⟩ := List.mem_flatMap.1 hu
  simp [St.cells] at h
  rcases h with rfl | rfl <;> rfl
theorem info60 : (Try.prog.info? 60).map (fun i => (i.zero, i.size, i.bytes)) = some (some (.agg #[.string ⟨#[]⟩, .bool false, .int .i64 0, .slice none 0 0]), 4, 56) := by kernel_rfl
theorem info63 : (Try.prog.info? 63).map (fun i => (i.zero, i.size, i.bytes)) = some (some (.agg #[.string ⟨#[]⟩, .slice none 0 0]), 2, 40) := by kernel_rfl
theorem info103 : (Try.prog.info? 103).map (fun i => (i.zero, i.size, i.bytes)) = some (some (.agg #[.string ⟨#[]⟩, .int .i64 0]), 2, 24) := by kernel_rfl
/-- A whole kind. -/
structure Kf where
  name : ByteArray
  limit : Int
  within : Int
  cases : List Cs
  Ac : Option Addr
  cc : Nat
  sts : List St
  A : Option Addr
  cap : Nat
def Kf.cells (k : Kf) : List Value := [.string k.name, .int .i64 k.limit, .int .i64 k.within, .slice k.Ac k.cases.length k.cc, .slice k.A k.sts.length k.cap]
def Kf.val (k : Kf) : Value := .agg #[.string k.name, .int .i64 k.limit, .int .i64 k.within, .slice k.Ac k.cases.length k.cc, .slice k.A k.sts.length k.cap]
def Kf.kd (k : Kf) : Kd := ⟨k.name, k.limit, k.within, k.Ac, k.cases.length, k.cc, k.A, k.cap, k.sts⟩
def flatK (l : List Kf) : List Value := l.flatMap Kf.cells
theorem flatK_length (l : List Kf) : (flatK l).length = l.length * 5 := by
  induction l with
  | nil => rfl
  | cons x l ih => simp [flatK, Kf.cells] at ih ⊢; omega
def StF (w : World) (B : Nat) (s : St) : Prop := Cells w B s.A (flatR s.rows) ∧ (s.A = none → s.cap = 0) ∧ RowsIn w B s.rows ∧ s.rows.length * 56 ≤ 140737488355328
def KfIn (w : World) (B : Nat) (k : Kf) : Prop :=
  (Cells w B k.Ac (flatC k.cases) ∧ (k.Ac = none → k.cc = 0) ∧ k.cases.length * 24 ≤ 140737488355328) ∧
    Cells w B k.A (flatS k.sts) ∧ (k.A = none → k.cap = 0) ∧ (∀ s ∈ k.sts, StF w B s) ∧ k.sts.length * 40 ≤ 140737488355328
def KindsIn (w : World) (B : Nat) (l : List Kf) : Prop := ∀ k ∈ l, KfIn w B k
section
variable {w w' : World} {B B' : Nat}
theorem StF.below {s : St} (h : StF w B s) (hb : Below B w w') : StF w' B s := ⟨h.1.below hb, h.2.1, h.2.2.1.below hb, h.2.2.2⟩
theorem StF.mono {s : St} (h : StF w B s) (hb : B ≤ B') : StF w B' s := ⟨h.1.mono hb, h.2.1, h.2.2.1.mono hb, h.2.2.2⟩
theorem KfIn.below {k : Kf} (h : KfIn w B k) (hb : Below B w w') : KfIn w' B k := ⟨⟨h.1.1.below hb, h.1.2⟩, h.2.1.below hb, h.2.2.1, fun s hs => (h.2.2.2.1 s hs).below hb, h.2.2.2.2⟩
theorem KfIn.mono {k : Kf} (h : KfIn w B k) (hb : B ≤ B') : KfIn w B' k := ⟨⟨h.1.1.mono hb, h.1.2⟩, h.2.1.mono hb, h.2.2.1, fun s hs => (h.2.2.2.1 s hs).mono hb, h.2.2.2.2⟩
theorem KindsIn.below {l : List Kf} (h : KindsIn w B l) (hb : Below B w w') : KindsIn w' B l := fun k hk => (h k hk).below hb
theorem KindsIn.mono {l : List Kf} (h : KindsIn w B l) (hb : B ≤ B') : KindsIn w B' l := fun k hk => (h k hk).mono hb
theorem KfIn.kd {k : Kf} (h : KfIn w B k) : KindIn w B k.kd := ⟨h.2.1, fun s hs => ⟨(h.2.2.2.1 s hs).1, (h.2.2.2.1 s hs).2.2.1, (h.2.2.2.1 s hs).2.2.2⟩, by have := h.2.2.2.2; unfold Kf.kd; dsimp only; omega⟩
theorem none_len {w : World} {B n c : Nat} {A : Option Addr} {xs : List Value} {sz : Nat} (hsz : 0 < sz) (h : Cells w B A xs) (hl : xs.length = n * sz) (hc : A = none → c = 0) : A = none → n = 0 ∧ c = 0 := by
  intro e
  refine ⟨?_, hc e⟩
  rcases h with h | ⟨_, _, h, _⟩
  · rw [h] at hl
    rcases Nat.eq_zero_or_pos n with h0 | h0
    · exact h0
    · have := Nat.mul_pos h0 hsz
      simp at hl
      omega
  · rw [e] at h; cases h
end
def kindV (want : ByteArray) (x : Kf) : Bool := x.name.toList == want.toList
theorem closK_any (x : Kf) (want : ByteArray) (g : Nat) (w : World) (h : w.cell? ⟨g, 0, none⟩ = some (.string want)) :
    Calls Try.prog 59 #[.agg #[.string x.name, .int .i64 x.limit, .int .i64 x.within, .slice x.Ac x.cases.length x.cc, .slice x.A x.sts.length x.cap], .pointer (some ⟨g, 0, none⟩)] w fun e w' => e = .returned (.bool (kindV want x)) ∧ Below w.heap.size w w' := by
  unfold kindV
  have hgl := block_lt_of_cell h
  have h' : (w.alloc (.cells #[.string x.name, .int .i64 x.limit, .int .i64 x.within, .slice x.Ac x.cases.length x.cc, .slice x.A x.sts.length x.cap] 67)).cell? ⟨g, 0, none⟩ = some (.string want) := (World.cell?_of_block (Below.heap_alloc _ _ _ hgl)).trans h
  clear h
  go_enter Try.func59, Try.ntmps59
  go_wp2
  go_ret
  exact ⟨rfl, (Below.refl _ _).alloc (Nat.le_refl _) _⟩

def IdxK (w : World) (l : List Kf) (p : Kf → Bool) (e : Ending) (w' : World) : Prop := e = .returned (.int .i64 (idxV l p)) ∧ Below w.heap.size w w'
set_option maxRecDepth 100000 in
theorem indexK_any (want : ByteArray) (g : Nat) (Ad : Option Addr) (n c B : Nat) (l : List Kf) (w : World) (hl : l.length = n) (hn : n ≤ maxLen) (hc : Cells w B Ad (flatK l)) (hB : B ≤ w.heap.size)
    (hg : w.cell? ⟨g, 0, none⟩ = some (.string want)) :
    Calls Try.prog 58 #[.slice Ad n c, .func (.func 59) #[] #[.pointer (some ⟨g, 0, none⟩)]] w (IdxK w l (kindV want)) := by
  have hn' : n ≤ 9223372036854775807 := hn
  have hG := Troupe.hid hg
  have hgl := block_lt_of_cell hg
  clear hg
  have C0 := Troupe.hid hc
  clear hn hc
  go_enter Try.func58, Try.ntmps58
  go_wp2_with fail
  go_loopw [8] (fun i wr => ∃ j : Nat, j ≤ n ∧ i = .int .i64 j ∧ (∀ y ∈ l.take j, (kindV want) y = false) ∧ Below w.heap.size w wr) (fun i _ => n - (intOf i).toNat)
  case atStart => exact ⟨0, Nat.zero_le _, rfl, by simp, Below.refl _ _⟩
  case round =>
    obtain ⟨j, hj, rfl, hno, hb⟩ := hrel
    have NO := Troupe.hid hno
    have HB := Troupe.hid hb
    have C1 := Troupe.hid ((C0.out.mono hB).below hb)
    clear hno hb
    by_cases hlt : j < n
    · obtain ⟨x, hx⟩ : ∃ x, l[j]? = some x := ⟨_, List.getElem?_eq_getElem (by omega)⟩
      obtain ⟨b, off, rfl, _, h1⟩ := cells_at (sz := 5) (fun _ => rfl) (by decide) C1.out hx
      have d0 : wr.cell? ⟨b, off + j * 5, none⟩ = some (.string x.name) := h1 0 (by decide) _ rfl
      have d1 : wr.cell? ⟨b, off + j * 5 + 1, none⟩ = some (.int .i64 x.limit) := h1 1 (by decide) _ rfl
      have d2 : wr.cell? ⟨b, off + j * 5 + 2, none⟩ = some (.int .i64 x.within) := h1 2 (by decide) _ rfl
      have d3 : wr.cell? ⟨b, off + j * 5 + 3, none⟩ = some (.slice x.Ac x.cases.length x.cc) := h1 3 (by decide) _ rfl
      have d4 : wr.cell? ⟨b, off + j * 5 + 4, none⟩ = some (.slice x.A x.sts.length x.cap) := h1 4 (by decide) _ rfl
      have X := Troupe.hid hx
      clear h1 hx
      go_wp2_with fail
      refine (closK_any x want g wr ((HB.out.cell hgl).trans hG.out)).mono ?_
      rintro e w2 ⟨rfl, hb2⟩
      have B2 := Troupe.hid (HB.out.trans (hb2.mono HB.out.size))
      clear hb2 d0 d1 d2 d3 d4
      by_cases hp : (kindV want) x = true
      · rw [hp]
        have FIN := Troupe.hid (idxV_some (p := kindV want) X.out hp NO.out)
        clear hp
        go_wp2_with fail
        go_ret
        exact ⟨by rw [FIN.out]; rfl, B2.out⟩
      · have hp' : (kindV want) x = false := by simpa using hp
        rw [hp']
        have NO2 : Hid (∀ y ∈ l.take (j + 1), (kindV want) y = false) := by
          intro y hy
          rw [List.take_add_one, X.out] at hy
          rcases List.mem_append.1 hy with h | h
          · exact NO.out y h
          · simp at h; subst h; exact hp'
        clear hp hp'
        go_wp2_with fail
        go_roundw
        case rel => exact ⟨j + 1, by omega, by go_num, NO2.out, B2.out⟩
        case measure => simp [intOf]; omega
    · have hall : idxV l (kindV want) = -1 := idxV_none (by have h := NO.out; rwa [List.take_of_length_le (by omega)] at h)
      have FIN := Troupe.hid hall
      clear hall
      go_wp2_with fail
      go_ret
      exact ⟨by rw [FIN.out]; rfl, HB.out⟩

def ClonedC (w : World) (n : Nat) (l : List Cs) (e : Ending) (w' : World) : Prop :=
  ∃ v, e = .returned v ∧ w'.ownsRow w.heap.size 103 2 v n (flatC l) ∧ Below w.heap.size w w'
set_option maxRecDepth 100000 in
theorem cloneC_any (Ad : Option Addr) (n c B : Nat) (l : List Cs) (w : World) (hl : l.length = n) (hn : n * 24 ≤ 140737488355328) (hc : Cells w B Ad (flatC l)) (hA : Ad = none → n = 0 ∧ c = 0) :
    Calls Try.prog 79 #[.slice Ad n c] w (ClonedC w n l) := by
  have hnil := fun W => Lib.run_eql_slice_nil (P := Try.prog) W 65 103 Ad n c 0 0 Try.underlying65
  cases Ad with
  | none =>
    obtain ⟨rfl, rfl⟩ := hA rfl
    obtain rfl : l = [] := List.eq_nil_of_length_eq_zero hl
    simp only [Option.isNone_none] at hnil
    go_enter Try.func79, Try.ntmps79
    go_wp2_with fail
    go_ret
    exact ⟨.slice none 0 0, rfl, World.ownsRow_nil _ _ _ _, Below.refl _ _⟩
  | some ad =>
    simp only [Option.isNone_some] at hnil
    have hblk := Blk.new w 103 []
    have hown : (w.alloc (.cells #[] 103)).ownsRow w.heap.size 103 2 (.slice (some ⟨w.heap.size, 0, none⟩) 0 0) 0 [] := by
      have := blk_own (base := w.heap.size) (n := 0) (cap := 0) (size := 2) hblk (by simp) (Nat.le_refl _) (Nat.le_refl _) (by simp [maxLen])
      simpa using this
    have hc1 : Cells (w.alloc (.cells #[] 103)) B (some ad) (flatC l) := hc.keep fun p _ u hu => by
      rw [← hu]
      exact World.cell?_of_block (Below.heap_alloc _ _ _ (by
        rcases Nat.lt_or_ge p.block w.heap.size with h | h
        · exact h
        · unfold World.cell? at hu; rw [Array.getElem?_eq_none h] at hu; cases hu))
    have OWN := Troupe.hid hown
    have C1 := Troupe.hid hc1
    have LEN : Hid ((flatC l).length = n * 2) := by unfold Hid; rw [flatC_length, hl]
    clear hblk hown hc1 hc
    go_enter Try.func79, Try.ntmps79
    go_wp2_with (at_builtin; refine wpList_app rfl (.tmp 5) (.tmp 6) 65 rfl w.heap.size 103 info103 Try.underlying65 rfl (by decide) (.slice (some ⟨w.heap.size, 0, none⟩) 0 0) 0 [] rfl OWN.out B (some ad) n c (flatC l) rfl LEN.out C1.out (fun h => by cases h) (one_cases _) (by omega) (by unfold maxLen; omega) (by simp) ?_; intro v' w' h'; have H := Troupe.hid h'; clear h')
    go_ret
    refine ⟨v', rfl, ?_, ?_⟩
    · have := H.out.own
      simpa using this
    · refine ((((Below.refl _ _).alloc (Nat.le_refl _) _).trans (H.out.frm.below (by simp) (fun k hk => ?_))))
      simp [Value.ownBlock] at hk
      omega

def ClonedS (w : World) (n : Nat) (l : List St) (e : Ending) (w' : World) : Prop :=
  ∃ v, e = .returned v ∧ w'.ownsRow w.heap.size 63 2 v n (flatS l) ∧ Below w.heap.size w w'
set_option maxRecDepth 100000 in
theorem cloneS_any (Ad : Option Addr) (n c B : Nat) (l : List St) (w : World) (hl : l.length = n) (hn : n * 40 ≤ 140737488355328) (hc : Cells w B Ad (flatS l)) (hA : Ad = none → n = 0 ∧ c = 0) :
    Calls Try.prog 80 #[.slice Ad n c] w (ClonedS w n l) := by
  have hnil := fun W => Lib.run_eql_slice_nil (P := Try.prog) W 64 63 Ad n c 0 0 Try.underlying64
  cases Ad with
  | none =>
    obtain ⟨rfl, rfl⟩ := hA rfl
    obtain rfl : l = [] := List.eq_nil_of_length_eq_zero hl
    simp only [Option.isNone_none] at hnil
    go_enter Try.func80, Try.ntmps80
    go_wp2_with fail
    go_ret
    exact ⟨.slice none 0 0, rfl, World.ownsRow_nil _ _ _ _, Below.refl _ _⟩
  | some ad =>
    simp only [Option.isNone_some] at hnil
    have hblk := Blk.new w 63 []
    have hown : (w.alloc (.cells #[] 63)).ownsRow w.heap.size 63 2 (.slice (some ⟨w.heap.size, 0, none⟩) 0 0) 0 [] := by
      have := blk_own (base := w.heap.size) (n := 0) (cap := 0) (size := 2) hblk (by simp) (Nat.le_refl _) (Nat.le_refl _) (by simp [maxLen])
      simpa using this
    have hc1 : Cells (w.alloc (.cells #[] 63)) B (some ad) (flatS l) := hc.keep fun p _ u hu => by
      rw [← hu]
      exact World.cell?_of_block (Below.heap_alloc _ _ _ (by
        rcases Nat.lt_or_ge p.block w.heap.size with h | h
        · exact h
        · unfold World.cell? at hu; rw [Array.getElem?_eq_none h] at hu; cases hu))
    have OWN := Troupe.hid hown
    have C1 := Troupe.hid hc1
    have LEN : Hid ((flatS l).length = n * 2) := by unfold Hid; rw [flatS_length, hl]
    clear hblk hown hc1 hc
    go_enter Try.func80, Try.ntmps80
    go_wp2_with (at_builtin; refine wpList_app rfl (.tmp 5) (.tmp 6) 64 rfl w.heap.size 63 info63 Try.underlying64 rfl (by decide) (.slice (some ⟨w.heap.size, 0, none⟩) 0 0) 0 [] rfl OWN.out B (some ad) n c (flatS l) rfl LEN.out C1.out (fun h => by cases h) (one_states _) (by omega) (by unfold maxLen; omega) (by simp) ?_; intro v' w' h'; have H := Troupe.hid h'; clear h')
    go_ret
    refine ⟨v', rfl, ?_, ?_⟩
    · have := H.out.own
      simpa using this
    · refine ((((Below.refl _ _).alloc (Nat.le_refl _) _).trans (H.out.frm.below (by simp) (fun k hk => ?_))))
      simp [Value.ownBlock] at hk
      omega

def ClonedR (w : World) (n : Nat) (l : List Rw) (e : Ending) (w' : World) : Prop :=
  ∃ v, e = .returned v ∧ w'.ownsRow w.heap.size 60 4 v n (flatR l) ∧ Below w.heap.size w w'
set_option maxRecDepth 100000 in
theorem cloneR_any (Ad : Option Addr) (n c B : Nat) (l : List Rw) (w : World) (hl : l.length = n) (hn : n * 56 ≤ 140737488355328) (hc : Cells w B Ad (flatR l)) (hA : Ad = none → n = 0 ∧ c = 0) :
    Calls Try.prog 81 #[.slice Ad n c] w (ClonedR w n l) := by
  have hnil := fun W => Lib.run_eql_slice_nil (P := Try.prog) W 61 60 Ad n c 0 0 Try.underlying61
  cases Ad with
  | none =>
    obtain ⟨rfl, rfl⟩ := hA rfl
    obtain rfl : l = [] := List.eq_nil_of_length_eq_zero hl
    simp only [Option.isNone_none] at hnil
    go_enter Try.func81, Try.ntmps81
    go_wp2_with fail
    go_ret
    exact ⟨.slice none 0 0, rfl, World.ownsRow_nil _ _ _ _, Below.refl _ _⟩
  | some ad =>
    simp only [Option.isNone_some] at hnil
    have hblk := Blk.new w 60 []
    have hown : (w.alloc (.cells #[] 60)).ownsRow w.heap.size 60 4 (.slice (some ⟨w.heap.size, 0, none⟩) 0 0) 0 [] := by
      have := blk_own (base := w.heap.size) (n := 0) (cap := 0) (size := 4) hblk (by simp) (Nat.le_refl _) (Nat.le_refl _) (by simp [maxLen])
      simpa using this
    have hc1 : Cells (w.alloc (.cells #[] 60)) B (some ad) (flatR l) := hc.keep fun p _ u hu => by
      rw [← hu]
      exact World.cell?_of_block (Below.heap_alloc _ _ _ (by
        rcases Nat.lt_or_ge p.block w.heap.size with h | h
        · exact h
        · unfold World.cell? at hu; rw [Array.getElem?_eq_none h] at hu; cases hu))
    have OWN := Troupe.hid hown
    have C1 := Troupe.hid hc1
    have LEN : Hid ((flatR l).length = n * 4) := by unfold Hid; rw [flatR_length, hl]
    clear hblk hown hc1 hc
    go_enter Try.func81, Try.ntmps81
    go_wp2_with (at_builtin; refine wpList_app rfl (.tmp 5) (.tmp 6) 61 rfl w.heap.size 60 info60 Try.underlying61 rfl (by decide) (.slice (some ⟨w.heap.size, 0, none⟩) 0 0) 0 [] rfl OWN.out B (some ad) n c (flatR l) rfl LEN.out C1.out (fun h => by cases h) (one_rows _) (by omega) (by unfold maxLen; omega) (by simp) ?_; intro v' w' h'; have H := Troupe.hid h'; clear h')
    go_ret
    refine ⟨v', rfl, ?_, ?_⟩
    · have := H.out.own
      simpa using this
    · refine ((((Below.refl _ _).alloc (Nat.le_refl _) _).trans (H.out.frm.below (by simp) (fun k hk => ?_))))
      simp [Value.ownBlock] at hk
      omega
end Go.Proofs.Ytkjjhndccelbcaa
