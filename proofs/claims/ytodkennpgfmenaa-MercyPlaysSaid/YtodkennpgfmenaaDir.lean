/- Directive, and the reference's. -/
import Derived.Test.YtodkennpgfmenaaCases
namespace Go.Proofs.Ytodkennpgfmenaa
open Go.RowKit Go.Maps Go.Troupe

def noS : ByteArray := ⟨#[]⟩
def same (want : ByteArray) (x : Case) : Bool := x.r.toList == want.toList
def fst (l : List Case) (want : ByteArray) : Option Int := (l.find? (same want)).map (·.d)
def dirC (l : List Case) (r : ByteArray) : Int := (fst l r).getD ((fst l noS).getD 3)
theorem fst_none {l : List Case} {want : ByteArray} (h : ∀ x ∈ l, same want x = false) : fst l want = none := by
  unfold fst
  rw [List.find?_eq_none.2 (fun x hx => by simp [h x hx])]; rfl
theorem find_at {l : List Case} {p : Case → Bool} {i : Nat} {x : Case} (hx : l[i]? = some x) (h : p x = true) (hl : ∀ y ∈ l.take i, p y = false) : l.find? p = some x := by
  induction l generalizing i with
  | nil => simp at hx
  | cons y l ih =>
    cases i with
    | zero => simp at hx; subst hx; simp [h]
    | succ i =>
      have h0 : p y = false := hl y (by simp)
      rw [List.find?_cons, h0]
      exact ih (by simpa using hx) (fun z hz => hl z (by simp [hz]))
theorem fst_some {l : List Case} {want : ByteArray} {i : Nat} {x : Case} (hx : l[i]? = some x) (h : same want x = true) (hl : ∀ y ∈ l.take i, same want y = false) : fst l want = some x.d := by
  unfold fst; rw [find_at hx h hl]; rfl

def kindV (A : Option Addr) (n c : Nat) : Value := .agg #[.string noS, .int .i64 0, .int .i64 0, .slice A n c, .slice none 0 0]
def Dir (l : List Case) (r : ByteArray) (w : World) (e : Ending) (w' : World) : Prop := e = .returned (.int .i64 (dirC l r)) ∧ Below w.heap.size w w'
set_option maxRecDepth 100000 in
set_option maxHeartbeats 400000 in
theorem directive_any (r : ByteArray) (Ad : Option Addr) (n c : Nat) (l : List Case) (w : World) (hl : l.length = n) (hn : n ≤ maxLen) (hc : Cells w w.heap.size Ad (flatC l)) :
    Calls Try.prog 9 #[.agg #[.string ⟨#[]⟩, .int .i64 0, .int .i64 0, .slice Ad n c, .slice none 0 0], .string r] w (Dir l r w) := by
  have hn' : n ≤ 9223372036854775807 := hn
  have HN := Troupe.hid hn
  have C0 := Troupe.hid hc
  clear hc hn
  go_enter Try.func9, Try.ntmps9
  have B1 : Blk (w.alloc (.cells #[.string ⟨#[]⟩, .int .i64 0, .int .i64 0, .slice Ad n c, .slice none 0 0] 26)) w.heap.size 26 [.string ⟨#[]⟩, .int .i64 0, .int .i64 0, .slice Ad n c, .slice none 0 0] := Blk.new _ _ _
  have B2 : Blk ((w.alloc (.cells #[.string ⟨#[]⟩, .int .i64 0, .int .i64 0, .slice Ad n c, .slice none 0 0] 26)).alloc (.cells #[.string r, .string ⟨#[]⟩] 9)) (w.heap.size + 1) 9 [.string r, .string ⟨#[]⟩] := by simpa using Blk.new (w.alloc (.cells #[.string ⟨#[]⟩, .int .i64 0, .int .i64 0, .slice Ad n c, .slice none 0 0] 26)) 9 [.string r, .string ⟨#[]⟩]
  have BB : Below w.heap.size w ((w.alloc (.cells #[.string ⟨#[]⟩, .int .i64 0, .int .i64 0, .slice Ad n c, .slice none 0 0] 26)).alloc (.cells #[.string r, .string ⟨#[]⟩] 9)) := ((Below.refl _ _).alloc (Nat.le_refl _) _).alloc (by simp) _
  have K1 := Troupe.hid (B1.alloc (.cells #[.string r, .string ⟨#[]⟩] 9))
  have K2 := Troupe.hid B2
  have KB := Troupe.hid BB
  clear B1 B2 BB
  have hs : ((w.alloc (.cells #[.string ⟨#[]⟩, .int .i64 0, .int .i64 0, .slice Ad n c, .slice none 0 0] 26)).alloc (.cells #[.string r, .string ⟨#[]⟩] 9)).heap.size = w.heap.size + 2 := by simp
  have HS := Troupe.hid hs
  clear hs
  go_wp2_with fail
  generalize (w.alloc (.cells #[.string ⟨#[]⟩, .int .i64 0, .int .i64 0, .slice Ad n c, .slice none 0 0] 26)).alloc (.cells #[.string r, .string ⟨#[]⟩] 9) = w2 at *
  go_loopw [11] (fun i wr => ∃ j : Nat, j ≤ 2 ∧ i = .int .i64 j ∧ (1 ≤ j → fst l r = none) ∧ (2 ≤ j → fst l noS = none) ∧ Below w2.heap.size w2 wr) (fun i _ => 2 - (intOf i).toNat)
  case atStart => exact ⟨0, by omega, rfl, fun h => by omega, fun h => by omega, Below.refl _ _⟩
  case round =>
    obtain ⟨j, hj, rfl, h1, h2, hb⟩ := hrel
    have H1 := Troupe.hid h1
    have H2 := Troupe.hid h2
    have HB := Troupe.hid hb
    have C1 := Troupe.hid (C0.out.below (KB.out.trans (hb.mono KB.out.size)))
    have R1 := Troupe.hid (K1.out.below hb K1.out.lt)
    have R2 := Troupe.hid (K2.out.below hb K2.out.lt)
    clear h1 h2 hb
    by_cases hlt : j < 2
    · obtain ⟨want, hw1, hw2, hw3⟩ : ∃ want, [Value.string r, .string ⟨#[]⟩][j]? = some (.string want) ∧ (j = 0 → want = r) ∧ (j = 1 → want = noS) := by
        match j, hlt with
        | 0, _ => exact ⟨r, rfl, fun _ => rfl, fun h => by omega⟩
        | 1, _ => exact ⟨noS, rfl, fun h => by omega, fun _ => rfl⟩
      have c0 : wr.cell? ⟨w.heap.size + 1, j, none⟩ = some (.string want) := (R2.out.cell j).trans hw1
      have W2 := Troupe.hid hw2
      have W3 := Troupe.hid hw3
      have hsz := HB.out.size
      have HSZ := Troupe.hid hsz
      have e3 : (wr.alloc (.cells #[.string want] 9)).cell? ⟨w.heap.size, 3, none⟩ = some (.slice Ad n c) := (R1.out.alloc _).cell 3
      have R3 := Troupe.hid (R1.out.alloc (.cells #[.string want] 9))
      have CC := Troupe.hid (C1.out.below (((Below.refl _ _).alloc (by have := HS.out; have := HSZ.out; omega) (.cells #[.string want] 9)) : Below w.heap.size wr _))
      have e4 : Hid ((wr.alloc (.cells #[.string want] 9)).cell? ⟨wr.heap.size, 0, none⟩ = some (.string want)) := (Blk.new wr 9 [.string want]).cell 0
      have HB3 := Troupe.hid (HB.out.alloc HSZ.out (.cells #[.string want] 9))
      have hs3 : (wr.alloc (.cells #[.string want] 9)).heap.size = wr.heap.size + 1 := by simp
      have HS3 := Troupe.hid hs3
      clear hw1 hw2 hw3 hsz hs3
      go_wp2_with fail
      generalize wr.alloc (.cells #[.string want] 9) = w3 at *
      refine (indexFuncC_any want wr.heap.size Ad n c w.heap.size l w3 hl HN.out CC.out (by have := HB3.out.size; have := HS.out; omega) e4.out).mono ?_
      rintro e w4 ⟨rfl, hb4⟩
      have R4 := Troupe.hid (R3.out.below hb4 R3.out.lt)
      have C4 := Troupe.hid (CC.out.below (hb4.mono (by have := HB3.out.size; have := HS.out; omega)))
      have HB4 := Troupe.hid (HB3.out.trans (hb4.mono HB3.out.size))
      clear hb4 e3 c0
      rcases idxC_cases l (fun x => x.r.toList == want.toList) with ⟨h1, h2⟩ | ⟨i, x, h1, hx, hp, hno⟩
      · rw [h1]
        have N1 := Troupe.hid (fst_none (want := want) h2)
        clear h1 h2
        go_wp2_with fail
        go_roundw
        case rel =>
          refine ⟨j + 1, by omega, by go_num, fun h => ?_, fun h => ?_, HB4.out⟩
          · rcases Nat.eq_zero_or_pos j with h0 | h0
            · rw [← W2.out h0]; exact N1.out
            · exact H1.out h0
          · have h0 : j = 1 := by omega
            rw [← W3.out h0]; exact N1.out
        case measure => simp [intOf]; omega
      · rw [h1]
        have S1 := Troupe.hid (fst_some (want := want) hx hp hno)
        obtain ⟨q0, q1⟩ := flatC_at l i x hx
        obtain ⟨b, off, hA, _, hcell⟩ := C4.out.at_ (by intro e; have := congrArg List.length e; rw [flatC_length] at this; have := (List.getElem?_eq_some_iff.1 hx).1; simp at *; omega)
        subst hA
        have c1 : w4.cell? ⟨b, off + i * 2 + 1, none⟩ = some (.int .i64 x.d) := by rw [Nat.add_assoc]; exact hcell _ _ q1
        have hin : i < n := by have := (List.getElem?_eq_some_iff.1 hx).1; omega
        have e3 : w4.cell? ⟨w.heap.size, 3, none⟩ = some (.slice (some ⟨b, off, none⟩) n c) := R4.out.cell 3
        have hge : decide ((i : Int) ≥ 0) = true := by simp
        clear h1 hx hp hno q0 q1 hcell
        go_wp2_with fail
        go_ret
        refine ⟨?_, KB.out.trans (HB4.out.mono KB.out.size)⟩
        have hd : dirC l r = x.d := by
          unfold dirC
          rcases Nat.eq_zero_or_pos j with h0 | h0
          · rw [← W2.out h0, S1.out]; rfl
          · rw [H1.out h0, ← W3.out (by omega), S1.out]; rfl
        rw [hd]; rfl
    · have F1 := Troupe.hid (H1.out (by omega))
      have F2 := Troupe.hid (H2.out (by omega))
      go_wp2_with fail
      go_ret
      refine ⟨?_, KB.out.trans (HB.out.mono KB.out.size)⟩
      unfold dirC
      rw [F1.out, F2.out]; rfl

set_option maxRecDepth 100000 in
set_option maxHeartbeats 400000 in
theorem refDirective_any (r : ByteArray) (Ad : Option Addr) (n c : Nat) (l : List Case) (w : World) (hl : l.length = n) (hn : n ≤ maxLen) (hc : Cells w w.heap.size Ad (flatC l)) :
    Calls Try.prog 10 #[.agg #[.string ⟨#[]⟩, .int .i64 0, .int .i64 0, .slice Ad n c, .slice none 0 0], .string r] w (Dir l r w) := by
  have hn' : n ≤ 9223372036854775807 := hn
  have B1 : Blk (w.alloc (.cells #[.string ⟨#[]⟩, .int .i64 0, .int .i64 0, .slice Ad n c, .slice none 0 0] 26)) w.heap.size 26 [.string ⟨#[]⟩, .int .i64 0, .int .i64 0, .slice Ad n c, .slice none 0 0] := Blk.new _ _ _
  have BB : Below w.heap.size w (w.alloc (.cells #[.string ⟨#[]⟩, .int .i64 0, .int .i64 0, .slice Ad n c, .slice none 0 0] 26)) := (Below.refl _ _).alloc (Nat.le_refl _) _
  have C0 := Troupe.hid (hc.below BB)
  have e0 : (w.alloc (.cells #[.string ⟨#[]⟩, .int .i64 0, .int .i64 0, .slice Ad n c, .slice none 0 0] 26)).cell? ⟨w.heap.size, 3, none⟩ = some (.slice Ad n c) := B1.cell 3
  have KB := Troupe.hid BB
  have AT : Hid (∀ i x, l[i]? = some x → ∃ b off, Ad = some ⟨b, off, none⟩ ∧ (w.alloc (.cells #[.string ⟨#[]⟩, .int .i64 0, .int .i64 0, .slice Ad n c, .slice none 0 0] 26)).cell? ⟨b, off + i * 2, none⟩ = some (.string x.r) ∧ (w.alloc (.cells #[.string ⟨#[]⟩, .int .i64 0, .int .i64 0, .slice Ad n c, .slice none 0 0] 26)).cell? ⟨b, off + i * 2 + 1, none⟩ = some (.int .i64 x.d)) := by
    intro i x hx
    obtain ⟨q0, q1⟩ := flatC_at l i x hx
    obtain ⟨b, off, hA, _, hcell⟩ := C0.out.at_ (by intro e; have := congrArg List.length e; rw [flatC_length] at this; have := (List.getElem?_eq_some_iff.1 hx).1; simp at *; omega)
    exact ⟨b, off, hA, hcell _ _ q0, by rw [Nat.add_assoc]; exact hcell _ _ q1⟩
  have STEP : Hid (∀ (want : ByteArray) (j : Nat) (x : Case), l[j]? = some x → (∀ y ∈ l.take j, same want y = false) → same want x = false → ∀ y ∈ l.take (j + 1), same want y = false) := by
    intro want j x hx hno hp y hy
    rw [List.take_add_one, hx] at hy
    rcases List.mem_append.1 hy with h | h
    · exact hno y h
    · simp at h; subst h; exact hp
  clear hc hn B1 BB C0
  go_enter Try.func10, Try.ntmps10
  go_upto_block 0 with (fail)
  generalize w.alloc (.cells #[.string ⟨#[]⟩, .int .i64 0, .int .i64 0, .slice Ad n c, .slice none 0 0] 26) = w2 at *
  go_cut [5] from 7 to 27 (fun _ w' => fst l r = none ∧ w' = w2)
  case first =>
    go_wp2_with fail
    go_loopw [5] (fun i wr => ∃ j : Nat, j ≤ n ∧ i = .int .i64 j ∧ (∀ y ∈ l.take j, same r y = false) ∧ wr = w2) (fun i _ => n - (intOf i).toNat)
    case atStart => exact ⟨0, by omega, rfl, by simp, rfl⟩
    case round =>
      obtain ⟨j, hj, rfl, hno, hw⟩ := hrel
      obtain rfl := hw.symm
      have NO := Troupe.hid hno
      clear hno
      by_cases hlt : j < n
      · obtain ⟨x, hx⟩ : ∃ x, l[j]? = some x := ⟨_, List.getElem?_eq_getElem (by omega)⟩
        obtain ⟨b, off, hA, c0, c1⟩ := AT.out j x hx
        have X := Troupe.hid hx
        subst hA
        clear hx
        cases hp : (x.r.toList == r.toList)
        · have N2 := Troupe.hid (STEP.out r j x X.out NO.out hp)
          go_wp2_with fail
          go_roundw
          case rel => exact ⟨j + 1, by omega, by go_num, N2.out, by trivial⟩
          case measure => simp [intOf]; omega
        · have FIN := Troupe.hid (fst_some (want := r) X.out hp NO.out)
          go_wp2_with fail
          go_ret
          exact ⟨by unfold dirC; rw [FIN.out]; rfl, KB.out⟩
      · have N1 := Troupe.hid (fst_none (want := r) (by have h := NO.out; rwa [List.take_of_length_le (by omega)] at h))
        clear NO
        go_wp2_with fail
        go_meet
        case rel => exact ⟨N1.out, by trivial⟩
  case rest =>
    obtain ⟨hn1, hw⟩ := hcut
    obtain rfl := hw.symm
    have N1 := Troupe.hid hn1
    clear hn1
    go_wp2_with fail
    go_loopw [6] (fun i wr => ∃ j : Nat, j ≤ n ∧ i = .int .i64 j ∧ (∀ y ∈ l.take j, same noS y = false) ∧ wr = w2) (fun i _ => n - (intOf i).toNat)
    case atStart => exact ⟨0, by omega, rfl, by simp, rfl⟩
    case round =>
      obtain ⟨j2, hj2, rfl, hno, hw⟩ := hrel
      obtain rfl := hw.symm
      have NO := Troupe.hid hno
      clear hno
      by_cases hlt2 : j2 < n
      · obtain ⟨x, hx⟩ : ∃ x, l[j2]? = some x := ⟨_, List.getElem?_eq_getElem (by omega)⟩
        obtain ⟨b, off, hA, c0, c1⟩ := AT.out j2 x hx
        have X := Troupe.hid hx
        subst hA
        clear hx
        have hq : (x.r.toList == (ByteArray.mk #[]).toList) = x.r.toList.isEmpty := by go_simp
        cases hp : x.r.toList.isEmpty
        · rw [hp] at hq
          have N2 := Troupe.hid (STEP.out noS j2 x X.out NO.out hq)
          clear hq
          go_wp2_with fail
          go_roundw
          case rel => exact ⟨j2 + 1, by omega, by go_num, N2.out, by trivial⟩
          case measure => simp [intOf]; omega
        · rw [hp] at hq
          have FIN := Troupe.hid (fst_some (want := noS) X.out hq NO.out)
          go_wp2_with fail
          go_ret
          exact ⟨by unfold dirC; rw [N1.out, FIN.out]; rfl, KB.out⟩
      · have N2 := Troupe.hid (fst_none (want := noS) (by have h := NO.out; rwa [List.take_of_length_le (by omega)] at h))
        clear NO
        go_wp2_with fail
        go_ret
        exact ⟨by unfold dirC; rw [N1.out, N2.out]; rfl, KB.out⟩
end Go.Proofs.Ytodkennpgfmenaa
