/- The parts of an effect; a word among words; by contract. -/
import Derived.Test.YtkjjhndccelbcaaBad
import Derived.Test.YtkjjhndccelbcaaUpS
namespace Go.Proofs.Ytkjjhndccelbcaa
open Go.RowKit Go.Maps Go.Troupe
def refV (d : Int) : Bool := d == 1 || d == 6 || d == 7
def slotV (d : Int) : Bool := d == 2 || d == 10
def nameW (d : Int) : Bool := d == 8 || d == 1 || d == 2 || d == 3 || d == 9 || d == 12
def valueW (d : Int) : Bool := d == 8 || d == 1
def delayV (d : Int) : Bool := d == 8
def partsV (d : Int) : Value := .tuple #[.bool (refV d), .bool (slotV d), .bool (nameW d), .bool (valueW d), .bool (delayV d)]
theorem parts_8 (w : World) : Calls Try.prog 94 #[.int .i64 8] w fun e w' => e = .returned (partsV 8) ∧ w = w' := by
  go_enter Try.func94, Try.ntmps94
  go_wp2_with fail
  exact bodyPost_ret (v := .tuple #[.bool false, .bool false, .bool true, .bool true, .bool true]) (by simp [results, Try.results94, go_sem]) rfl ⟨rfl, rfl⟩
theorem parts_1 (w : World) : Calls Try.prog 94 #[.int .i64 1] w fun e w' => e = .returned (partsV 1) ∧ w = w' := by
  go_enter Try.func94, Try.ntmps94
  go_wp2_with fail
  exact bodyPost_ret (v := .tuple #[.bool true, .bool false, .bool true, .bool true, .bool false]) (by simp [results, Try.results94, go_sem]) rfl ⟨rfl, rfl⟩
theorem parts_6 (w : World) : Calls Try.prog 94 #[.int .i64 6] w fun e w' => e = .returned (partsV 6) ∧ w = w' := by
  go_enter Try.func94, Try.ntmps94
  go_wp2_with fail
  exact bodyPost_ret (v := .tuple #[.bool true, .bool false, .bool false, .bool false, .bool false]) (by simp [results, Try.results94, go_sem]) rfl ⟨rfl, rfl⟩
theorem parts_7 (w : World) : Calls Try.prog 94 #[.int .i64 7] w fun e w' => e = .returned (partsV 7) ∧ w = w' := by
  go_enter Try.func94, Try.ntmps94
  go_wp2_with fail
  exact bodyPost_ret (v := .tuple #[.bool true, .bool false, .bool false, .bool false, .bool false]) (by simp [results, Try.results94, go_sem]) rfl ⟨rfl, rfl⟩
theorem parts_2 (w : World) : Calls Try.prog 94 #[.int .i64 2] w fun e w' => e = .returned (partsV 2) ∧ w = w' := by
  go_enter Try.func94, Try.ntmps94
  go_wp2_with fail
  exact bodyPost_ret (v := .tuple #[.bool false, .bool true, .bool true, .bool false, .bool false]) (by simp [results, Try.results94, go_sem]) rfl ⟨rfl, rfl⟩
theorem parts_10 (w : World) : Calls Try.prog 94 #[.int .i64 10] w fun e w' => e = .returned (partsV 10) ∧ w = w' := by
  go_enter Try.func94, Try.ntmps94
  go_wp2_with fail
  exact bodyPost_ret (v := .tuple #[.bool false, .bool true, .bool false, .bool false, .bool false]) (by simp [results, Try.results94, go_sem]) rfl ⟨rfl, rfl⟩
theorem parts_3 (w : World) : Calls Try.prog 94 #[.int .i64 3] w fun e w' => e = .returned (partsV 3) ∧ w = w' := by
  go_enter Try.func94, Try.ntmps94
  go_wp2_with fail
  exact bodyPost_ret (v := .tuple #[.bool false, .bool false, .bool true, .bool false, .bool false]) (by simp [results, Try.results94, go_sem]) rfl ⟨rfl, rfl⟩
theorem parts_9 (w : World) : Calls Try.prog 94 #[.int .i64 9] w fun e w' => e = .returned (partsV 9) ∧ w = w' := by
  go_enter Try.func94, Try.ntmps94
  go_wp2_with fail
  exact bodyPost_ret (v := .tuple #[.bool false, .bool false, .bool true, .bool false, .bool false]) (by simp [results, Try.results94, go_sem]) rfl ⟨rfl, rfl⟩
theorem parts_12 (w : World) : Calls Try.prog 94 #[.int .i64 12] w fun e w' => e = .returned (partsV 12) ∧ w = w' := by
  go_enter Try.func94, Try.ntmps94
  go_wp2_with fail
  exact bodyPost_ret (v := .tuple #[.bool false, .bool false, .bool true, .bool false, .bool false]) (by simp [results, Try.results94, go_sem]) rfl ⟨rfl, rfl⟩
set_option maxHeartbeats 1000000 in
theorem parts_else (d : Int) (h8 : d ≠ 8) (h1 : d ≠ 1) (h6 : d ≠ 6) (h7 : d ≠ 7) (h2 : d ≠ 2) (h10 : d ≠ 10) (h3 : d ≠ 3) (h9 : d ≠ 9) (h12 : d ≠ 12) (w : World) : Calls Try.prog 94 #[.int .i64 d] w fun e w' => e = .returned (partsV d) ∧ w = w' := by
  have e8 : (d == 8) = false := beq_eq_false_iff_ne.2 h8
  have e1 : (d == 1) = false := beq_eq_false_iff_ne.2 h1
  have e6 : (d == 6) = false := beq_eq_false_iff_ne.2 h6
  have e7 : (d == 7) = false := beq_eq_false_iff_ne.2 h7
  have e2 : (d == 2) = false := beq_eq_false_iff_ne.2 h2
  have e10 : (d == 10) = false := beq_eq_false_iff_ne.2 h10
  have e3 : (d == 3) = false := beq_eq_false_iff_ne.2 h3
  have e9 : (d == 9) = false := beq_eq_false_iff_ne.2 h9
  have e12 : (d == 12) = false := beq_eq_false_iff_ne.2 h12
  have HP : Hid (partsV d = .tuple #[.bool false, .bool false, .bool false, .bool false, .bool false]) := by
    unfold Hid partsV refV slotV nameW valueW delayV
    rw [e8, e1, e6, e7, e2, e10, e3, e9, e12]
    rfl
  rw [HP.out]
  clear h8 h1 h6 h7 h2 h10 h3 h9 h12
  go_enter Try.func94, Try.ntmps94
  go_wp2_with fail
  exact bodyPost_ret (v := .tuple #[.bool false, .bool false, .bool false, .bool false, .bool false]) (by simp [results, Try.results94, go_sem]) rfl ⟨rfl, rfl⟩
theorem parts_any (d : Int) (w : World) : Calls Try.prog 94 #[.int .i64 d] w fun e w' => e = .returned (partsV d) ∧ w = w' := by
  by_cases h8 : d = 8
  · subst h8; exact parts_8 w
  by_cases h1 : d = 1
  · subst h1; exact parts_1 w
  by_cases h6 : d = 6
  · subst h6; exact parts_6 w
  by_cases h7 : d = 7
  · subst h7; exact parts_7 w
  by_cases h2 : d = 2
  · subst h2; exact parts_2 w
  by_cases h10 : d = 10
  · subst h10; exact parts_10 w
  by_cases h3 : d = 3
  · subst h3; exact parts_3 w
  by_cases h9 : d = 9
  · subst h9; exact parts_9 w
  by_cases h12 : d = 12
  · subst h12; exact parts_12 w
  exact parts_else d h8 h1 h6 h7 h2 h10 h3 h9 h12 w

/-! ### a word among words -/
def words (l : List ByteArray) : List Value := l.flatMap fun s => [.string s]
def eqS (v x : ByteArray) : Bool := v.toList == x.toList
set_option maxRecDepth 100000 in
theorem indexT_any (Ad : Option Addr) (n c B : Nat) (l : List ByteArray) (v : ByteArray) (w : World) (hl : l.length = n) (hn : n ≤ maxLen) (hc : Cells w B Ad (words l)) :
    Calls Try.prog 99 #[.slice Ad n c, .string v] w fun e w' => e = .returned (.int .i64 (idxV l (eqS v))) ∧ w = w' := by
  have hn' : n ≤ 9223372036854775807 := hn
  have C0 := Troupe.hid hc
  clear hn hc
  go_enter Try.func99, Try.ntmps99
  go_wp2_with fail
  go_loopw [8] (fun i wr => ∃ j : Nat, j ≤ n ∧ i = .int .i64 j ∧ (∀ y ∈ l.take j, (eqS v) y = false) ∧ wr = w) (fun i _ => n - (intOf i).toNat)
  case atStart => exact ⟨0, Nat.zero_le _, rfl, by simp, rfl⟩
  case round =>
    obtain ⟨j, hj, rfl, hno, hw⟩ := hrel
    obtain rfl := hw.symm
    have NO := Troupe.hid hno
    clear hno
    by_cases hlt : j < n
    · obtain ⟨x, hx⟩ : ∃ x, l[j]? = some x := ⟨_, List.getElem?_eq_getElem (by omega)⟩
      obtain ⟨b, off, rfl, _, h1⟩ := cells_at (f := fun s => [Value.string s]) (sz := 1) (fun _ => rfl) (by decide) C0.out hx
      have d0 : w.cell? ⟨b, off + j, none⟩ = some (.string x) := by have := h1 0 (by decide) _ rfl; rwa [Nat.mul_one, Nat.add_zero] at this
      have X := Troupe.hid hx
      clear h1 hx
      cases hp : (v.toList == x.toList) with
      | true =>
        have FIN := Troupe.hid (idxV_some (p := eqS v) X.out hp NO.out)
        go_wp2_with fail
        go_ret
        exact ⟨by rw [FIN.out]; rfl, rfl⟩
      | false =>
        have NO2 : Hid (∀ y ∈ l.take (j + 1), (eqS v) y = false) := by
          intro y hy
          rw [List.take_add_one, X.out] at hy
          rcases List.mem_append.1 hy with h | h
          · exact NO.out y h
          · simp at h; subst h; exact hp
        go_wp2_with fail
        go_roundw
        case rel => exact ⟨j + 1, by omega, by go_num, NO2.out, by trivial⟩
        case measure => simp [intOf]; omega
    · have hall : idxV l (eqS v) = -1 := idxV_none (by have h := NO.out; rwa [List.take_of_length_le (by omega)] at h)
      have FIN := Troupe.hid hall
      clear hall
      go_wp2_with fail
      go_ret
      exact ⟨by rw [FIN.out]; rfl, rfl⟩
theorem hasT_any (Ad : Option Addr) (n c B : Nat) (l : List ByteArray) (v : ByteArray) (w : World) (hl : l.length = n) (hn : n ≤ maxLen) (hc : Cells w B Ad (words l)) :
    Calls Try.prog 97 #[.slice Ad n c, .string v] w fun e w' => e = .returned (.bool (l.any (eqS v))) ∧ w = w' := by
  have IX := Troupe.hid (indexT_any Ad n c B l v w hl hn hc)
  obtain ⟨q, hq⟩ : ∃ q, idxV l (eqS v) = q := ⟨_, rfl⟩
  have hany := any_idx l (eqS v)
  rw [hq] at IX hany
  have HA := Troupe.hid hany
  clear hc hany hq
  go_enter Try.func97, Try.ntmps97
  go_wp2_with fail
  refine IX.out.mono ?_
  rintro e w2 ⟨rfl, rfl⟩
  go_wp2_with fail
  go_ret
  exact ⟨by rw [HA.out]; rfl, rfl⟩
end Go.Proofs.Ytkjjhndccelbcaa
