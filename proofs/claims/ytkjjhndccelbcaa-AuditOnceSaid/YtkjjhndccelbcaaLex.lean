/- The lexer's small words, by contract. -/
import Derived.Test.YtkjjhndccelbcaaGrow
namespace Go.Proofs.Ytkjjhndccelbcaa
open Go.RowKit Go.Maps Go.Troupe

def letterI (n : Int) : Bool := decide (97 ≤ n) && decide (n ≤ 122)
theorem letterI_any (n : Int) (w : World) : Calls Try.prog 66 #[.int .u8 n] w fun e w' => e = .returned (.bool (letterI n)) ∧ w = w' := by
  unfold letterI
  obtain ⟨x1, hx1⟩ : ∃ b, decide (97 ≤ n) = b := ⟨_, rfl⟩
  obtain ⟨x2, hx2⟩ : ∃ b, decide (n ≤ 122) = b := ⟨_, rfl⟩
  rw [hx1, hx2]
  cases x1 with
  | false =>
    go_enter Try.func66, Try.ntmps66
    go_wp2_with fail
    go_ret
    exact ⟨by simp, rfl⟩
  | true =>
    go_enter Try.func66, Try.ntmps66
    go_wp2_with fail
    go_ret
    exact ⟨by simp, rfl⟩
def digitI (n : Int) : Bool := decide (48 ≤ n) && decide (n ≤ 57)
theorem digitI_any (n : Int) (w : World) : Calls Try.prog 85 #[.int .u8 n] w fun e w' => e = .returned (.bool (digitI n)) ∧ w = w' := by
  unfold digitI
  obtain ⟨x1, hx1⟩ : ∃ b, decide (48 ≤ n) = b := ⟨_, rfl⟩
  obtain ⟨x2, hx2⟩ : ∃ b, decide (n ≤ 57) = b := ⟨_, rfl⟩
  rw [hx1, hx2]
  cases x1 with
  | false =>
    go_enter Try.func85, Try.ntmps85
    go_wp2_with fail
    go_ret
    exact ⟨by simp, rfl⟩
  | true =>
    go_enter Try.func85, Try.ntmps85
    go_wp2_with fail
    go_ret
    exact ⟨by simp, rfl⟩
def innerI (n : Int) : Bool := letterI n || digitI n || n == 95
theorem innerI_any (n : Int) (w : World) : Calls Try.prog 68 #[.int .u8 n] w fun e w' => e = .returned (.bool (innerI n)) ∧ w = w' := by
  unfold innerI
  have L := Troupe.hid (letterI_any n w)
  have D := Troupe.hid (digitI_any n w)
  obtain ⟨x1, hx1⟩ : ∃ b, letterI n = b := ⟨_, rfl⟩
  obtain ⟨x2, hx2⟩ : ∃ b, digitI n = b := ⟨_, rfl⟩
  obtain ⟨x3, hx3⟩ : ∃ b, (n == 95) = b := ⟨_, rfl⟩
  rw [hx1] at L
  rw [hx2] at D
  rw [hx1, hx2, hx3]
  clear hx1 hx2
  go_enter Try.func68, Try.ntmps68
  go_wp2_with fail
  refine L.out.mono ?_
  rintro e w1 ⟨rfl, rfl⟩
  cases x1 with
  | true =>
    go_wp2_with fail
    go_ret
    exact ⟨by simp, rfl⟩
  | false =>
    go_wp2_with fail
    refine D.out.mono ?_
    rintro e w1 ⟨rfl, rfl⟩
    cases x2 with
    | true =>
      go_wp2_with fail
      go_ret
      exact ⟨by simp, rfl⟩
    | false =>
      go_wp2_with fail
      go_ret
      exact ⟨by simp, rfl⟩
def innerB (c : UInt8) : Bool := innerI c.toNat
def spanB (l : List UInt8) : Nat := (l.takeWhile innerB).length
theorem spanB_le (l : List UInt8) : spanB l ≤ l.length := by unfold spanB; exact (List.takeWhile_sublist _).length_le
theorem spanB_stop : ∀ (l : List UInt8) (k : Nat) (c : UInt8), (∀ x ∈ l.take k, innerB x = true) → l[k]? = some c → innerB c = false → spanB l = k
  | [], k, c, _, h, _ => by simp at h
  | x :: l, 0, c, _, h, hc => by
    simp at h; subst h
    unfold spanB
    rw [List.takeWhile_cons, hc]; rfl
  | x :: l, k + 1, c, ha, h, hc => by
    have h1 : innerB x = true := ha x (by simp)
    have h2 := spanB_stop l k c (fun y hy => ha y (by simp [hy])) (by simpa using h) hc
    unfold spanB at h2 ⊢
    rw [List.takeWhile_cons, h1, if_pos rfl, List.length_cons, h2]
theorem spanB_all : ∀ (l : List UInt8), (∀ x ∈ l, innerB x = true) → spanB l = l.length
  | [], _ => rfl
  | x :: l, ha => by
    have h1 : innerB x = true := ha x (by simp)
    have h2 := spanB_all l (fun y hy => ha y (by simp [hy]))
    unfold spanB at h2 ⊢
    rw [List.takeWhile_cons, h1, if_pos rfl, List.length_cons, h2, List.length_cons]
set_option maxRecDepth 100000 in
set_option maxHeartbeats 1000000 in
theorem span_any (s : ByteArray) (hs : s.size ≤ maxLen) (w : World) : Calls Try.prog 67 #[.string s, .func (.func 68) #[] #[]] w fun e w' => e = .returned (.int .i64 (spanB s.data.toList)) ∧ w = w' := by
  unfold maxLen at hs
  have heg : ∀ (args : Array Value) (w' : World), (callFunc 68 args).run Try.prog w' = .ok (.enter 68 args) w' := fun args w' => by kernel_rfl
  have HEG := Troupe.hid heg
  clear heg
  go_enter Try.func67, Try.ntmps67
  go_wp2_with fail
  go_loopw [5] (fun i wr => ∃ j : Nat, j ≤ s.size ∧ i = .int .i64 j ∧ (∀ x ∈ s.data.toList.take j, innerB x = true) ∧ wr = w) (fun i _ => s.size - (intOf i).toNat)
  case atStart => exact ⟨0, Nat.zero_le _, rfl, by simp, rfl⟩
  case round =>
    obtain ⟨j, hj, rfl, hno, hw⟩ := hrel
    obtain rfl := hw.symm
    have NO := Troupe.hid hno
    clear hno
    by_cases hlt : j < s.size
    · have hx : s.data.toList[j]? = some s[j] := by
        rw [List.getElem?_eq_getElem (by simpa using hlt)]; rfl
      have X := Troupe.hid hx
      have IN := Troupe.hid (innerI_any s[j].toNat w)
      obtain ⟨b, hb⟩ : ∃ b, innerI s[j].toNat = b := ⟨_, rfl⟩
      rw [hb] at IN
      have HB := Troupe.hid hb
      have heg := HEG.out
      clear hx hb
      go_wp2_with fail
      refine IN.out.mono ?_
      rintro e w1 ⟨rfl, rfl⟩
      cases b with
      | false =>
        have FIN : Hid (spanB s.data.toList = j) := spanB_stop _ j s[j] NO.out X.out HB.out
        go_wp2_with fail
        go_ret
        exact ⟨by rw [FIN.out]; rfl, rfl⟩
      | true =>
        have NO2 : Hid (∀ y ∈ s.data.toList.take (j + 1), innerB y = true) := by
          intro y hy
          rw [List.take_add_one, X.out] at hy
          rcases List.mem_append.1 hy with h | h
          · exact NO.out y h
          · simp at h; subst h; exact HB.out
        go_wp2_with fail
        go_roundw
        case rel => exact ⟨j + 1, by omega, by go_num, NO2.out, by trivial⟩
        case measure => simp [intOf]; omega
    · have FIN : Hid (spanB s.data.toList = j) := by
        have h := NO.out
        rw [List.take_of_length_le (by simp; omega)] at h
        unfold Hid
        rw [spanB_all _ h]; simp; omega
      go_wp2_with fail
      go_ret
      exact ⟨by rw [FIN.out]; rfl, rfl⟩

def headI (s : ByteArray) : Int := match s.data.toList with | [] => 0 | c :: _ => c.toNat
def lexV (s : ByteArray) : Bool := !s.toList.isEmpty && decide (s.size ≤ 16) && letterI (headI s) && (spanB s.data.toList == s.size)
set_option maxRecDepth 100000 in
set_option maxHeartbeats 1000000 in
theorem lex_any (s : ByteArray) (w : World) : Calls Try.prog 50 #[.string s] w fun e w' => e = .returned (.bool (lexV s)) ∧ w = w' := by
  have SP : Hid (s.size ≤ 16 → Calls Try.prog 67 #[.string s, .func (.func 68) #[] #[]] w fun e w' => e = .returned (.int .i64 (spanB s.data.toList)) ∧ w = w') := fun h => span_any s (by unfold maxLen; omega) w
  have hsl := spanB_le s.data.toList
  obtain ⟨sp, hsp⟩ : ∃ n, spanB s.data.toList = n := ⟨_, rfl⟩
  rw [hsp] at SP hsl
  have HSP := Troupe.hid hsp
  have hsl' : sp ≤ s.size := by simpa using hsl
  clear hsp hsl
  cases he : s.toList.isEmpty with
  | true =>
    have h1 : s.toList = [] := by simpa using he
    have FIN : Hid (lexV s = false) := by unfold Hid lexV; rw [he]; rfl
    go_enter Try.func50, Try.ntmps50
    go_wp2_with fail
    go_ret
    exact ⟨by rw [FIN.out]; rfl, rfl⟩
  | false =>
    have he2 : (!s.toList.isEmpty) = true := by rw [he]; rfl
    by_cases h16 : s.size ≤ 16
    · have hsz : 0 < s.size := by
        rcases Nat.eq_zero_or_pos s.size with h0 | h0
        · exfalso
          have h1 : s.data.toList = [] := List.eq_nil_of_length_eq_zero (by simpa using h0)
          have h2 : s.toList = [] := by rw [ByteArray.toList_eq]; exact h1
          rw [h2] at he; cases he
        · exact h0
      have hh : headI s = (s[0].toNat : Int) := by
        unfold headI
        have h1 : s.data.toList[0]? = some s[0] := by rw [List.getElem?_eq_getElem (by simpa using hsz)]; rfl
        cases hl : s.data.toList with
        | nil => rw [hl] at h1; cases h1
        | cons c l => rw [hl] at h1; simp at h1; rw [h1]
      have HH := Troupe.hid hh
      have LT := Troupe.hid (letterI_any s[0].toNat w)
      obtain ⟨b, hb⟩ : ∃ b, letterI s[0].toNat = b := ⟨_, rfl⟩
      rw [hb] at LT
      have HB := Troupe.hid hb
      have HE := Troupe.hid he
      clear hh hb
      cases b with
      | false =>
        have FIN : Hid (lexV s = false) := by unfold Hid lexV; rw [HH.out, HB.out, Bool.and_false, Bool.false_and]
        go_enter Try.func50, Try.ntmps50
        go_wp2_with fail
        refine LT.out.mono ?_
        rintro e w1 ⟨rfl, rfl⟩
        go_wp2_with fail
        go_ret
        exact ⟨by rw [FIN.out]; rfl, rfl⟩
      | true =>
        obtain ⟨r, hr⟩ : ∃ r, (sp == s.size) = r := ⟨_, rfl⟩
        have FIN : Hid (lexV s = r) := by unfold Hid lexV; rw [HE.out, HH.out, HB.out, HSP.out, hr, decide_eq_true h16]; rfl
        have hr2 : ((sp : Int) == (s.size : Int)) = r := by
          rw [← hr]
          by_cases h : sp = s.size
          · subst h; simp
          · rw [beq_eq_false_iff_ne.2 h, beq_eq_false_iff_ne.2 (by omega)]
        clear hr
        go_enter Try.func50, Try.ntmps50
        go_wp2_with fail
        refine LT.out.mono ?_
        rintro e w1 ⟨rfl, rfl⟩
        go_wp2_with fail
        refine (SP.out h16).mono ?_
        rintro e w1 ⟨rfl, rfl⟩
        go_wp2_with fail
        go_ret
        exact ⟨by rw [FIN.out, ← hr2]; rfl, rfl⟩
    · have FIN : Hid (lexV s = false) := by unfold Hid lexV; rw [decide_eq_false h16, Bool.and_false]; rfl
      have h16' : ¬ (s.size : Int) ≤ 16 := by omega
      go_enter Try.func50, Try.ntmps50
      go_wp2_with fail
      go_ret
      exact ⟨by rw [FIN.out]; rfl, rfl⟩
def namedV (s : ByteArray) : Bool := s.toList.isEmpty || lexV s
theorem named_any (s : ByteArray) (w : World) : Calls Try.prog 48 #[.string s] w fun e w' => e = .returned (.bool (namedV s)) ∧ w = w' := by
  have LX := Troupe.hid (lex_any s w)
  unfold namedV
  obtain ⟨b, hb⟩ : ∃ b, lexV s = b := ⟨_, rfl⟩
  rw [hb] at LX ⊢
  clear hb
  cases he : s.toList.isEmpty with
  | true =>
    have h1 : s.toList = [] := by simpa using he
    go_enter Try.func48, Try.ntmps48
    go_wp2_with fail
    go_ret
    exact ⟨by simp, rfl⟩
  | false =>
    go_enter Try.func48, Try.ntmps48
    go_wp2_with fail
    refine LX.out.mono ?_
    rintro e w1 ⟨rfl, rfl⟩
    go_wp2_with fail
    go_ret
    exact ⟨by simp, rfl⟩
end Go.Proofs.Ytkjjhndccelbcaa
