/- slices.IndexFunc and ContainsFunc at each element type, over any closure that answers a predicate. -/
import Derived.Test.YtkjjhndccelbcaaKinds
namespace Go.Proofs.Ytkjjhndccelbcaa
open Go.RowKit Go.Maps Go.Troupe

theorem any_idx {α : Type} (l : List α) (p : α → Bool) : l.any p = decide (0 ≤ idxV l p) := by
  unfold idxV
  cases h : l.findIdx? p with
  | none =>
    have h1 := List.findIdx?_eq_none_iff.1 h
    have : l.any p = false := by rw [List.any_eq_false]; intro x hx; simp [h1 x hx]
    rw [this]; rfl
  | some i =>
    obtain ⟨hi, h1, -⟩ := List.findIdx?_eq_some_iff_getElem.1 h
    have : l.any p = true := List.any_eq_true.2 ⟨l[i], List.getElem_mem _, h1⟩
    rw [this]; simp
/-- Pointers to blocks, as cells. -/
def ptr (g : Nat) : List Value := [.pointer (some ⟨g, 0, none⟩)]
def flatP (l : List Nat) : List Value := l.flatMap ptr
theorem flatP_length (l : List Nat) : (flatP l).length = l.length := by
  induction l with
  | nil => rfl
  | cons x l ih => simp [flatP, ptr] at ih ⊢; omega

set_option maxRecDepth 100000 in
theorem indexA_gen (CL : Nat) (caps : List Value) (p : Nat → Bool) (Ad : Option Addr) (n c B : Nat) (l : List Nat) (w : World) (hl : l.length = n) (hn : n ≤ maxLen) (hc : Cells w B Ad (flatP l)) (hB : B ≤ w.heap.size) (heg : ∀ args w', (callFunc CL args).run Try.prog w' = .ok (.enter CL args) w')
    (hcl : ∀ x, x ∈ l → ∀ w', Below w.heap.size w w' → Calls Try.prog CL ((.pointer (some ⟨x, 0, none⟩)) :: caps).toArray w' fun e w'' => e = .returned (.bool (p x)) ∧ Below w'.heap.size w' w'') :
    Calls Try.prog 82 #[.slice Ad n c, .func (.func CL) #[] caps.toArray] w fun e w' => e = .returned (.int .i64 (idxV l p)) ∧ Below w.heap.size w w' := by
  have hn' : n ≤ 9223372036854775807 := hn
  have C0 := Troupe.hid hc
  have CLO := Troupe.hid hcl
  clear hn hc hcl
  go_enter Try.func82, Try.ntmps82
  go_wp2_with fail
  go_loopw [8] (fun i wr => ∃ j : Nat, j ≤ n ∧ i = .int .i64 j ∧ (∀ y ∈ l.take j, p y = false) ∧ Below w.heap.size w wr) (fun i _ => n - (intOf i).toNat)
  case atStart => exact ⟨0, Nat.zero_le _, rfl, by simp, Below.refl _ _⟩
  case round =>
    obtain ⟨j, hj, rfl, hno, hb⟩ := hrel
    have NO := Troupe.hid hno
    have HB := Troupe.hid hb
    have C1 := Troupe.hid ((C0.out.mono hB).below hb)
    clear hno hb
    by_cases hlt : j < n
    · obtain ⟨x, hx⟩ : ∃ x, l[j]? = some x := ⟨_, List.getElem?_eq_getElem (by omega)⟩
      obtain ⟨b, off, rfl, _, h1⟩ := cells_at (sz := 1) (fun _ => rfl) (by decide) C1.out hx
      have d0 : wr.cell? ⟨b, off + j, none⟩ = some (.pointer (some ⟨x, 0, none⟩)) := by have := h1 0 (by decide) _ rfl; rwa [Nat.mul_one, Nat.add_zero] at this
      have X := Troupe.hid hx
      have CX := Troupe.hid (CLO.out x (List.mem_of_getElem? hx) wr HB.out)
      clear h1 hx
      go_wp2_with fail
      refine CX.out.mono ?_
      rintro e w2 ⟨rfl, hb2⟩
      have B2 := Troupe.hid (HB.out.trans (hb2.mono HB.out.size))
      clear hb2 d0
      by_cases hp : p x = true
      · rw [hp]
        have FIN := Troupe.hid (idxV_some (p := p) X.out hp NO.out)
        clear hp
        go_wp2_with fail
        go_ret
        exact ⟨by rw [FIN.out]; rfl, B2.out⟩
      · have hp' : p x = false := by simpa using hp
        rw [hp']
        have NO2 : Hid (∀ y ∈ l.take (j + 1), p y = false) := by
          intro y hy
          rw [List.take_add_one, X.out] at hy
          rcases List.mem_append.1 hy with h | h
          · exact NO.out y h
          · simp at h; subst h; exact hp'
        clear hp hp'
        go_wp2_with fail
        go_roundw
        case rel => exact ⟨j + 1, by omega, by go_num, NO2.out, B2.out⟩
        case measure => simp [intOf]; omega
    · have hall : idxV l p = -1 := idxV_none (by have h := NO.out; rwa [List.take_of_length_le (by omega)] at h)
      have FIN := Troupe.hid hall
      clear hall
      go_wp2_with fail
      go_ret
      exact ⟨by rw [FIN.out]; rfl, HB.out⟩
theorem hasA_gen (CL : Nat) (caps : List Value) (p : Nat → Bool) (Ad : Option Addr) (n c B : Nat) (l : List Nat) (w : World) (hl : l.length = n) (hn : n ≤ maxLen) (hc : Cells w B Ad (flatP l)) (hB : B ≤ w.heap.size) (heg : ∀ args w', (callFunc CL args).run Try.prog w' = .ok (.enter CL args) w')
    (hcl : ∀ x, x ∈ l → ∀ w', Below w.heap.size w w' → Calls Try.prog CL ((.pointer (some ⟨x, 0, none⟩)) :: caps).toArray w' fun e w'' => e = .returned (.bool (p x)) ∧ Below w'.heap.size w' w'') :
    Calls Try.prog 63 #[.slice Ad n c, .func (.func CL) #[] caps.toArray] w fun e w' => e = .returned (.bool (l.any p)) ∧ Below w.heap.size w w' := by
  have IX := Troupe.hid (indexA_gen CL caps p Ad n c B l w hl hn hc hB heg hcl)
  clear hcl hc heg
  obtain ⟨q, hq⟩ : ∃ q, idxV l p = q := ⟨_, rfl⟩
  have hany := any_idx l p
  rw [hq] at IX hany
  have HA := Troupe.hid hany
  clear hany hq
  go_enter Try.func63, Try.ntmps63
  go_wp2_with fail
  refine IX.out.mono ?_
  rintro e w2 ⟨rfl, hb⟩
  have HB := Troupe.hid hb
  clear hb
  go_wp2_with fail
  go_ret
  exact ⟨by rw [HA.out]; rfl, HB.out⟩

set_option maxRecDepth 100000 in
theorem indexC_gen (CL : Nat) (caps : List Value) (p : Cs → Bool) (Ad : Option Addr) (n c B : Nat) (l : List Cs) (w : World) (hl : l.length = n) (hn : n ≤ maxLen) (hc : Cells w B Ad (flatC l)) (hB : B ≤ w.heap.size) (heg : ∀ args w', (callFunc CL args).run Try.prog w' = .ok (.enter CL args) w')
    (hcl : ∀ x, x ∈ l → ∀ w', Below w.heap.size w w' → Calls Try.prog CL ((.agg #[.string x.reason, .int .i64 x.d]) :: caps).toArray w' fun e w'' => e = .returned (.bool (p x)) ∧ Below w'.heap.size w' w'') :
    Calls Try.prog 61 #[.slice Ad n c, .func (.func CL) #[] caps.toArray] w fun e w' => e = .returned (.int .i64 (idxV l p)) ∧ Below w.heap.size w w' := by
  have hn' : n ≤ 9223372036854775807 := hn
  have C0 := Troupe.hid hc
  have CLO := Troupe.hid hcl
  clear hn hc hcl
  go_enter Try.func61, Try.ntmps61
  go_wp2_with fail
  go_loopw [8] (fun i wr => ∃ j : Nat, j ≤ n ∧ i = .int .i64 j ∧ (∀ y ∈ l.take j, p y = false) ∧ Below w.heap.size w wr) (fun i _ => n - (intOf i).toNat)
  case atStart => exact ⟨0, Nat.zero_le _, rfl, by simp, Below.refl _ _⟩
  case round =>
    obtain ⟨j, hj, rfl, hno, hb⟩ := hrel
    have NO := Troupe.hid hno
    have HB := Troupe.hid hb
    have C1 := Troupe.hid ((C0.out.mono hB).below hb)
    clear hno hb
    by_cases hlt : j < n
    · obtain ⟨x, hx⟩ : ∃ x, l[j]? = some x := ⟨_, List.getElem?_eq_getElem (by omega)⟩
      obtain ⟨b, off, rfl, _, h1⟩ := cells_at (sz := 2) (fun _ => rfl) (by decide) C1.out hx
      have d0 : wr.cell? ⟨b, off + j * 2, none⟩ = some (.string x.reason) := h1 0 (by decide) _ rfl
      have d1 : wr.cell? ⟨b, off + j * 2 + 1, none⟩ = some (.int .i64 x.d) := h1 1 (by decide) _ rfl
      have X := Troupe.hid hx
      have CX := Troupe.hid (CLO.out x (List.mem_of_getElem? hx) wr HB.out)
      clear h1 hx
      go_wp2_with fail
      refine CX.out.mono ?_
      rintro e w2 ⟨rfl, hb2⟩
      have B2 := Troupe.hid (HB.out.trans (hb2.mono HB.out.size))
      clear hb2 d0 d1
      by_cases hp : p x = true
      · rw [hp]
        have FIN := Troupe.hid (idxV_some (p := p) X.out hp NO.out)
        clear hp
        go_wp2_with fail
        go_ret
        exact ⟨by rw [FIN.out]; rfl, B2.out⟩
      · have hp' : p x = false := by simpa using hp
        rw [hp']
        have NO2 : Hid (∀ y ∈ l.take (j + 1), p y = false) := by
          intro y hy
          rw [List.take_add_one, X.out] at hy
          rcases List.mem_append.1 hy with h | h
          · exact NO.out y h
          · simp at h; subst h; exact hp'
        clear hp hp'
        go_wp2_with fail
        go_roundw
        case rel => exact ⟨j + 1, by omega, by go_num, NO2.out, B2.out⟩
        case measure => simp [intOf]; omega
    · have hall : idxV l p = -1 := idxV_none (by have h := NO.out; rwa [List.take_of_length_le (by omega)] at h)
      have FIN := Troupe.hid hall
      clear hall
      go_wp2_with fail
      go_ret
      exact ⟨by rw [FIN.out]; rfl, HB.out⟩
theorem hasC_gen (CL : Nat) (caps : List Value) (p : Cs → Bool) (Ad : Option Addr) (n c B : Nat) (l : List Cs) (w : World) (hl : l.length = n) (hn : n ≤ maxLen) (hc : Cells w B Ad (flatC l)) (hB : B ≤ w.heap.size) (heg : ∀ args w', (callFunc CL args).run Try.prog w' = .ok (.enter CL args) w')
    (hcl : ∀ x, x ∈ l → ∀ w', Below w.heap.size w w' → Calls Try.prog CL ((.agg #[.string x.reason, .int .i64 x.d]) :: caps).toArray w' fun e w'' => e = .returned (.bool (p x)) ∧ Below w'.heap.size w' w'') :
    Calls Try.prog 46 #[.slice Ad n c, .func (.func CL) #[] caps.toArray] w fun e w' => e = .returned (.bool (l.any p)) ∧ Below w.heap.size w w' := by
  have IX := Troupe.hid (indexC_gen CL caps p Ad n c B l w hl hn hc hB heg hcl)
  clear hcl hc heg
  obtain ⟨q, hq⟩ : ∃ q, idxV l p = q := ⟨_, rfl⟩
  have hany := any_idx l p
  rw [hq] at IX hany
  have HA := Troupe.hid hany
  clear hany hq
  go_enter Try.func46, Try.ntmps46
  go_wp2_with fail
  refine IX.out.mono ?_
  rintro e w2 ⟨rfl, hb⟩
  have HB := Troupe.hid hb
  clear hb
  go_wp2_with fail
  go_ret
  exact ⟨by rw [HA.out]; rfl, HB.out⟩

set_option maxRecDepth 100000 in
theorem indexK_gen (CL : Nat) (caps : List Value) (p : Kf → Bool) (Ad : Option Addr) (n c B : Nat) (l : List Kf) (w : World) (hl : l.length = n) (hn : n ≤ maxLen) (hc : Cells w B Ad (flatK l)) (hB : B ≤ w.heap.size) (heg : ∀ args w', (callFunc CL args).run Try.prog w' = .ok (.enter CL args) w')
    (hcl : ∀ x, x ∈ l → ∀ w', Below w.heap.size w w' → Calls Try.prog CL ((.agg #[.string x.name, .int .i64 x.limit, .int .i64 x.within, .slice x.Ac x.cases.length x.cc, .slice x.A x.sts.length x.cap]) :: caps).toArray w' fun e w'' => e = .returned (.bool (p x)) ∧ Below w'.heap.size w' w'') :
    Calls Try.prog 58 #[.slice Ad n c, .func (.func CL) #[] caps.toArray] w fun e w' => e = .returned (.int .i64 (idxV l p)) ∧ Below w.heap.size w w' := by
  have hn' : n ≤ 9223372036854775807 := hn
  have C0 := Troupe.hid hc
  have CLO := Troupe.hid hcl
  clear hn hc hcl
  go_enter Try.func58, Try.ntmps58
  go_wp2_with fail
  go_loopw [8] (fun i wr => ∃ j : Nat, j ≤ n ∧ i = .int .i64 j ∧ (∀ y ∈ l.take j, p y = false) ∧ Below w.heap.size w wr) (fun i _ => n - (intOf i).toNat)
  case atStart => exact ⟨0, Nat.zero_le _, rfl, by simp, Below.refl _ _⟩
  case round =>
    obtain ⟨j, hj, rfl, hno, hb⟩ := hrel
    have NO := Troupe.hid hno
    have HB := Troupe.hid hb
    have C1 := Troupe.hid ((C0.out.mono hB).below hb)
    clear hno hb
    by_cases hlt : j < n
    · obtain ⟨x, hx⟩ : ∃ x, l[j]? = some x := ⟨_, List.getElem?_eq_getElem (by omega)⟩
      obtain ⟨b, off, rfl, _, h1⟩ := cells_at (sz := 5) (fun _ => rfl) (by decide) C1.out hx
      have d0 : wr.cell? ⟨b, off + j * 5, none⟩ = some (.string x.name) := h1 0 (by decide) _ rfl
      have d1 : wr.cell? ⟨b, off + j * 5 + 1, none⟩ = some (.int .i64 x.limit) := h1 1 (by decide) _ rfl
      have d2 : wr.cell? ⟨b, off + j * 5 + 2, none⟩ = some (.int .i64 x.within) := h1 2 (by decide) _ rfl
      have d3 : wr.cell? ⟨b, off + j * 5 + 3, none⟩ = some (.slice x.Ac x.cases.length x.cc) := h1 3 (by decide) _ rfl
      have d4 : wr.cell? ⟨b, off + j * 5 + 4, none⟩ = some (.slice x.A x.sts.length x.cap) := h1 4 (by decide) _ rfl
      have X := Troupe.hid hx
      have CX := Troupe.hid (CLO.out x (List.mem_of_getElem? hx) wr HB.out)
      clear h1 hx
      go_wp2_with fail
      refine CX.out.mono ?_
      rintro e w2 ⟨rfl, hb2⟩
      have B2 := Troupe.hid (HB.out.trans (hb2.mono HB.out.size))
      clear hb2 d0 d1 d2 d3 d4
      by_cases hp : p x = true
      · rw [hp]
        have FIN := Troupe.hid (idxV_some (p := p) X.out hp NO.out)
        clear hp
        go_wp2_with fail
        go_ret
        exact ⟨by rw [FIN.out]; rfl, B2.out⟩
      · have hp' : p x = false := by simpa using hp
        rw [hp']
        have NO2 : Hid (∀ y ∈ l.take (j + 1), p y = false) := by
          intro y hy
          rw [List.take_add_one, X.out] at hy
          rcases List.mem_append.1 hy with h | h
          · exact NO.out y h
          · simp at h; subst h; exact hp'
        clear hp hp'
        go_wp2_with fail
        go_roundw
        case rel => exact ⟨j + 1, by omega, by go_num, NO2.out, B2.out⟩
        case measure => simp [intOf]; omega
    · have hall : idxV l p = -1 := idxV_none (by have h := NO.out; rwa [List.take_of_length_le (by omega)] at h)
      have FIN := Troupe.hid hall
      clear hall
      go_wp2_with fail
      go_ret
      exact ⟨by rw [FIN.out]; rfl, HB.out⟩
theorem hasK_gen (CL : Nat) (caps : List Value) (p : Kf → Bool) (Ad : Option Addr) (n c B : Nat) (l : List Kf) (w : World) (hl : l.length = n) (hn : n ≤ maxLen) (hc : Cells w B Ad (flatK l)) (hB : B ≤ w.heap.size) (heg : ∀ args w', (callFunc CL args).run Try.prog w' = .ok (.enter CL args) w')
    (hcl : ∀ x, x ∈ l → ∀ w', Below w.heap.size w w' → Calls Try.prog CL ((.agg #[.string x.name, .int .i64 x.limit, .int .i64 x.within, .slice x.Ac x.cases.length x.cc, .slice x.A x.sts.length x.cap]) :: caps).toArray w' fun e w'' => e = .returned (.bool (p x)) ∧ Below w'.heap.size w' w'') :
    Calls Try.prog 51 #[.slice Ad n c, .func (.func CL) #[] caps.toArray] w fun e w' => e = .returned (.bool (l.any p)) ∧ Below w.heap.size w w' := by
  have IX := Troupe.hid (indexK_gen CL caps p Ad n c B l w hl hn hc hB heg hcl)
  clear hcl hc heg
  obtain ⟨q, hq⟩ : ∃ q, idxV l p = q := ⟨_, rfl⟩
  have hany := any_idx l p
  rw [hq] at IX hany
  have HA := Troupe.hid hany
  clear hany hq
  go_enter Try.func51, Try.ntmps51
  go_wp2_with fail
  refine IX.out.mono ?_
  rintro e w2 ⟨rfl, hb⟩
  have HB := Troupe.hid hb
  clear hb
  go_wp2_with fail
  go_ret
  exact ⟨by rw [HA.out]; rfl, HB.out⟩

set_option maxRecDepth 100000 in
theorem indexS_gen (CL : Nat) (caps : List Value) (p : St → Bool) (Ad : Option Addr) (n c B : Nat) (l : List St) (w : World) (hl : l.length = n) (hn : n ≤ maxLen) (hc : Cells w B Ad (flatS l)) (hB : B ≤ w.heap.size) (heg : ∀ args w', (callFunc CL args).run Try.prog w' = .ok (.enter CL args) w')
    (hcl : ∀ x, x ∈ l → ∀ w', Below w.heap.size w w' → Calls Try.prog CL ((.agg #[.string x.name, .slice x.A x.rows.length x.cap]) :: caps).toArray w' fun e w'' => e = .returned (.bool (p x)) ∧ Below w'.heap.size w' w'') :
    Calls Try.prog 74 #[.slice Ad n c, .func (.func CL) #[] caps.toArray] w fun e w' => e = .returned (.int .i64 (idxV l p)) ∧ Below w.heap.size w w' := by
  have hn' : n ≤ 9223372036854775807 := hn
  have C0 := Troupe.hid hc
  have CLO := Troupe.hid hcl
  clear hn hc hcl
  go_enter Try.func74, Try.ntmps74
  go_wp2_with fail
  go_loopw [8] (fun i wr => ∃ j : Nat, j ≤ n ∧ i = .int .i64 j ∧ (∀ y ∈ l.take j, p y = false) ∧ Below w.heap.size w wr) (fun i _ => n - (intOf i).toNat)
  case atStart => exact ⟨0, Nat.zero_le _, rfl, by simp, Below.refl _ _⟩
  case round =>
    obtain ⟨j, hj, rfl, hno, hb⟩ := hrel
    have NO := Troupe.hid hno
    have HB := Troupe.hid hb
    have C1 := Troupe.hid ((C0.out.mono hB).below hb)
    clear hno hb
    by_cases hlt : j < n
    · obtain ⟨x, hx⟩ : ∃ x, l[j]? = some x := ⟨_, List.getElem?_eq_getElem (by omega)⟩
      obtain ⟨b, off, rfl, _, h1⟩ := cells_at (sz := 2) (fun _ => rfl) (by decide) C1.out hx
      have d0 : wr.cell? ⟨b, off + j * 2, none⟩ = some (.string x.name) := h1 0 (by decide) _ rfl
      have d1 : wr.cell? ⟨b, off + j * 2 + 1, none⟩ = some (.slice x.A x.rows.length x.cap) := h1 1 (by decide) _ rfl
      have X := Troupe.hid hx
      have CX := Troupe.hid (CLO.out x (List.mem_of_getElem? hx) wr HB.out)
      clear h1 hx
      go_wp2_with fail
      refine CX.out.mono ?_
      rintro e w2 ⟨rfl, hb2⟩
      have B2 := Troupe.hid (HB.out.trans (hb2.mono HB.out.size))
      clear hb2 d0 d1
      by_cases hp : p x = true
      · rw [hp]
        have FIN := Troupe.hid (idxV_some (p := p) X.out hp NO.out)
        clear hp
        go_wp2_with fail
        go_ret
        exact ⟨by rw [FIN.out]; rfl, B2.out⟩
      · have hp' : p x = false := by simpa using hp
        rw [hp']
        have NO2 : Hid (∀ y ∈ l.take (j + 1), p y = false) := by
          intro y hy
          rw [List.take_add_one, X.out] at hy
          rcases List.mem_append.1 hy with h | h
          · exact NO.out y h
          · simp at h; subst h; exact hp'
        clear hp hp'
        go_wp2_with fail
        go_roundw
        case rel => exact ⟨j + 1, by omega, by go_num, NO2.out, B2.out⟩
        case measure => simp [intOf]; omega
    · have hall : idxV l p = -1 := idxV_none (by have h := NO.out; rwa [List.take_of_length_le (by omega)] at h)
      have FIN := Troupe.hid hall
      clear hall
      go_wp2_with fail
      go_ret
      exact ⟨by rw [FIN.out]; rfl, HB.out⟩
theorem hasS_gen (CL : Nat) (caps : List Value) (p : St → Bool) (Ad : Option Addr) (n c B : Nat) (l : List St) (w : World) (hl : l.length = n) (hn : n ≤ maxLen) (hc : Cells w B Ad (flatS l)) (hB : B ≤ w.heap.size) (heg : ∀ args w', (callFunc CL args).run Try.prog w' = .ok (.enter CL args) w')
    (hcl : ∀ x, x ∈ l → ∀ w', Below w.heap.size w w' → Calls Try.prog CL ((.agg #[.string x.name, .slice x.A x.rows.length x.cap]) :: caps).toArray w' fun e w'' => e = .returned (.bool (p x)) ∧ Below w'.heap.size w' w'') :
    Calls Try.prog 69 #[.slice Ad n c, .func (.func CL) #[] caps.toArray] w fun e w' => e = .returned (.bool (l.any p)) ∧ Below w.heap.size w w' := by
  have IX := Troupe.hid (indexS_gen CL caps p Ad n c B l w hl hn hc hB heg hcl)
  clear hcl hc heg
  obtain ⟨q, hq⟩ : ∃ q, idxV l p = q := ⟨_, rfl⟩
  have hany := any_idx l p
  rw [hq] at IX hany
  have HA := Troupe.hid hany
  clear hany hq
  go_enter Try.func69, Try.ntmps69
  go_wp2_with fail
  refine IX.out.mono ?_
  rintro e w2 ⟨rfl, hb⟩
  have HB := Troupe.hid hb
  clear hb
  go_wp2_with fail
  go_ret
  exact ⟨by rw [HA.out]; rfl, HB.out⟩

set_option maxRecDepth 100000 in
theorem indexR_gen (CL : Nat) (caps : List Value) (p : Rw → Bool) (Ad : Option Addr) (n c B : Nat) (l : List Rw) (w : World) (hl : l.length = n) (hn : n ≤ maxLen) (hc : Cells w B Ad (flatR l)) (hB : B ≤ w.heap.size) (heg : ∀ args w', (callFunc CL args).run Try.prog w' = .ok (.enter CL args) w')
    (hcl : ∀ x, x ∈ l → ∀ w', Below w.heap.size w w' → Calls Try.prog CL ((.agg #[.string x.tag, .bool x.only, .int .i64 x.n, .slice x.A x.effs.length x.cap]) :: caps).toArray w' fun e w'' => e = .returned (.bool (p x)) ∧ Below w'.heap.size w' w'') :
    Calls Try.prog 76 #[.slice Ad n c, .func (.func CL) #[] caps.toArray] w fun e w' => e = .returned (.int .i64 (idxV l p)) ∧ Below w.heap.size w w' := by
  have hn' : n ≤ 9223372036854775807 := hn
  have C0 := Troupe.hid hc
  have CLO := Troupe.hid hcl
  clear hn hc hcl
  go_enter Try.func76, Try.ntmps76
  go_wp2_with fail
  go_loopw [8] (fun i wr => ∃ j : Nat, j ≤ n ∧ i = .int .i64 j ∧ (∀ y ∈ l.take j, p y = false) ∧ Below w.heap.size w wr) (fun i _ => n - (intOf i).toNat)
  case atStart => exact ⟨0, Nat.zero_le _, rfl, by simp, Below.refl _ _⟩
  case round =>
    obtain ⟨j, hj, rfl, hno, hb⟩ := hrel
    have NO := Troupe.hid hno
    have HB := Troupe.hid hb
    have C1 := Troupe.hid ((C0.out.mono hB).below hb)
    clear hno hb
    by_cases hlt : j < n
    · obtain ⟨x, hx⟩ : ∃ x, l[j]? = some x := ⟨_, List.getElem?_eq_getElem (by omega)⟩
      obtain ⟨b, off, rfl, _, h1⟩ := cells_at (sz := 4) (fun _ => rfl) (by decide) C1.out hx
      have d0 : wr.cell? ⟨b, off + j * 4, none⟩ = some (.string x.tag) := h1 0 (by decide) _ rfl
      have d1 : wr.cell? ⟨b, off + j * 4 + 1, none⟩ = some (.bool x.only) := h1 1 (by decide) _ rfl
      have d2 : wr.cell? ⟨b, off + j * 4 + 2, none⟩ = some (.int .i64 x.n) := h1 2 (by decide) _ rfl
      have d3 : wr.cell? ⟨b, off + j * 4 + 3, none⟩ = some (.slice x.A x.effs.length x.cap) := h1 3 (by decide) _ rfl
      have X := Troupe.hid hx
      have CX := Troupe.hid (CLO.out x (List.mem_of_getElem? hx) wr HB.out)
      clear h1 hx
      go_wp2_with fail
      refine CX.out.mono ?_
      rintro e w2 ⟨rfl, hb2⟩
      have B2 := Troupe.hid (HB.out.trans (hb2.mono HB.out.size))
      clear hb2 d0 d1 d2 d3
      by_cases hp : p x = true
      · rw [hp]
        have FIN := Troupe.hid (idxV_some (p := p) X.out hp NO.out)
        clear hp
        go_wp2_with fail
        go_ret
        exact ⟨by rw [FIN.out]; rfl, B2.out⟩
      · have hp' : p x = false := by simpa using hp
        rw [hp']
        have NO2 : Hid (∀ y ∈ l.take (j + 1), p y = false) := by
          intro y hy
          rw [List.take_add_one, X.out] at hy
          rcases List.mem_append.1 hy with h | h
          · exact NO.out y h
          · simp at h; subst h; exact hp'
        clear hp hp'
        go_wp2_with fail
        go_roundw
        case rel => exact ⟨j + 1, by omega, by go_num, NO2.out, B2.out⟩
        case measure => simp [intOf]; omega
    · have hall : idxV l p = -1 := idxV_none (by have h := NO.out; rwa [List.take_of_length_le (by omega)] at h)
      have FIN := Troupe.hid hall
      clear hall
      go_wp2_with fail
      go_ret
      exact ⟨by rw [FIN.out]; rfl, HB.out⟩
theorem hasR_gen (CL : Nat) (caps : List Value) (p : Rw → Bool) (Ad : Option Addr) (n c B : Nat) (l : List Rw) (w : World) (hl : l.length = n) (hn : n ≤ maxLen) (hc : Cells w B Ad (flatR l)) (hB : B ≤ w.heap.size) (heg : ∀ args w', (callFunc CL args).run Try.prog w' = .ok (.enter CL args) w')
    (hcl : ∀ x, x ∈ l → ∀ w', Below w.heap.size w w' → Calls Try.prog CL ((.agg #[.string x.tag, .bool x.only, .int .i64 x.n, .slice x.A x.effs.length x.cap]) :: caps).toArray w' fun e w'' => e = .returned (.bool (p x)) ∧ Below w'.heap.size w' w'') :
    Calls Try.prog 88 #[.slice Ad n c, .func (.func CL) #[] caps.toArray] w fun e w' => e = .returned (.bool (l.any p)) ∧ Below w.heap.size w w' := by
  have IX := Troupe.hid (indexR_gen CL caps p Ad n c B l w hl hn hc hB heg hcl)
  clear hcl hc heg
  obtain ⟨q, hq⟩ : ∃ q, idxV l p = q := ⟨_, rfl⟩
  have hany := any_idx l p
  rw [hq] at IX hany
  have HA := Troupe.hid hany
  clear hany hq
  go_enter Try.func88, Try.ntmps88
  go_wp2_with fail
  refine IX.out.mono ?_
  rintro e w2 ⟨rfl, hb⟩
  have HB := Troupe.hid hb
  clear hb
  go_wp2_with fail
  go_ret
  exact ⟨by rw [HA.out]; rfl, HB.out⟩

set_option maxRecDepth 100000 in
theorem indexE_gen (CL : Nat) (caps : List Value) (p : Eff → Bool) (Ad : Option Addr) (n c B : Nat) (l : List Eff) (w : World) (hl : l.length = n) (hn : n ≤ maxLen) (hc : Cells w B Ad (flatE l)) (hB : B ≤ w.heap.size) (heg : ∀ args w', (callFunc CL args).run Try.prog w' = .ok (.enter CL args) w')
    (hcl : ∀ x, x ∈ l → ∀ w', Below w.heap.size w w' → Calls Try.prog CL ((.agg #[.int .i64 x.d, .string x.ref, .string x.slot, .string x.name, .int .i64 x.v, .int .i64 x.n, .int .i64 x.delay]) :: caps).toArray w' fun e w'' => e = .returned (.bool (p x)) ∧ Below w'.heap.size w' w'') :
    Calls Try.prog 93 #[.slice Ad n c, .func (.func CL) #[] caps.toArray] w fun e w' => e = .returned (.int .i64 (idxV l p)) ∧ Below w.heap.size w w' := by
  have hn' : n ≤ 9223372036854775807 := hn
  have C0 := Troupe.hid hc
  have CLO := Troupe.hid hcl
  clear hn hc hcl
  go_enter Try.func93, Try.ntmps93
  go_wp2_with fail
  go_loopw [8] (fun i wr => ∃ j : Nat, j ≤ n ∧ i = .int .i64 j ∧ (∀ y ∈ l.take j, p y = false) ∧ Below w.heap.size w wr) (fun i _ => n - (intOf i).toNat)
  case atStart => exact ⟨0, Nat.zero_le _, rfl, by simp, Below.refl _ _⟩
  case round =>
    obtain ⟨j, hj, rfl, hno, hb⟩ := hrel
    have NO := Troupe.hid hno
    have HB := Troupe.hid hb
    have C1 := Troupe.hid ((C0.out.mono hB).below hb)
    clear hno hb
    by_cases hlt : j < n
    · obtain ⟨x, hx⟩ : ∃ x, l[j]? = some x := ⟨_, List.getElem?_eq_getElem (by omega)⟩
      obtain ⟨b, off, rfl, _, h1⟩ := cells_at (sz := 7) (fun _ => rfl) (by decide) C1.out hx
      have d0 : wr.cell? ⟨b, off + j * 7, none⟩ = some (.int .i64 x.d) := h1 0 (by decide) _ rfl
      have d1 : wr.cell? ⟨b, off + j * 7 + 1, none⟩ = some (.string x.ref) := h1 1 (by decide) _ rfl
      have d2 : wr.cell? ⟨b, off + j * 7 + 2, none⟩ = some (.string x.slot) := h1 2 (by decide) _ rfl
      have d3 : wr.cell? ⟨b, off + j * 7 + 3, none⟩ = some (.string x.name) := h1 3 (by decide) _ rfl
      have d4 : wr.cell? ⟨b, off + j * 7 + 4, none⟩ = some (.int .i64 x.v) := h1 4 (by decide) _ rfl
      have d5 : wr.cell? ⟨b, off + j * 7 + 5, none⟩ = some (.int .i64 x.n) := h1 5 (by decide) _ rfl
      have d6 : wr.cell? ⟨b, off + j * 7 + 6, none⟩ = some (.int .i64 x.delay) := h1 6 (by decide) _ rfl
      have X := Troupe.hid hx
      have CX := Troupe.hid (CLO.out x (List.mem_of_getElem? hx) wr HB.out)
      clear h1 hx
      go_wp2_with fail
      refine CX.out.mono ?_
      rintro e w2 ⟨rfl, hb2⟩
      have B2 := Troupe.hid (HB.out.trans (hb2.mono HB.out.size))
      clear hb2 d0 d1 d2 d3 d4 d5 d6
      by_cases hp : p x = true
      · rw [hp]
        have FIN := Troupe.hid (idxV_some (p := p) X.out hp NO.out)
        clear hp
        go_wp2_with fail
        go_ret
        exact ⟨by rw [FIN.out]; rfl, B2.out⟩
      · have hp' : p x = false := by simpa using hp
        rw [hp']
        have NO2 : Hid (∀ y ∈ l.take (j + 1), p y = false) := by
          intro y hy
          rw [List.take_add_one, X.out] at hy
          rcases List.mem_append.1 hy with h | h
          · exact NO.out y h
          · simp at h; subst h; exact hp'
        clear hp hp'
        go_wp2_with fail
        go_roundw
        case rel => exact ⟨j + 1, by omega, by go_num, NO2.out, B2.out⟩
        case measure => simp [intOf]; omega
    · have hall : idxV l p = -1 := idxV_none (by have h := NO.out; rwa [List.take_of_length_le (by omega)] at h)
      have FIN := Troupe.hid hall
      clear hall
      go_wp2_with fail
      go_ret
      exact ⟨by rw [FIN.out]; rfl, HB.out⟩
theorem hasE_gen (CL : Nat) (caps : List Value) (p : Eff → Bool) (Ad : Option Addr) (n c B : Nat) (l : List Eff) (w : World) (hl : l.length = n) (hn : n ≤ maxLen) (hc : Cells w B Ad (flatE l)) (hB : B ≤ w.heap.size) (heg : ∀ args w', (callFunc CL args).run Try.prog w' = .ok (.enter CL args) w')
    (hcl : ∀ x, x ∈ l → ∀ w', Below w.heap.size w w' → Calls Try.prog CL ((.agg #[.int .i64 x.d, .string x.ref, .string x.slot, .string x.name, .int .i64 x.v, .int .i64 x.n, .int .i64 x.delay]) :: caps).toArray w' fun e w'' => e = .returned (.bool (p x)) ∧ Below w'.heap.size w' w'') :
    Calls Try.prog 86 #[.slice Ad n c, .func (.func CL) #[] caps.toArray] w fun e w' => e = .returned (.bool (l.any p)) ∧ Below w.heap.size w w' := by
  have IX := Troupe.hid (indexE_gen CL caps p Ad n c B l w hl hn hc hB heg hcl)
  clear hcl hc heg
  obtain ⟨q, hq⟩ : ∃ q, idxV l p = q := ⟨_, rfl⟩
  have hany := any_idx l p
  rw [hq] at IX hany
  have HA := Troupe.hid hany
  clear hany hq
  go_enter Try.func86, Try.ntmps86
  go_wp2_with fail
  refine IX.out.mono ?_
  rintro e w2 ⟨rfl, hb⟩
  have HB := Troupe.hid hb
  clear hb
  go_wp2_with fail
  go_ret
  exact ⟨by rw [HA.out]; rfl, HB.out⟩
end Go.Proofs.Ytkjjhndccelbcaa
