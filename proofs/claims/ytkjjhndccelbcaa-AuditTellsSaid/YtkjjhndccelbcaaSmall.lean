/- The small functions of the book, by contracts. -/
import Derived.Test.YtkjjhndccelbcaaBook
namespace Go.Proofs.Ytkjjhndccelbcaa
open Go.RowKit Go.Maps Go.Troupe

set_option maxRecDepth 100000 in
theorem letter_any {w : World} {base gb ca cl : Nat} {pv : Value} {Aa Al : Option Addr} {bk : Bk} {ag lg : List Nat} (h : BookAt w base gb pv Aa ca Al cl bk ag lg) (id : Int) (hid : 0 ≤ id ∧ id < 18446744073709551616) (hl : bk.lts.length ≤ 140737488355328) :
    Calls Try.prog 39 #[.pointer (some ⟨gb, 0, none⟩), .int .u64 id] w fun e w' => e = .returned (lptr lg (ltV bk.lts id)) ∧ w = w' := by
  have e0 := h.blk.cell
  have la := h.ll
  obtain ⟨hid0, hid1⟩ := hid
  rcases ltV_cases bk.lts id with ⟨hv, hc⟩ | ⟨i, a, hv, rfl, hx, hi⟩
  · rw [hv]
    clear h hv
    by_cases h1 : id < 1
    · go_enter Try.func39, Try.ntmps39
      go_wp2_with fail
      go_ret
      exact ⟨rfl, rfl⟩
    · have h2 : (lg.length : Int) < id := by omega
      have h1' : 1 ≤ id := by omega
      have h3 : lg.length ≤ 140737488355328 := by omega
      clear hc la
      go_enter Try.func39, Try.ntmps39
      go_wp2_with fail
      go_ret
      exact ⟨rfl, rfl⟩
  · rw [hv]
    obtain ⟨g, hg⟩ : ∃ g, lg[i]? = some g := ⟨_, List.getElem?_eq_getElem (by omega)⟩
    have hA : lptr lg (some (i, a)) = .pointer (some ⟨g, 0, none⟩) := by unfold lptr gptr; simp [hg]
    rw [hA]
    obtain ⟨b, o, rfl, _, hc⟩ := cells_at (sz := 1) (fun _ => rfl) (by decide) (own_cells h.ol) hg
    have d0 : w.cell? ⟨b, o + i, none⟩ = some (.pointer (some ⟨g, 0, none⟩)) := by have := hc 0 (by decide) _ rfl; rwa [Nat.mul_one, Nat.add_zero] at this
    have h1 : ¬ ((i : Int) + 1 < 1) := by omega
    have h2 : ¬ ((lg.length : Int) < (i : Int) + 1) := by omega
    have hi' : i < lg.length := by omega
    have h3 : (1 : Int) ≤ (i : Int) + 1 := by omega
    have h4 : (i : Int) + 1 ≤ (lg.length : Int) := by omega
    have hi3 : i < 140737488355328 := by omega
    have h5 : lg.length ≤ 140737488355328 := by omega
    clear h hv la hA hc hg hx hi
    go_enter Try.func39, Try.ntmps39
    go_wp2_with fail
    go_ret
    exact ⟨rfl, rfl⟩

/-! ### modes -/
def ints (l : List Int) : List Value := l.flatMap fun n => [Value.int .i64 n]
def eqV (v : Int) (x : Int) : Bool := v == x
set_option maxRecDepth 100000 in
theorem indexI_any (Ad : Option Addr) (n c B : Nat) (l : List Int) (v : Int) (w : World) (hl : l.length = n) (hn : n ≤ maxLen) (hc : Cells w B Ad (ints l)) :
    Calls Try.prog 73 #[.slice Ad n c, .int .i64 v] w fun e w' => e = .returned (.int .i64 (idxV l (eqV v))) ∧ w = w' := by
  have hn' : n ≤ 9223372036854775807 := hn
  have C0 := Troupe.hid hc
  clear hn hc
  go_enter Try.func73, Try.ntmps73
  go_wp2_with fail
  go_loopw [8] (fun i wr => ∃ j : Nat, j ≤ n ∧ i = .int .i64 j ∧ (∀ y ∈ l.take j, (eqV v) y = false) ∧ wr = w) (fun i _ => n - (intOf i).toNat)
  case atStart => exact ⟨0, Nat.zero_le _, rfl, by simp, rfl⟩
  case round =>
    obtain ⟨j, hj, rfl, hno, hw⟩ := hrel
    obtain rfl := hw.symm
    have NO := Troupe.hid hno
    clear hno
    by_cases hlt : j < n
    · obtain ⟨x, hx⟩ : ∃ x, l[j]? = some x := ⟨_, List.getElem?_eq_getElem (by omega)⟩
      obtain ⟨b, off, rfl, _, h1⟩ := cells_at (f := fun n => [Value.int .i64 n]) (sz := 1) (fun _ => rfl) (by decide) C0.out hx
      have d0 : w.cell? ⟨b, off + j, none⟩ = some (.int .i64 x) := by have := h1 0 (by decide) _ rfl; rwa [Nat.mul_one, Nat.add_zero] at this
      have X := Troupe.hid hx
      clear h1 hx
      cases hp : (v == x) with
      | true =>
        have FIN := Troupe.hid (idxV_some (p := eqV v) X.out hp NO.out)
        go_wp2_with fail
        go_ret
        exact ⟨by rw [FIN.out]; rfl, rfl⟩
      | false =>
        have NO2 : Hid (∀ y ∈ l.take (j + 1), (eqV v) y = false) := by
          intro y hy
          rw [List.take_add_one, X.out] at hy
          rcases List.mem_append.1 hy with h | h
          · exact NO.out y h
          · simp at h; subst h; exact hp
        go_wp2_with fail
        go_roundw
        case rel => exact ⟨j + 1, by omega, by go_num, NO2.out, by trivial⟩
        case measure => simp [intOf]; omega
    · have hall : idxV l (eqV v) = -1 := idxV_none (by have h := NO.out; rwa [List.take_of_length_le (by omega)] at h)
      have FIN := Troupe.hid hall
      clear hall
      go_wp2_with fail
      go_ret
      exact ⟨by rw [FIN.out]; rfl, rfl⟩
theorem hasI_any (Ad : Option Addr) (n c B : Nat) (l : List Int) (v : Int) (w : World) (hl : l.length = n) (hn : n ≤ maxLen) (hc : Cells w B Ad (ints l)) :
    Calls Try.prog 55 #[.slice Ad n c, .int .i64 v] w fun e w' => e = .returned (.bool (l.any (eqV v))) ∧ w = w' := by
  have IX := Troupe.hid (indexI_any Ad n c B l v w hl hn hc)
  clear hc
  obtain ⟨q, hq⟩ : ∃ q, idxV l (eqV v) = q := ⟨_, rfl⟩
  have hany := any_idx l (eqV v)
  rw [hq] at IX hany
  have HA := Troupe.hid hany
  clear hany hq
  go_enter Try.func55, Try.ntmps55
  go_wp2_with fail
  refine IX.out.mono ?_
  rintro e w2 ⟨rfl, rfl⟩
  go_wp2_with fail
  go_ret
  exact ⟨by rw [HA.out]; rfl, rfl⟩
def isV (x : Option (Nat × Ac)) (modes : List Int) : Bool := match x with | some (_, a) => modes.any (eqV a.mode) | none => false
def worksV (x : Option (Nat × Ac)) : Bool := match x with | some (_, a) => a.work.isSome | none => false
/-- An actor that was found, in memory. -/
theorem ac_found {w : World} {base gb ca cl : Nat} {pv : Value} {Aa Al : Option Addr} {bk : Bk} {ag lg : List Nat} (h : BookAt w base gb pv Aa ca Al cl bk ag lg) {id : Int} {i : Nat} {a : Ac} (hv : acV bk.acs id = some (i, a)) :
    ∃ g, ag[i]? = some g ∧ bk.acs[i]? = some a ∧ aptr ag (acV bk.acs id) = .pointer (some ⟨g, 0, none⟩) ∧ ActorAt w base lg g i a := by
  rcases acV_cases bk.acs id with ⟨h1, -⟩ | ⟨i', a', h1, -, hx, hi⟩
  · rw [h1] at hv; cases hv
  · rw [h1] at hv
    cases hv
    obtain ⟨g, hg⟩ : ∃ g, ag[i]? = some g := ⟨_, List.getElem?_eq_getElem (by rw [h.la]; exact hi)⟩
    exact ⟨g, hg, hx, by rw [h1]; unfold aptr gptr; simp [hg], h.ac i a g hx hg⟩
theorem lt_found {w : World} {base gb ca cl : Nat} {pv : Value} {Aa Al : Option Addr} {bk : Bk} {ag lg : List Nat} (h : BookAt w base gb pv Aa ca Al cl bk ag lg) {id : Int} {i : Nat} {a : Lt} (hv : ltV bk.lts id = some (i, a)) :
    ∃ g, lg[i]? = some g ∧ bk.lts[i]? = some a ∧ lptr lg (ltV bk.lts id) = .pointer (some ⟨g, 0, none⟩) ∧ Blk w g 84 a.cells := by
  rcases ltV_cases bk.lts id with ⟨h1, -⟩ | ⟨i', a', h1, -, hx, hi⟩
  · rw [h1] at hv; cases hv
  · rw [h1] at hv
    cases hv
    obtain ⟨g, hg⟩ : ∃ g, lg[i]? = some g := ⟨_, List.getElem?_eq_getElem (by rw [h.ll]; exact hi)⟩
    exact ⟨g, hg, hx, by rw [h1]; unfold lptr gptr; simp [hg], h.lt i a g hx hg⟩
theorem gptr_isSome {l : List Nat} {j : Option Nat} (h : ∀ i, j = some i → i < l.length) : (gptr l j = .pointer none ∧ j.isSome = false) ∨ ∃ g, gptr l j = .pointer (some ⟨g, 0, none⟩) ∧ j.isSome = true := by
  cases j with
  | none => exact .inl ⟨rfl, rfl⟩
  | some i =>
    have hi := h i rfl
    exact .inr ⟨l[i], by unfold gptr; simp [hi], rfl⟩
theorem works_any {w : World} {base gb ca cl : Nat} {pv : Value} {Aa Al : Option Addr} {bk : Bk} {ag lg : List Nat} (h : BookAt w base gb pv Aa ca Al cl bk ag lg) (id : Int) :
    Calls Try.prog 36 #[aptr ag (acV bk.acs id)] w fun e w' => e = .returned (.bool (worksV (acV bk.acs id))) ∧ w = w' := by
  cases hv : acV bk.acs id with
  | none =>
    unfold worksV aptr gptr
    dsimp only [Option.map_none, Option.bind_none]
    go_enter Try.func36, Try.ntmps36
    go_wp2_with fail
    go_ret
    exact ⟨rfl, rfl⟩
  | some p =>
    obtain ⟨i, a⟩ := p
    obtain ⟨g, hg, hx, hp, k', A, n, c, hb, -, -⟩ := ac_found h hv
    rw [hv] at hp
    rw [hp]
    have e0 := hb.cell
    dsimp only [Ac.cells] at e0
    have hw : ∀ j, a.work = some j → j < lg.length := fun j hj => by rw [h.ll]; exact h.wk a (List.mem_of_getElem? hx) j hj
    unfold worksV
    dsimp only
    rcases gptr_isSome hw with ⟨h1, h2⟩ | ⟨gl, h1, h2⟩
    · rw [h1] at e0
      rw [h2]
      clear h hb hp hg hx hw h1 h2 hv
      go_enter Try.func36, Try.ntmps36
      go_wp2_with fail
      go_ret
      exact ⟨rfl, rfl⟩
    · rw [h1] at e0
      rw [h2]
      clear h hb hp hg hx hw h1 h2 hv
      go_enter Try.func36, Try.ntmps36
      go_wp2_with fail
      go_ret
      exact ⟨rfl, rfl⟩
theorem is_any {w : World} {base gb ca cl : Nat} {pv : Value} {Aa Al : Option Addr} {bk : Bk} {ag lg : List Nat} (h : BookAt w base gb pv Aa ca Al cl bk ag lg) (id : Int) (Am : Option Addr) (n c : Nat) (modes : List Int) (hl : modes.length = n) (hn : n ≤ maxLen) (hc : Cells w w.heap.size Am (ints modes)) :
    Calls Try.prog 37 #[aptr ag (acV bk.acs id), .slice Am n c] w fun e w' => e = .returned (.bool (isV (acV bk.acs id) modes)) ∧ w = w' := by
  cases hv : acV bk.acs id with
  | none =>
    unfold isV aptr gptr
    dsimp only [Option.map_none, Option.bind_none]
    clear hc h hv
    go_enter Try.func37, Try.ntmps37
    go_wp2_with fail
    go_ret
    exact ⟨rfl, rfl⟩
  | some p =>
    obtain ⟨i, a⟩ := p
    obtain ⟨g, hg, hx, hp, k', A, n', c', hb, -, -⟩ := ac_found h hv
    rw [hv] at hp
    rw [hp]
    have e0 := hb.cell
    dsimp only [Ac.cells] at e0
    unfold isV
    dsimp only
    have HI := Troupe.hid (hasI_any Am n c w.heap.size modes a.mode w hl hn hc)
    obtain ⟨r, hr⟩ : ∃ r, modes.any (eqV a.mode) = r := ⟨_, rfl⟩
    rw [hr] at HI ⊢
    clear h hb hp hg hx hv hc hr
    go_enter Try.func37, Try.ntmps37
    go_wp2_with fail
    refine HI.out.mono ?_
    rintro e w2 ⟨rfl, rfl⟩
    go_wp2_with fail
    go_ret
    exact ⟨rfl, rfl⟩
end Go.Proofs.Ytkjjhndccelbcaa
