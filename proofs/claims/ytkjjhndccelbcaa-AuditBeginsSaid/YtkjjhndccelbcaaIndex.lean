/- slices.IndexFunc at states and at rows, by contracts. -/
import Derived.Test.YtkjjhndccelbcaaData
namespace Go.Proofs.Ytkjjhndccelbcaa
open Go.RowKit Go.Maps Go.Troupe

def idxV {α : Type} (l : List α) (p : α → Bool) : Int := match l.findIdx? p with | some i => i | none => -1
section
variable {α : Type} {l : List α} {p : α → Bool}
theorem idxV_none (h : ∀ x ∈ l, p x = false) : idxV l p = -1 := by
  have : l.findIdx? p = none := List.findIdx?_eq_none_iff.2 h
  simp [idxV, this]
theorem idxV_some {i : Nat} {x : α} (hx : l[i]? = some x) (h : p x = true) (hl : ∀ y ∈ l.take i, p y = false) : idxV l p = i := by
  have : l.findIdx? p = some i := by
    have hi := (List.getElem?_eq_some_iff.1 hx).1
    rw [List.findIdx?_eq_some_iff_getElem]
    refine ⟨hi, by rw [(List.getElem?_eq_some_iff.1 hx).2]; exact h, fun j hj => ?_⟩
    have := hl (l[j]'(by omega)) (by
      rw [List.mem_iff_getElem?]
      exact ⟨j, by rw [List.getElem?_take, if_pos hj]; simp⟩)
    simp [this]
  simp [idxV, this]
theorem find_at {i : Nat} {x : α} (hx : l[i]? = some x) (h : p x = true) (hl : ∀ y ∈ l.take i, p y = false) : l.find? p = some x := by
  induction l generalizing i with
  | nil => simp at hx
  | cons y l ih =>
    cases i with
    | zero => simp at hx; subst hx; simp [h]
    | succ i =>
      have h0 : p y = false := hl y (by simp)
      rw [List.find?_cons, h0]
      exact ih (by simpa using hx) (fun z hz => hl z (by simp [hz]))
theorem idxV_cases (l : List α) (p : α → Bool) : (idxV l p = -1 ∧ l.find? p = none) ∨ ∃ i x, idxV l p = (i : Nat) ∧ l[i]? = some x ∧ l.find? p = some x := by
  unfold idxV
  cases h : l.findIdx? p with
  | none => exact .inl ⟨rfl, List.find?_eq_none.2 (fun x hx => by have := List.findIdx?_eq_none_iff.1 h x hx; simp [this])⟩
  | some i =>
    obtain ⟨hi, h1, h2⟩ := List.findIdx?_eq_some_iff_getElem.1 h
    refine .inr ⟨i, l[i], rfl, List.getElem?_eq_getElem hi, find_at (List.getElem?_eq_getElem hi) h1 (fun y hy => ?_)⟩
    obtain ⟨j, hj⟩ := List.mem_iff_getElem?.1 hy
    rw [List.getElem?_take] at hj
    split at hj
    · rename_i hji
      have := h2 j hji
      rw [List.getElem?_eq_getElem (by omega)] at hj
      cases hj
      simpa using this
    · cases hj
end
def nameV (want : ByteArray) (x : St) : Bool := x.name.toList == want.toList
theorem closS_any (x : St) (want : ByteArray) (g : Nat) (w : World) (h : w.cell? ⟨g, 0, none⟩ = some (.string want)) :
    Calls Try.prog 75 #[.agg #[.string x.name, .slice x.A x.rows.length x.cap], .pointer (some ⟨g, 0, none⟩)] w fun e w' => e = .returned (.bool (nameV want x)) ∧ Below w.heap.size w w' := by
  unfold nameV
  have hgl := block_lt_of_cell h
  have h' : (w.alloc (.cells #[.string x.name, .slice x.A x.rows.length x.cap] 63)).cell? ⟨g, 0, none⟩ = some (.string want) := (World.cell?_of_block (Below.heap_alloc _ _ _ hgl)).trans h
  clear h
  go_enter Try.func75, Try.ntmps75
  go_wp2
  go_ret
  exact ⟨rfl, (Below.refl _ _).alloc (Nat.le_refl _) _⟩
set_option maxRecDepth 100000 in
theorem closR_any (x : Rw) (tag : ByteArray) (m : Int) (g1 g2 : Nat) (w : World) (h1 : w.cell? ⟨g1, 0, none⟩ = some (.string tag)) (h2 : w.cell? ⟨g2, 0, none⟩ = some (.int .i64 m)) :
    Calls Try.prog 77 #[.agg #[.string x.tag, .bool x.only, .int .i64 x.n, .slice x.A x.effs.length x.cap], .pointer (some ⟨g1, 0, none⟩), .pointer (some ⟨g2, 0, none⟩)] w fun e w' => e = .returned (.bool (fitsV tag m x)) ∧ Below w.heap.size w w' := by
  have hgl1 := block_lt_of_cell h1
  have hgl2 := block_lt_of_cell h2
  have k1 : (w.alloc (.cells #[.string x.tag, .bool x.only, .int .i64 x.n, .slice x.A x.effs.length x.cap] 60)).cell? ⟨g1, 0, none⟩ = some (.string tag) := (World.cell?_of_block (Below.heap_alloc _ _ _ hgl1)).trans h1
  have k2 : (w.alloc (.cells #[.string x.tag, .bool x.only, .int .i64 x.n, .slice x.A x.effs.length x.cap] 60)).cell? ⟨g2, 0, none⟩ = some (.int .i64 m) := (World.cell?_of_block (Below.heap_alloc _ _ _ hgl2)).trans h2
  have hb : Below w.heap.size w (w.alloc (.cells #[.string x.tag, .bool x.only, .int .i64 x.n, .slice x.A x.effs.length x.cap] 60)) := (Below.refl _ _).alloc (Nat.le_refl _) _
  have HB := Troupe.hid hb
  clear h1 h2 hb
  unfold fitsV
  obtain ⟨t, ht⟩ : ∃ t, x.tag.toList = t := ⟨_, rfl⟩
  obtain ⟨u, hu⟩ : ∃ u, tag.toList = u := ⟨_, rfl⟩
  rw [ht, hu]
  by_cases he : t = []
  · subst he
    go_enter Try.func77, Try.ntmps77
    go_wp2
    go_ret
    exact ⟨rfl, HB.out⟩
  have heb : (t == []) = false := by rw [beq_eq_false_iff_ne]; exact he
  rw [heb]
  by_cases htu : t = u
  · subst htu
    have e1 : (t == t) = true := by simp
    rw [e1]
    cases hx : x.only
    · rw [hx] at k1 k2
      go_enter Try.func77, Try.ntmps77
      go_wp2
      go_ret
      exact ⟨rfl, by have := HB.out; rwa [hx] at this⟩
    · rw [hx] at k1 k2
      go_enter Try.func77, Try.ntmps77
      go_wp2
      go_ret
      exact ⟨rfl, by have := HB.out; rwa [hx] at this⟩
  · have e1 : (t == u) = false := by rw [beq_eq_false_iff_ne]; exact htu
    rw [e1]
    go_enter Try.func77, Try.ntmps77
    go_wp2
    go_ret
    exact ⟨rfl, HB.out⟩

def IdxS (w : World) (l : List St) (p : St → Bool) (e : Ending) (w' : World) : Prop := e = .returned (.int .i64 (idxV l p)) ∧ Below w.heap.size w w'
set_option maxRecDepth 100000 in
theorem indexS_any (want : ByteArray) (g : Nat) (Ad : Option Addr) (n c B : Nat) (l : List St) (w : World) (hl : l.length = n) (hn : n ≤ maxLen) (hc : Cells w B Ad (flatS l)) (hB : B ≤ w.heap.size)
    (hg : w.cell? ⟨g, 0, none⟩ = some (.string want)) :
    Calls Try.prog 74 #[.slice Ad n c, .func (.func 75) #[] #[.pointer (some ⟨g, 0, none⟩)]] w (IdxS w l (nameV want)) := by
  have hn' : n ≤ 9223372036854775807 := hn
  have hG := Troupe.hid hg
  have hgl := block_lt_of_cell hg
  clear hg
  have C0 := Troupe.hid hc
  clear hn hc
  go_enter Try.func74, Try.ntmps74
  go_wp2_with fail
  go_loopw [8] (fun i wr => ∃ j : Nat, j ≤ n ∧ i = .int .i64 j ∧ (∀ y ∈ l.take j, (nameV want) y = false) ∧ Below w.heap.size w wr) (fun i _ => n - (intOf i).toNat)
  case atStart => exact ⟨0, Nat.zero_le _, rfl, by simp, Below.refl _ _⟩
  case round =>
    obtain ⟨j, hj, rfl, hno, hb⟩ := hrel
    have NO := Troupe.hid hno
    have HB := Troupe.hid hb
    have C1 := Troupe.hid ((C0.out.mono hB).below hb)
    clear hno hb
    by_cases hlt : j < n
    · obtain ⟨x, hx⟩ : ∃ x, l[j]? = some x := ⟨_, List.getElem?_eq_getElem (by omega)⟩
      obtain ⟨b, off, rfl, _, h1⟩ := cells_at (sz := 2) (fun _ => rfl) (by decide) C1.out hx
      have d0 : wr.cell? ⟨b, off + j * 2, none⟩ = some (.string x.name) := h1 0 (by decide) _ rfl
      have d1 : wr.cell? ⟨b, off + j * 2 + 1, none⟩ = some (.slice x.A x.rows.length x.cap) := h1 1 (by decide) _ rfl
      have X := Troupe.hid hx
      clear h1 hx
      go_wp2_with fail
      refine (closS_any x want g wr ((HB.out.cell hgl).trans hG.out)).mono ?_
      rintro e w2 ⟨rfl, hb2⟩
      have B2 := Troupe.hid (HB.out.trans (hb2.mono HB.out.size))
      clear hb2 d0 d1
      by_cases hp : (nameV want) x = true
      · rw [hp]
        have FIN := Troupe.hid (idxV_some (p := nameV want) X.out hp NO.out)
        clear hp
        go_wp2_with fail
        go_ret
        exact ⟨by rw [FIN.out]; rfl, B2.out⟩
      · have hp' : (nameV want) x = false := by simpa using hp
        rw [hp']
        have NO2 : Hid (∀ y ∈ l.take (j + 1), (nameV want) y = false) := by
          intro y hy
          rw [List.take_add_one, X.out] at hy
          rcases List.mem_append.1 hy with h | h
          · exact NO.out y h
          · simp at h; subst h; exact hp'
        clear hp hp'
        go_wp2_with fail
        go_roundw
        case rel => exact ⟨j + 1, by omega, by go_num, NO2.out, B2.out⟩
        case measure => simp [intOf]; omega
    · have hall : idxV l (nameV want) = -1 := idxV_none (by have h := NO.out; rwa [List.take_of_length_le (by omega)] at h)
      have FIN := Troupe.hid hall
      clear hall
      go_wp2_with fail
      go_ret
      exact ⟨by rw [FIN.out]; rfl, HB.out⟩

def IdxR (w : World) (l : List Rw) (p : Rw → Bool) (e : Ending) (w' : World) : Prop := e = .returned (.int .i64 (idxV l p)) ∧ Below w.heap.size w w'
set_option maxRecDepth 100000 in
theorem indexR_any (tag : ByteArray) (m : Int) (g1 g2 : Nat) (Ad : Option Addr) (n c B : Nat) (l : List Rw) (w : World) (hl : l.length = n) (hn : n ≤ maxLen) (hc : Cells w B Ad (flatR l)) (hB : B ≤ w.heap.size)
    (hg1 : w.cell? ⟨g1, 0, none⟩ = some (.string tag)) (hg2 : w.cell? ⟨g2, 0, none⟩ = some (.int .i64 m)) :
    Calls Try.prog 76 #[.slice Ad n c, .func (.func 77) #[] #[.pointer (some ⟨g1, 0, none⟩), .pointer (some ⟨g2, 0, none⟩)]] w (IdxR w l (fitsV tag m)) := by
  have hn' : n ≤ 9223372036854775807 := hn
  have hG1 := Troupe.hid hg1
  have hgl1 := block_lt_of_cell hg1
  have hG2 := Troupe.hid hg2
  have hgl2 := block_lt_of_cell hg2
  clear hg1 hg2
  have C0 := Troupe.hid hc
  clear hn hc
  go_enter Try.func76, Try.ntmps76
  go_wp2_with fail
  go_loopw [8] (fun i wr => ∃ j : Nat, j ≤ n ∧ i = .int .i64 j ∧ (∀ y ∈ l.take j, (fitsV tag m) y = false) ∧ Below w.heap.size w wr) (fun i _ => n - (intOf i).toNat)
  case atStart => exact ⟨0, Nat.zero_le _, rfl, by simp, Below.refl _ _⟩
  case round =>
    obtain ⟨j, hj, rfl, hno, hb⟩ := hrel
    have NO := Troupe.hid hno
    have HB := Troupe.hid hb
    have C1 := Troupe.hid ((C0.out.mono hB).below hb)
    clear hno hb
    by_cases hlt : j < n
    · obtain ⟨x, hx⟩ : ∃ x, l[j]? = some x := ⟨_, List.getElem?_eq_getElem (by omega)⟩
      obtain ⟨b, off, rfl, _, h1⟩ := cells_at (sz := 4) (fun _ => rfl) (by decide) C1.out hx
      have d0 : wr.cell? ⟨b, off + j * 4, none⟩ = some (.string x.tag) := h1 0 (by decide) _ rfl
      have d1 : wr.cell? ⟨b, off + j * 4 + 1, none⟩ = some (.bool x.only) := h1 1 (by decide) _ rfl
      have d2 : wr.cell? ⟨b, off + j * 4 + 2, none⟩ = some (.int .i64 x.n) := h1 2 (by decide) _ rfl
      have d3 : wr.cell? ⟨b, off + j * 4 + 3, none⟩ = some (.slice x.A x.effs.length x.cap) := h1 3 (by decide) _ rfl
      have X := Troupe.hid hx
      clear h1 hx
      go_wp2_with fail
      refine (closR_any x tag m g1 g2 wr ((HB.out.cell hgl1).trans hG1.out) ((HB.out.cell hgl2).trans hG2.out)).mono ?_
      rintro e w2 ⟨rfl, hb2⟩
      have B2 := Troupe.hid (HB.out.trans (hb2.mono HB.out.size))
      clear hb2 d0 d1 d2 d3
      by_cases hp : (fitsV tag m) x = true
      · rw [hp]
        have FIN := Troupe.hid (idxV_some (p := fitsV tag m) X.out hp NO.out)
        clear hp
        go_wp2_with fail
        go_ret
        exact ⟨by rw [FIN.out]; rfl, B2.out⟩
      · have hp' : (fitsV tag m) x = false := by simpa using hp
        rw [hp']
        have NO2 : Hid (∀ y ∈ l.take (j + 1), (fitsV tag m) y = false) := by
          intro y hy
          rw [List.take_add_one, X.out] at hy
          rcases List.mem_append.1 hy with h | h
          · exact NO.out y h
          · simp at h; subst h; exact hp'
        clear hp hp'
        go_wp2_with fail
        go_roundw
        case rel => exact ⟨j + 1, by omega, by go_num, NO2.out, B2.out⟩
        case measure => simp [intOf]; omega
    · have hall : idxV l (fitsV tag m) = -1 := idxV_none (by have h := NO.out; rwa [List.take_of_length_le (by omega)] at h)
      have FIN := Troupe.hid hall
      clear hall
      go_wp2_with fail
      go_ret
      exact ⟨by rw [FIN.out]; rfl, HB.out⟩
end Go.Proofs.Ytkjjhndccelbcaa
