/- slices.BinarySearchFunc at the area's regions, by contract. -/
import Derived.Test.YtcgdghnmcahfeaaClos
namespace Go.Proofs.Ytcgdghnmcahfeaa
open Go.RowKit Go.Maps Go.Troupe

/-- How a search ends: at a region that begins at t, or nowhere. -/
def Sought (w : World) (l : List Rg) (t : Int) (e : Ending) (w' : World) : Prop :=
  (∃ i : Nat, ∃ ok : Bool, e = .returned (.tuple #[.int .i64 i, .bool ok]) ∧ (ok = true → ∃ r, l[i]? = some r ∧ (r.1 : Int) = t) ∧ (ok = false → ∀ r ∈ l, (r.1 : Int) ≠ t)) ∧ Below w.heap.size w w'
theorem cmpV_neg {a b : Int} : cmpV a b < 0 ↔ a < b := by
  unfold cmpV; split
  · simp [*]
  · split <;> simp [*]
theorem cmpV_zero {a b : Int} : cmpV a b = 0 ↔ a = b := by
  unfold cmpV; split
  · constructor
    · intro h; omega
    · intro h; omega
  · split
    · constructor
      · intro h; omega
      · intro h; omega
    · constructor
      · intro _; omega
      · intro _; rfl
set_option maxRecDepth 100000 in
set_option maxHeartbeats 1000000 in
theorem search_any (t : Int) (Ad : Option Addr) (n c B e0 N : Nat) (l : List Rg) (w : World) (hl : l.length = n) (hn : n ≤ 65536) (hc : Cells w B Ad (flatG l)) (hB : B ≤ w.heap.size) (hok : Ok e0 N l) :
    Calls Try.prog 24 #[.slice Ad n c, .int .i64 t, .func (.func 25) #[] #[]] w (Sought w l t) := by
  have C0 := Troupe.hid hc
  have OK := Troupe.hid hok
  clear hc hok
  go_enter Try.func24, Try.ntmps24
  go_wp2_with fail
  go_loopw [9, 10] (fun v9 v10 wr => ∃ lo hi : Nat, v9 = .int .i64 lo ∧ v10 = .int .i64 hi ∧ lo ≤ hi ∧ hi ≤ n ∧ (∀ i r, i < lo → l[i]? = some r → (r.1 : Int) < t) ∧ (∀ i r, hi ≤ i → l[i]? = some r → t ≤ (r.1 : Int)) ∧ Below w.heap.size w wr) (fun v9 v10 _ => ((intOf v10).toNat - (intOf v9).toNat))
  case atStart => exact ⟨0, n, rfl, rfl, by omega, Nat.le_refl _, fun i r h => absurd h (Nat.not_lt_zero _), fun i r h hr => by have := (List.getElem?_eq_some_iff.1 hr).1; omega, Below.refl _ _⟩
  case round =>
    obtain ⟨lo, hi, rfl, rfl, hlh, hin, h1, h2, hb⟩ := hrel
    have H1 := Troupe.hid h1
    have H2 := Troupe.hid h2
    have HB := Troupe.hid hb
    have C1 := Troupe.hid ((C0.out.mono hB).below hb)
    clear h1 h2 hb
    by_cases hlt : lo < hi
    · obtain ⟨x, hx⟩ : ∃ x, l[(lo + hi) / 2]? = some x := ⟨_, List.getElem?_eq_getElem (by omega)⟩
      obtain ⟨b, off, rfl, _, d0, d1⟩ := C1.out.rg hx
      have X := Troupe.hid hx
      have hc := clos25_any x t wr
      have HC := Troupe.hid hc
      clear hc hx
      by_cases hyx : (x.1 : Int) < t
      · have hneg : cmpV x.1 t < 0 := cmpV_neg.2 hyx
        go_wp2_with fail
        refine HC.out.mono ?_
        rintro e w2 ⟨rfl, hb2⟩
        have B2 := Troupe.hid (HB.out.trans (hb2.mono HB.out.size))
        clear hb2 d0 d1
        go_wp2_with fail
        go_roundw
        case rel =>
          refine ⟨(lo + hi) / 2 + 1, hi, by rw [show ((lo : Int) + (hi : Int)) / 2 + 1 = (((lo + hi) / 2 + 1 : Nat) : Int) by omega], rfl, by omega, hin, fun i r h hr => ?_, H2.out, B2.out⟩
          rcases Nat.lt_or_ge i ((lo + hi) / 2) with h' | h'
          · have := OK.out.lt h' hr X.out; omega
          · obtain rfl : i = (lo + hi) / 2 := by omega
            rw [X.out] at hr; cases hr; exact hyx
        case measure => simp [intOf]; omega
      · have hneg : ¬ cmpV x.1 t < 0 := fun h => hyx (cmpV_neg.1 h)
        go_wp2_with fail
        refine HC.out.mono ?_
        rintro e w2 ⟨rfl, hb2⟩
        have B2 := Troupe.hid (HB.out.trans (hb2.mono HB.out.size))
        clear hb2 d0 d1
        go_wp2_with fail
        go_roundw
        case rel =>
          refine ⟨lo, (lo + hi) / 2, rfl, by rw [show ((lo : Int) + (hi : Int)) / 2 = (((lo + hi) / 2 : Nat) : Int) by omega], by omega, by omega, H1.out, fun i r h hr => ?_, B2.out⟩
          rcases Nat.lt_or_ge ((lo + hi) / 2) i with h' | h'
          · have := OK.out.lt h' X.out hr; omega
          · obtain rfl : i = (lo + hi) / 2 := by omega
            rw [X.out] at hr; cases hr; omega
        case measure => simp [intOf]; omega
    · obtain rfl : hi = lo := by omega
      by_cases hn2 : hi < n
      · obtain ⟨x, hx⟩ : ∃ x, l[hi]? = some x := ⟨_, List.getElem?_eq_getElem (by omega)⟩
        obtain ⟨b, off, rfl, _, d0, d1⟩ := C1.out.rg hx
        have X := Troupe.hid hx
        have HC := Troupe.hid (clos25_any x t wr)
        clear hx
        by_cases hyx : (x.1 : Int) = t
        · have hz : cmpV x.1 t = 0 := cmpV_zero.2 hyx
          have HY := Troupe.hid hyx
          clear hyx
          go_wp2_with fail
          refine HC.out.mono ?_
          rintro e w2 ⟨rfl, hb2⟩
          have B2 := Troupe.hid (HB.out.trans (hb2.mono HB.out.size))
          clear hb2 d0 d1
          go_wp2_with fail
          go_ret2
          exact ⟨⟨hi, true, rfl, fun _ => ⟨x, X.out, HY.out⟩, fun h => absurd h (by decide)⟩, B2.out⟩
        · have hz : (cmpV x.1 t == 0) = false := beq_eq_false_iff_ne.2 fun h => hyx (cmpV_zero.1 h)
          have HY := Troupe.hid hyx
          clear hyx
          go_wp2_with fail
          refine HC.out.mono ?_
          rintro e w2 ⟨rfl, hb2⟩
          have B2 := Troupe.hid (HB.out.trans (hb2.mono HB.out.size))
          clear hb2 d0 d1
          go_wp2_with fail
          go_ret2
          refine ⟨⟨hi, false, rfl, fun h => absurd h (by decide), fun _ r hr => ?_⟩, B2.out⟩
          obtain ⟨j, hj⟩ := List.mem_iff_getElem?.1 hr
          rcases Nat.lt_trichotomy j hi with h | h | h
          · have := H1.out j r h hj; omega
          · subst h; rw [X.out] at hj; cases hj; exact HY.out
          · have h3 := OK.out.lt h X.out hj
            have h4 := H2.out hi x (Nat.le_refl _) X.out
            have h5 := OK.out.mem x (List.mem_of_getElem? X.out)
            omega
      · go_wp2_with fail
        go_ret2
        refine ⟨⟨hi, false, rfl, fun h => absurd h (by decide), fun _ r hr => ?_⟩, HB.out⟩
        obtain ⟨j, hj⟩ := List.mem_iff_getElem?.1 hr
        have := H1.out j r (by have := (List.getElem?_eq_some_iff.1 hj).1; omega) hj
        omega
end Go.Proofs.Ytcgdghnmcahfeaa
