/- Scripts: how they come in; and play, by contract. -/
import Derived.Test.YtcgdghnmcahfeaaSmall
import Derived.Test.YtcgdghnmcahfeaaOpen
import Derived.Lib.SmallJoins
namespace Go.Proofs.Ytcgdghnmcahfeaa
open Go.ChangeShapes Go.WideShapes Go.ChangeAt Go.RowKit Go.Troupe Go.Maps

structure Opn where
  g : Bool
  k : Int
def flatO (l : List Opn) : List Value := l.flatMap fun x => [.bool x.g, .int .i64 x.k]
theorem flatO_len (l : List Opn) : (flatO l).length = l.length * 2 := by
  induction l with
  | nil => rfl
  | cons x l ih => simp [flatO] at ih ⊢; omega
theorem flatO_at : ∀ (l : List Opn) (i : Nat) (x : Opn), l[i]? = some x → (flatO l)[i * 2]? = some (.bool x.g) ∧ (flatO l)[i * 2 + 1]? = some (.int .i64 x.k)
  | [], i, x, h => by simp at h
  | y :: l, 0, x, h => by
    simp at h; subst h
    simp [flatO]
  | y :: l, i + 1, x, h => by
    have h' : l[i]? = some x := by simpa using h
    obtain ⟨h0, h1⟩ := flatO_at l i x h'
    have e : flatO (y :: l) = [.bool y.g, .int .i64 y.k] ++ flatO l := rfl
    refine ⟨?_, ?_⟩
    · rw [e, List.getElem?_append_right (by simp; omega)]
      simpa [show (i + 1) * 2 - 2 = i * 2 by omega] using h0
    · rw [e, List.getElem?_append_right (by simp; omega)]
      simpa [show (i + 1) * 2 + 1 - 2 = i * 2 + 1 by omega] using h1
theorem _root_.Go.Troupe.Cells.opn {w : World} {B : Nat} {A : Option Addr} {l : List Opn} (h : Cells w B A (flatO l)) {i : Nat} {r : Opn} (hi : l[i]? = some r) :
    ∃ b off, A = some ⟨b, off, none⟩ ∧ b < B ∧ w.cell? ⟨b, off + i * 2, none⟩ = some (.bool r.g) ∧ w.cell? ⟨b, off + i * 2 + 1, none⟩ = some (.int .i64 r.k) := by
  obtain ⟨h0, h1⟩ := flatO_at l i r hi
  obtain ⟨b, off, hA, hb, hc⟩ := h.at_ (by intro e; rw [e] at h0; simp at h0)
  exact ⟨b, off, hA, hb, hc _ _ h0, by rw [Nat.add_assoc]; exact hc _ _ h1⟩
theorem cells29 : Try.prog.cellsOf 29 = 2 := by kernel_rfl
theorem open_opns {H : Type} {enc : TypeId × Value → H} {w : World} {base : Nat} {spare : Nat → Bool} {held : Bool} {fuel : Nat} {A : Option Addr} {len cap : Nat} {x : DataW H × List MemPlace}
    (h : DataW.trod enc Try.prog w base spare held fuel 22 [.slice A len cap] = some x) : ∃ L : List Opn, L.length = len ∧ Cells w w.heap.size A (flatO L) ∧ len ≤ cap ∧ (A = none → cap = 0) ∧ cap ≤ maxLen := by
  obtain ⟨A', len', cap', hcs, hl, hmx, hA, hrow⟩ := rows_of Try.underlying22 h
  simp only [List.cons.injEq, Value.slice.injEq, and_true] at hcs
  obtain ⟨rfl, rfl, rfl⟩ := hcs
  rw [cells29] at hrow
  have hel : ∀ i, i < len → ∃ y : Opn, ∃ a, A = some a ∧ w.cell? (a.add (i * 2 + 0)) = some (.bool y.g) ∧ w.cell? (a.add (i * 2 + 1)) = some (.int .i64 y.k) := by
    intro i hi
    obtain ⟨a, cs', y, n, hA, hc, ht⟩ := hrow i hi
    obtain ⟨_, hcl, hat⟩ := World.cells?_some hc
    obtain ⟨_, hf⟩ := fields_of Try.underlying29 (by kernel_rfl) cells29 ht
    obtain ⟨v0, y0, n0, h0, t0⟩ := hf 0 _ rfl
    obtain ⟨v1, y1, n1, h1, t1⟩ := hf 1 _ rfl
    obtain ⟨a0, e0, _⟩ := DataW.trod_bool Try.underlying4 t0
    obtain ⟨a1, e1, _, _⟩ := DataW.trod_int Try.underlying3 t1
    simp only [List.cons.injEq, and_true] at e0 e1
    subst e0 e1
    exact ⟨⟨a0, a1⟩, a, hA, by rw [← Go.Deep.add_add]; exact (hat 0 (by omega)).trans h0, by rw [← Go.Deep.add_add]; exact (hat 1 (by omega)).trans h1⟩
  letI : Inhabited Opn := ⟨⟨false, 0⟩⟩
  obtain ⟨f, hf⟩ := Go.Deep.choose_lt hel
  refine ⟨(List.range len).map f, by simp, ?_, hl, fun h => (hA h).2, hmx⟩
  refine cells_of_rows (len := len) (sz := 2) (by decide) _ (by rw [flatO_len]; simp) ?_
  intro i hi r hr
  obtain ⟨a, ha, h0, h1⟩ := hf i hi
  have hget : ((List.range len).map f)[i]? = some (f i) := by simp [hi]
  obtain ⟨g0, g1⟩ := flatO_at _ i _ hget
  rcases r with _ | _ | r
  · exact ⟨a, _, ha, g0, h0⟩
  · exact ⟨a, _, ha, g1, h1⟩
  · omega

/-- One step of a script, and all of them. -/
def stepV (N : Nat) (l : List Rg) (o : Opn) : List Rg := if o.g then (giveV l o.k).1 else (takeV N l o.k).1
def playV (N : Nat) (l : List Rg) (s : List Opn) : List Rg := s.foldl (stepV N) l
theorem playV_take (N : Nat) (l : List Rg) (s : List Opn) (i : Nat) (o : Opn) (h : s[i]? = some o) : playV N l (s.take (i + 1)) = stepV N (playV N l (s.take i)) o := by
  unfold playV
  rw [List.take_add_one, h]
  simp
def Plyd (n : Int) (s : List Opn) (w : World) (e : Ending) (w' : World) : Prop :=
  ∃ p, e = .returned (.pointer (some ⟨p, 0, none⟩)) ∧ Ar w w' p (areaN n) (playV (areaN n) [] s)
set_option maxRecDepth 100000 in
set_option maxHeartbeats 1000000 in
theorem play_any (n : Int) (Ad : Option Addr) (len cap : Nat) (s : List Opn) (w : World) (hl : s.length = len) (hm : len ≤ maxLen) (hc : Cells w w.heap.size Ad (flatO s)) :
    Calls Try.prog 20 #[.int .i64 n, .slice Ad len cap] w (Plyd n s w) := by
  have C0 := Troupe.hid hc
  have hm' : len ≤ 9223372036854775807 := hm
  clear hc hm
  go_enter Try.func20, Try.ntmps20
  go_wp2_with fail
  refine (Ar.new n w).mono ?_
  rintro e w1 ⟨p, rfl, h1⟩
  have H1 := Troupe.hid h1
  clear h1
  go_wp2_with fail
  go_loopw [6] (fun v6 wr => ∃ i : Nat, i ≤ len ∧ v6 = .int .i64 i ∧ Ar w wr p (areaN n) (playV (areaN n) [] (s.take i))) (fun v6 _ => len - (intOf v6).toNat)
  case atStart => exact ⟨0, Nat.zero_le _, rfl, H1.out⟩
  case round =>
    obtain ⟨i, hi, rfl, ha⟩ := hrel
    have HA := Troupe.hid ha
    have C1 := Troupe.hid (C0.out.below ha.be)
    clear ha
    by_cases hlt : i < len
    · obtain ⟨x, hx⟩ : ∃ x, s[i]? = some x := ⟨_, List.getElem?_eq_getElem (by omega)⟩
      obtain ⟨b, off, hA, _, d0, d1⟩ := C1.out.opn hx
      subst hA
      have PT := Troupe.hid (playV_take (areaN n) [] s i x hx)
      obtain ⟨g, k⟩ := x
      simp only at d0 d1
      clear hx
      cases g with
      | true =>
        go_wp2_with fail
        refine (HA.out.give k rfl).mono ?_
        rintro e w2 ⟨rfl, h2⟩
        have H2 := Troupe.hid h2
        clear h2 d0 d1
        go_wp2_with fail
        go_roundw
        case rel => exact ⟨i + 1, by omega, by go_num, by rw [PT.out]; exact H2.out⟩
        case measure => simp [intOf]; omega
      | false =>
        go_wp2_with fail
        refine (HA.out.take k (l' := (takeV (areaN n) (playV (areaN n) [] (s.take i)) k).1) (x := (takeV (areaN n) (playV (areaN n) [] (s.take i)) k).2.1) (e := (takeV (areaN n) (playV (areaN n) [] (s.take i)) k).2.2) rfl).mono ?_
        rintro e w2 ⟨rfl, h2⟩
        have H2 := Troupe.hid h2
        clear h2 d0 d1
        go_wp2_with fail
        go_roundw
        case rel => exact ⟨i + 1, by omega, by go_num, by rw [PT.out]; exact H2.out⟩
        case measure => simp [intOf]; omega
    · obtain rfl : i = len := by omega
      go_wp2_with fail
      go_ret
      exact ⟨p, rfl, by have := HA.out; rwa [List.take_of_length_le (by omega)] at this⟩
end Go.Proofs.Ytcgdghnmcahfeaa
