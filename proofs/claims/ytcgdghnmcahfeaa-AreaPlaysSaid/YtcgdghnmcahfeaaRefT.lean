/- The document's room and Take, by contracts. -/
import Derived.Test.YtcgdghnmcahfeaaRefA
namespace Go.Proofs.Ytcgdghnmcahfeaa
open Go.RowKit Go.Maps Go.Troupe

set_option maxRecDepth 100000 in
set_option maxHeartbeats 2000000 in
theorem room_any {p : Nat} {T : Nat → Prop} {O : List Int} (b : Nat) (k : Int) (w : World) (h : Rf w p T O) (hb : b < O.length) (hO : O.length ≤ 65536) (hk : 1 ≤ k) (rb : Bool) (h1 : rb = true → Room O.length O b k) (h0 : rb = false → ¬ Room O.length O b k) :
    Calls Try.prog 31 #[.pointer (some ⟨p, 0, none⟩), .int .i64 b, .int .i64 k] w fun e w' => e = .returned (.bool rb) ∧ w' = w := by
  obtain ⟨v, g1, g2, g3⟩ := h.ex
  obtain ⟨A, c, rfl, -⟩ := own_form g2
  have c0 : w.cell? ⟨p, 0, none⟩ = some (.slice A O.length c) := g1.cell 0
  have u0 : IntKind.i64.wrap ((O.length : Int) - b) = (O.length : Int) - b := by rw [IntKind.wrap_i64]; omega
  by_cases hfit : (O.length : Int) - b < k
  · have hr : rb = false := by
      cases rb with
      | false => rfl
      | true => have := (h1 rfl).1; omega
    subst hr
    clear h1 h0 h g1 g2 g3
    go_enter Try.func31, Try.ntmps31
    go_wp2_with fail
    go_ret
    exact ⟨rfl, rfl⟩
  obtain ⟨kn, rfl⟩ : ∃ kn : Nat, k = kn := ⟨k.toNat, by omega⟩
  have C := Troupe.hid (own_cells g2)
  have H1 := Troupe.hid h1
  have H0 := Troupe.hid h0
  clear h h1 h0 g1 g2 g3
  go_enter Try.func31, Try.ntmps31
  go_wp2_with fail
  go_loopw [7] (fun v7 wr => ∃ j : Nat, v7 = .int .i64 j ∧ j ≤ kn ∧ (∀ t : Nat, t < j → ∀ x, O[b + t]? = some x → x < 0) ∧ wr = w) (fun v7 _ => kn - (intOf v7).toNat)
  case atStart => exact ⟨0, rfl, Nat.zero_le _, fun t ht => absurd ht (Nat.not_lt_zero _), rfl⟩
  case round =>
    obtain ⟨j, rfl, hj, hneg, hw⟩ := hrel
    subst hw
    have NG := Troupe.hid hneg
    clear hneg
    by_cases hlt : j < kn
    · obtain ⟨x, hx⟩ : ∃ x, O[b + j]? = some x := ⟨_, List.getElem?_eq_getElem (by omega)⟩
      have hxw := wordsI_at O (b + j) x hx
      obtain ⟨g, off, hA, _, hcc⟩ := C.out.at_ (by intro e; rw [e] at hxw; simp at hxw)
      subst hA
      have d0 : wr.cell? ⟨g, off + (b + j), none⟩ = some (.int .i64 x) := hcc _ _ hxw
      have u1 : IntKind.i64.wrap ((b : Int) + j) = ((b + j : Nat) : Int) := by rw [IntKind.wrap_i64]; omega
      have hbj : b + j < O.length := by omega
      have X := Troupe.hid hx
      clear hcc hxw hx
      by_cases hx0 : x < 0
      · have NG2 : Hid (∀ t : Nat, t < j + 1 → ∀ x, O[b + t]? = some x → x < 0) := by
          intro t ht y hy
          rcases Nat.lt_or_eq_of_le (Nat.le_of_lt_succ ht) with h | rfl
          · exact NG.out t h y hy
          · rw [X.out] at hy; cases hy; exact hx0
        have hxd : decide (0 ≤ x) = false := decide_eq_false (by omega)
        go_wp2_with fail
        go_roundw
        case rel => exact ⟨j + 1, by go_num, by omega, NG2.out, by trivial⟩
        case measure => simp [intOf]; omega
      · have hr : rb = false := by
          cases rb with
          | false => rfl
          | true => exact absurd ((H1.out rfl).2 j (by omega) x X.out) hx0
        subst hr
        have hxd : decide (0 ≤ x) = true := decide_eq_true (by omega)
        go_wp2_with fail
        go_ret
        exact ⟨rfl, rfl⟩
    · obtain rfl : j = kn := by omega
      have hr : rb = true := by
        cases rb with
        | true => rfl
        | false => exact absurd ⟨by omega, fun t ht => NG.out t (by omega)⟩ (H0.out rfl)
      subst hr
      go_wp2_with fail
      go_ret
      exact ⟨rfl, rfl⟩

def RTook (p : Nat) (T : Nat → Prop) (O' : List Int) (x e0 : Int) (w : World) (e : Ending) (w' : World) : Prop :=
  e = .returned (.tuple #[.int .i64 x, .int .i64 e0]) ∧ Rf w' p T O' ∧ Frm T w w'
set_option maxRecDepth 100000 in
set_option maxHeartbeats 2000000 in
theorem reftake_none {p : Nat} {T : Nat → Prop} {O : List Int} (k : Int) (w : World) (h : Rf w p T O) (hO : O.length ≤ 65536) (e0 : Int) (hk : k < 1 ∧ e0 = 1 ∨ 1 ≤ k ∧ e0 = 4 ∧ ∀ b, b < O.length → ¬ Room O.length O b k) :
    Calls Try.prog 14 #[.pointer (some ⟨p, 0, none⟩), .int .i64 k] w (RTook p T O 0 e0 w) := by
  obtain ⟨v, g1, g2, g3⟩ := h.ex
  obtain ⟨A, c, rfl, -⟩ := own_form g2
  have c0 : w.cell? ⟨p, 0, none⟩ = some (.slice A O.length c) := g1.cell 0
  have H := Troupe.hid h
  clear h g1 g2 g3
  rcases hk with ⟨hk, rfl⟩ | ⟨hk, rfl, hno⟩
  · go_enter Try.func14, Try.ntmps14
    go_wp2_with fail
    go_ret2
    exact ⟨rfl, H.out, Frm.refl _ _⟩
  · have NO := Troupe.hid hno
    have hk2 : ¬ k < 1 := by omega
    clear hno
    go_enter Try.func14, Try.ntmps14
    go_wp2_with fail
    go_loopw [6] (fun v6 wr => ∃ b : Nat, v6 = .int .i64 b ∧ b ≤ O.length ∧ wr = w) (fun v6 _ => O.length - (intOf v6).toNat)
    case atStart => exact ⟨0, rfl, Nat.zero_le _, rfl⟩
    case round =>
      obtain ⟨b, rfl, hb, hw⟩ := hrel
      subst hw
      by_cases hlt : b < O.length
      · have RM := Troupe.hid (room_any b k wr H.out hlt hO hk false (fun h => absurd h (by decide)) (fun _ => NO.out b hlt))
        go_wp2_with fail
        refine RM.out.mono ?_
        rintro e w5 ⟨rfl, rfl⟩
        go_wp2_with fail
        go_roundw
        case rel => exact ⟨b + 1, by go_num, by omega, by trivial⟩
        case measure => simp [intOf]; omega
      · go_wp2_with fail
        go_ret2
        exact ⟨rfl, H.out, Frm.refl _ _⟩
set_option maxRecDepth 100000 in
set_option maxHeartbeats 2000000 in
theorem reftake_ok {p : Nat} {T : Nat → Prop} {O : List Int} (k sb : Nat) (w : World) (h : Rf w p T O) (hO : O.length ≤ 65536) (hk : 1 ≤ k) (hfit : sb + k ≤ O.length) (hr : Room O.length O sb k) (hno : ∀ b, b < sb → ¬ Room O.length O b k) :
    Calls Try.prog 14 #[.pointer (some ⟨p, 0, none⟩), .int .i64 k] w (RTook p T (putO O sb k sb) sb 0 w) := by
  obtain ⟨v, g1, g2, g3⟩ := h.ex
  obtain ⟨A, c, rfl, -⟩ := own_form g2
  have hA : ∃ g, A = some ⟨g, 0, none⟩ := by
    rcases own_blk g2 with ⟨_, h0, _⟩ | ⟨g, cs, rfl, _⟩
    · omega
    · exact ⟨g, rfl⟩
  obtain ⟨g, rfl⟩ := hA
  have hgp : p ≠ g := by
    obtain ⟨cs, hbk⟩ := own_at g2 rfl
    exact fun e => hbk.ne g1 (by decide) e.symm
  have c0 : w.cell? ⟨p, 0, none⟩ = some (.slice (some ⟨g, 0, none⟩) O.length c) := g1.cell 0
  have H := Troupe.hid h
  have G1 := Troupe.hid g1
  have G2 := Troupe.hid g2
  have G3 := Troupe.hid g3
  have NO := Troupe.hid hno
  have RM := Troupe.hid hr
  have hk2 : ¬ ((k : Int) < 1) := by omega
  clear h g1 g2 g3 hno hr
  go_enter Try.func14, Try.ntmps14
  go_wp2_with fail
  go_loopw [6] (fun v6 wr => ∃ b : Nat, v6 = .int .i64 b ∧ b ≤ sb ∧ wr = w) (fun v6 _ => O.length - (intOf v6).toNat)
  case atStart => exact ⟨0, rfl, Nat.zero_le _, rfl⟩
  case round =>
    obtain ⟨b, rfl, hb, hw⟩ := hrel
    subst hw
    have hlt : b < O.length := by omega
    by_cases hlt2 : b < sb
    · have R1 := Troupe.hid (room_any b k wr H.out hlt hO (by omega) false (fun h => absurd h (by decide)) (fun _ => NO.out b hlt2))
      go_wp2_with fail
      refine R1.out.mono ?_
      rintro e w5 ⟨rfl, rfl⟩
      go_wp2_with fail
      go_roundw
      case rel => exact ⟨b + 1, by go_num, by omega, by trivial⟩
      case measure => simp [intOf]; omega
    · obtain rfl : b = sb := by omega
      have R1 := Troupe.hid (room_any b k wr H.out hlt hO (by omega) true (fun _ => RM.out) (fun h => absurd h (by decide)))
      go_wp2_with fail
      refine R1.out.mono ?_
      rintro e w5 ⟨rfl, rfl⟩
      go_wp2_with fail
      go_loopw [7] (fun v7 wr => ∃ t : Nat, v7 = .int .i64 t ∧ t ≤ k ∧ wr.ownsRow 0 3 1 (.slice (some ⟨g, 0, none⟩) O.length c) O.length (wordsI (putO O b t b)) ∧ Frm (fun j => j = g) w5 wr) (fun v7 _ => k - (intOf v7).toNat)
      case atStart => exact ⟨0, rfl, Nat.zero_le _, by rw [putO_zero]; exact G2.out, Frm.refl _ _⟩
      case round =>
        obtain ⟨t, rfl, ht, ho, hf⟩ := hrel
        have d0 : wr.cell? ⟨p, 0, none⟩ = some (.slice (some ⟨g, 0, none⟩) O.length c) := (G1.out.frm hf hgp).cell 0
        have F := Troupe.hid hf
        have OW := Troupe.hid ho
        clear hf ho
        by_cases htk : t < k
        · have hbt : b + t < O.length := by omega
          obtain ⟨e1, e2, e3, e4⟩ := own_set1 OW.out hbt (.int .i64 b)
          obtain ⟨y, hy⟩ := Option.isSome_iff_exists.1 e2
          rw [putO_next _ _ _ _ hbt] at e4
          have E4 := Troupe.hid e4
          have u1 : IntKind.i64.wrap ((b : Int) + t) = ((b + t : Nat) : Int) := by rw [IntKind.wrap_i64]; omega
          clear e1 e2 e4
          go_wp2_with fail
          go_roundw
          case rel => exact ⟨t + 1, by go_num, by omega, E4.out, F.out.trans (Frm.one _ ⟨g, b + t, none⟩ _) (fun _ _ h => h)⟩
          case measure => simp [intOf]; omega
        · obtain rfl : t = k := by omega
          go_wp2_with fail
          go_ret2
          have hl : (putO O b t b).length = O.length := putO_len _ _ _ hfit
          refine ⟨rfl, ⟨⟨_, G1.out.frm F.out hgp, by rw [hl]; exact OW.out, fun q hq => ⟨(G3.out q hq).1, Nat.lt_of_lt_of_le (G3.out q hq).2 F.out.size⟩⟩, H.out.tT⟩, F.out.mono (fun q _ hq => by rw [hq]; exact (G3.out g rfl).1)⟩
end Go.Proofs.Ytcgdghnmcahfeaa
