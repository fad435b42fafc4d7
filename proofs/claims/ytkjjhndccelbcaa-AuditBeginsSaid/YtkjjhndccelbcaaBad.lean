/- check's small words: the first fault, where it lies, the parts one by one. -/
import Derived.Test.YtkjjhndccelbcaaInsert
import Derived.Test.YtkjjhndccelbcaaLex
import Derived.Test.YtkjjhndccelbcaaSent
namespace Go.Proofs.Ytkjjhndccelbcaa
open Go.RowKit Go.Maps Go.Troupe
attribute [local go_sem] reads readAt readUpon Cls

/-- What is wrong, in memory: nothing, or a block of the call's own. -/
def BadAt (w : World) (base : Nat) (b : Bool) (v : Value) (d : Nat) : Prop :=
  (b = false ∧ v = .pointer none) ∨ (b = true ∧ ∃ (g : Nat) (c : Int) (A : Option Addr) (n cap : Nat) (xs : List Int), v = .pointer (some ⟨g, 0, none⟩) ∧ base ≤ g ∧ Blk w g 99 [.int .i64 c, .slice A n cap] ∧ w.ownsRow base 3 1 (.slice A n cap) n (flatG xs) ∧ xs.length = n ∧ n ≤ d)
def Badly (b : Bool) (d : Nat) (w : World) (e : Ending) (w' : World) : Prop := ∃ v, e = .returned v ∧ BadAt w' w.heap.size b v d ∧ Below w.heap.size w w'
theorem BadAt.below {w w' : World} {base d : Nat} {b : Bool} {v : Value} (h : BadAt w base b v d) (hb : Below w.heap.size w w') : BadAt w' base b v d := by
  rcases h with h | ⟨h1, g, c, A, n, cap, xs, h2, h3, h4, h5, h6⟩
  · exact .inl h
  · exact .inr ⟨h1, g, c, A, n, cap, xs, h2, h3, h4.below hb h4.lt, own_below h5 hb, h6⟩
theorem BadAt.base {w : World} {base base' d : Nat} {b : Bool} {v : Value} (h : BadAt w base b v d) (hb : base' ≤ base) : BadAt w base' b v d := by
  rcases h with h | ⟨h1, g, c, A, n, cap, xs, h2, h3, h4, h5, h6⟩
  · exact .inl h
  · exact .inr ⟨h1, g, c, A, n, cap, xs, h2, Nat.le_trans hb h3, h4, Go.Joins.ownsRow_le h5 hb, h6⟩
theorem BadAt.mono {w : World} {base d d' : Nat} {b : Bool} {v : Value} (h : BadAt w base b v d) (hd : d ≤ d') : BadAt w base b v d' := by
  rcases h with h | ⟨h1, g, c, A, n, cap, xs, h2, h3, h4, h5, h6, h7⟩
  · exact .inl h
  · exact .inr ⟨h1, g, c, A, n, cap, xs, h2, h3, h4, h5, h6, Nat.le_trans h7 hd⟩

/-! ### the first fault -/
structure Fl where
  broken : Bool
  code : Int
def Fl.cells (r : Fl) : List Value := [.bool r.broken, .int .i64 r.code]
def flatF (l : List Fl) : List Value := l.flatMap Fl.cells
def firstV : List Fl → Int
  | [] => 0
  | r :: l => if r.broken then r.code else firstV l
theorem firstV_drop (l : List Fl) (j : Nat) (r : Fl) (h : l[j]? = some r) : firstV (l.drop j) = if r.broken then r.code else firstV (l.drop (j + 1)) := by
  obtain ⟨hj, rfl⟩ := List.getElem?_eq_some_iff.1 h
  rw [List.drop_eq_getElem_cons hj, firstV]
set_option maxRecDepth 100000 in
theorem first_any (Ad : Option Addr) (n c B : Nat) (l : List Fl) (w : World) (hl : l.length = n) (hn : n ≤ maxLen) (hc : Cells w B Ad (flatF l)) (hB : B ≤ w.heap.size) :
    Calls Try.prog 31 #[.slice Ad n c] w fun e w' => e = .returned (.int .i64 (firstV l)) ∧ Below w.heap.size w w' := by
  have hn' : n ≤ 9223372036854775807 := hn
  have C0 := Troupe.hid hc
  clear hn hc
  go_enter Try.func31, Try.ntmps31
  go_wp2_with fail
  go_loopw [7] (fun i wr => ∃ j : Nat, j ≤ n ∧ i = .int .i64 j ∧ firstV (l.drop j) = firstV l ∧ Below w.heap.size w wr) (fun i _ => n - (intOf i).toNat)
  case atStart => exact ⟨0, Nat.zero_le _, rfl, by simp, Below.refl _ _⟩
  case round =>
    obtain ⟨j, hj, rfl, hno, hb⟩ := hrel
    obtain ⟨wa, rfl⟩ : ∃ wa : World, wa = wr := ⟨_, rfl⟩
    have NO := Troupe.hid hno
    have HB := Troupe.hid hb
    have C1 := Troupe.hid ((C0.out.mono hB).below hb)
    clear hno hb
    by_cases hlt : j < n
    · obtain ⟨x, hx⟩ : ∃ x, l[j]? = some x := ⟨_, List.getElem?_eq_getElem (by omega)⟩
      obtain ⟨b, off, rfl, _, h1⟩ := cells_at (sz := 2) (fun _ => rfl) (by decide) C1.out hx
      have d0 : wa.cell? ⟨b, off + j * 2, none⟩ = some (.bool x.broken) := h1 0 (by decide) _ rfl
      have d1 : wa.cell? ⟨b, off + j * 2 + 1, none⟩ = some (.int .i64 x.code) := h1 1 (by decide) _ rfl
      have hd := firstV_drop l j x hx
      have B2 := Troupe.hid (HB.out.trans ((Below.refl wa.heap.size wa).alloc (Nat.le_refl _) (.cells #[.bool x.broken, .int .i64 x.code] 71) |>.mono HB.out.size))
      clear h1 hx
      cases hok : x.broken with
      | true =>
        rw [hok] at d0 hd B2
        have FIN : Hid (firstV l = x.code) := by rw [← NO.out, hd]; rfl
        clear hd hok
        go_wp2_with fail
        go_ret
        exact ⟨by rw [FIN.out]; rfl, B2.out⟩
      | false =>
        rw [hok] at d0 hd B2
        have FIN : Hid (firstV (l.drop (j + 1)) = firstV l) := by rw [← NO.out, hd]; rfl
        clear hd hok
        go_wp2_with fail
        go_roundw
        case rel => exact ⟨j + 1, by omega, by go_num, FIN.out, B2.out⟩
        case measure => simp [intOf]; omega
    · have FIN : Hid (firstV l = 0) := by rw [← NO.out, List.drop_of_length_le (by omega)]; rfl
      go_wp2_with fail
      go_ret
      exact ⟨by rw [FIN.out]; rfl, HB.out⟩

/-! ### a place within a part -/
theorem ints_sp (w : World) (x : Int) : Blk (w.alloc (.cells #[.int .i64 x] 3)) w.heap.size 3 (cellG x) := Blk.new _ _ _
set_option maxRecDepth 100000 in
set_option maxHeartbeats 1000000 in
theorem in_any (i : Nat) (hi : i ≤ 140737488355328) (v : Value) (b : Bool) (d base : Nat) (w : World) (hd : d ≤ 65535) (hw : base ≤ w.heap.size) (h : BadAt w base b v d) :
    Calls Try.prog 45 #[.int .i64 i, v] w fun e w' => e = .returned v ∧ BadAt w' base b v (d + 1) ∧ Below base w w' := by
  rcases h with ⟨rfl, rfl⟩ | ⟨rfl, g, c, A, n, cap, xs, rfl, hg, hbk, hown, hxs, hn⟩
  · go_enter Try.func45, Try.ntmps45
    go_wp2_with fail
    go_ret
    exact ⟨rfl, .inl ⟨rfl, rfl⟩, Below.refl _ _⟩
  · have hwr : IntKind.i64.wrap ((i : Int) + 1) = (i : Int) + 1 := IntWalk.i64_in _ (by omega)
    have e0 := hbk.cell
    have FX : Below w.heap.size w (w.alloc (.cells #[.int .i64 ((i : Int) + 1)] 3)) := (Below.refl _ _).alloc (Nat.le_refl _) _
    have hA : ∀ a, A = some a → a.block < w.heap.size := fun a ha => by
      obtain ⟨_, _, h1, -, -, -, -, h2⟩ := own_form hown
      simp only [Value.slice.injEq, true_and] at h1
      obtain ⟨rfl, rfl⟩ := h1
      exact (h2 a ha).2.1
    have IN := Troupe.hid (insert_any A n cap 0 w.heap.size xs ((i : Int) + 1) (w.alloc (.cells #[.int .i64 ((i : Int) + 1)] 3)) hxs (by omega) (Nat.zero_le _) (Go.Joins.ownsRow_le (own_below hown FX) (Nat.zero_le _)) (ints_sp _ _) (fun a ha e => by have := hA a ha; omega))
    have HB := Troupe.hid hbk
    have HO := Troupe.hid hown
    have HFX := Troupe.hid FX
    have HX := Troupe.hid hxs
    clear hbk hown FX hxs hA
    go_enter Try.func45, Try.ntmps45
    go_wp2_with fail
    generalize w.alloc (.cells #[.int .i64 ((i : Int) + 1)] 3) = w1 at *
    refine IN.out.mono ?_
    rintro e w2 ⟨v', rfl, hov, hf, hat⟩
    obtain ⟨A', cap', rfl, -⟩ := own_form hov
    have hB1 : Hid (Blk w1 g 99 [.int .i64 c, .slice A n cap]) := HB.out.below HFX.out HB.out.lt
    have hB2 : Hid (Blk w2 g 99 [.int .i64 c, .slice A n cap]) := hB1.out.frm hf (fun e => by
      obtain ⟨cs', hb'⟩ := own_at (own_below HO.out HFX.out) e
      exact hB1.out.ne hb' (by decide) rfl)
    have hge : Hid (∀ k, (Value.slice A' (n + 1) cap').ownBlock = some k → base ≤ k) := fun k hk => by
      rcases hat with h1 | ⟨b, h1, h2⟩
      · rw [h1] at hk; exact own_ge HO.out hk
      · rw [h1] at hk; cases hk; have := HFX.out.size; omega
    have hov2 : Hid (w2.ownsRow base 3 1 (.slice A' (n + 1) cap') (n + 1) (flatG (xs.insertIdx 0 ((i : Int) + 1)))) := by
      obtain ⟨hl, h1 | ⟨g', cap2, cur, hv, hb0, hh, r⟩⟩ := hov
      · exact ⟨hl, .inl h1⟩
      · refine ⟨hl, .inr ⟨g', cap2, cur, hv, ?_, hh, r⟩⟩
        exact hge.out g' (by rw [hv]; rfl)
    have BA : Hid (Below base w w2) := (HFX.out.mono hw).trans (hf.below (Nat.le_trans hw HFX.out.size) (fun k hk => own_ge HO.out hk))
    have HN : Hid (∀ k, (Value.slice A' (n + 1) cap').ownBlock = some k → k ≠ g) := fun k hk e => by
      subst e
      obtain ⟨cs', hb'⟩ := own_at hov2.out hk
      exact hB2.out.ne hb' (by decide) rfl
    have e2 := hB2.out.cell
    have z2 := hB2.out.frozen
    clear hov hf hat e0
    go_wp2_with fail
    go_ret
    refine ⟨rfl, .inr ⟨rfl, g, c, A', n + 1, cap', xs.insertIdx 0 ((i : Int) + 1), rfl, hg, hB2.out.set_ 1 _, own_frm hov2.out (Frm.one _ _ _) (fun k hk => HN.out k hk), by rw [List.length_insertIdx, HX.out, if_pos (Nat.zero_le _)], by omega⟩, BA.out.setCell hg _⟩

/-! ### part by part -/
def withinV (own : Int) (n : Nat) (p : Nat → Bool) : Bool := own != 0 || (List.range n).any p
set_option maxRecDepth 100000 in
set_option maxHeartbeats 2000000 in
theorem within_gen (CL : Nat) (caps : List Value) (p : Nat → Bool) (own : Int) (n d : Nat) (w : World) (hn : n ≤ 140737488355328) (hd : d ≤ 60000) (heg : ∀ args w', (callFunc CL args).run Try.prog w' = .ok (.enter CL args) w')
    (hcl : ∀ i, i < n → ∀ w', Below w.heap.size w w' → Calls Try.prog CL ((.int .i64 i) :: caps).toArray w' (Badly (p i) d w')) :
    Calls Try.prog 32 #[.int .i64 own, .int .i64 n, .func (.func CL) #[] caps.toArray] w (Badly (withinV own n p) (d + 1) w) := by
  have CLO := Troupe.hid hcl
  have HEG := Troupe.hid heg
  clear hcl heg
  cases h0 : (own != 0) with
  | true =>
    have FIN : Hid (withinV own n p = true) := by unfold Hid withinV; rw [h0]; rfl
    have HBN := Troupe.hid (Blk.new w 99 [.int .i64 own, .slice none 0 0])
    have hown : Hid ((w.alloc (.cells #[.int .i64 own, .slice none 0 0] 99)).ownsRow w.heap.size 3 1 (.slice none 0 0) 0 (flatG [])) := World.ownsRow_nil _ _ _ _
    have FX : Hid (Below w.heap.size w (w.alloc (.cells #[.int .i64 own, .slice none 0 0] 99))) := (Below.refl _ _).alloc (Nat.le_refl _) _
    go_enter Try.func32, Try.ntmps32
    go_wp2_with fail
    go_ret
    rw [FIN.out]
    exact ⟨_, rfl, .inr ⟨rfl, w.heap.size, own, none, 0, 0, [], rfl, Nat.le_refl _, HBN.out, hown.out, rfl, Nat.zero_le _⟩, FX.out⟩
  | false =>
    have FIN0 : Hid (withinV own n p = (List.range n).any p) := by unfold Hid withinV; rw [h0]; rfl
    go_enter Try.func32, Try.ntmps32
    go_wp2_with fail
    go_loopw [15] (fun i wr => ∃ j : Nat, j ≤ n ∧ i = .int .i64 j ∧ (∀ k, k < j → p k = false) ∧ Below w.heap.size w wr) (fun i _ => n - (intOf i).toNat)
    case atStart => exact ⟨0, Nat.zero_le _, rfl, by simp, Below.refl _ _⟩
    case round =>
      obtain ⟨j, hj, rfl, hno, hb⟩ := hrel
      obtain ⟨wa, rfl⟩ : ∃ wa : World, wa = wr := ⟨_, rfl⟩
      have NO := Troupe.hid hno
      have HB := Troupe.hid hb
      clear hno hb
      by_cases hlt : j < n
      · have CX := Troupe.hid (CLO.out j hlt wa HB.out)
        have heg := HEG.out
        go_wp2_with fail
        refine CX.out.mono ?_
        rintro e w2 ⟨v, rfl, hbad, hb2⟩
        have B2 := Troupe.hid (HB.out.trans (hb2.mono HB.out.size))
        have HI := Troupe.hid (in_any j (by omega) v (p j) d w.heap.size w2 (by omega) B2.out.size (hbad.base HB.out.size))
        obtain ⟨q, hq⟩ : ∃ q, p j = q := ⟨_, rfl⟩
        rw [hq] at HI
        have HQ := Troupe.hid hq
        have HBAD := Troupe.hid hbad
        clear hbad hb2 hq
        go_wp2_with fail
        refine HI.out.mono ?_
        rintro e w3 ⟨rfl, hbad3, hb3⟩
        have B3 := Troupe.hid (B2.out.trans hb3)
        clear hb3
        cases q with
        | true =>
          have FIN : Hid (withinV own n p = true) := by
            rw [FIN0.out]
            exact List.any_eq_true.2 ⟨j, List.mem_range.2 hlt, HQ.out⟩
          have HB3 := Troupe.hid hbad3
          obtain ⟨g, hv⟩ : ∃ g, v = .pointer (some ⟨g, 0, none⟩) := by
            rcases hbad3 with ⟨h1, -⟩ | ⟨-, g, _, _, _, _, _, h2, -⟩
            · cases h1
            · exact ⟨g, h2⟩
          subst hv
          clear hbad3
          go_wp2_with fail
          go_ret
          rw [FIN.out]
          exact ⟨_, rfl, HB3.out, B3.out⟩
        | false =>
          have hv : v = .pointer none := by
            rcases hbad3 with ⟨-, h1⟩ | ⟨h1, -⟩
            · exact h1
            · cases h1
          subst hv
          have NO2 : Hid (∀ k, k < j + 1 → p k = false) := fun k hk => by
            rcases Nat.lt_or_eq_of_le (Nat.le_of_lt_succ hk) with h | rfl
            · exact NO.out k h
            · exact HQ.out
          clear hbad3
          go_wp2_with fail
          go_roundw
          case rel => exact ⟨j + 1, by omega, by go_num, NO2.out, B3.out⟩
          case measure => simp [intOf]; omega
      · have FIN : Hid (withinV own n p = false) := by
          rw [FIN0.out]
          exact List.any_eq_false.2 (fun k hk => by rw [NO.out k (by have := List.mem_range.1 hk; omega)]; decide)
        go_wp2_with fail
        go_ret
        rw [FIN.out]
        exact ⟨_, rfl, .inl ⟨rfl, rfl⟩, HB.out⟩
end Go.Proofs.Ytkjjhndccelbcaa
