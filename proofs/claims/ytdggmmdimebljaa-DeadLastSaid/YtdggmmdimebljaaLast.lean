/- DeadLast: the walk. -/
import Derived.Test.YtdggmmdimebljaaPlain
import Derived.Deep.CutRange
import Derived.Deep.CutBlock
namespace Go.Proofs.Ytdggmmdimebljaa
open Go.RowKit Go.Maps Go.Troupe

theorem kept_cases (k : Int) : (k < 0 ∧ keptN k = 0) ∨ (64 < k ∧ keptN k = 64) ∨ (0 ≤ k ∧ k ≤ 64 ∧ (keptN k : Int) = k) := by
  unfold keptN
  split
  · exact .inl ⟨by assumption, rfl⟩
  · split
    · exact .inr (.inl ⟨by assumption, rfl⟩)
    · exact .inr (.inr ⟨by omega, by omega, by omega⟩)

/-- The last of the last ones. -/
theorem last_at {l : List Let} {x : Let} {N : Nat} (hN : 0 < N) : ((l ++ [x]).drop ((l ++ [x]).length - N))[min (l ++ [x]).length N - 1]? = some x := by
  rw [List.getElem?_drop]
  have h : (l ++ [x]).length = l.length + 1 := by simp
  rw [h, show l.length + 1 - N + (min (l.length + 1) N - 1) = l.length by omega]
  simp

set_option maxRecDepth 100000 in
set_option maxHeartbeats 1600000 in
theorem last_walk (k : Int) (A : Option Addr) (n cap : Nat) (L : List Let) (y : Let) (w : World) (hL : L.length = n) (hc : Cells w w.heap.size A (flat L)) :
    Calls Try.prog 5 #[.int .i64 k, .slice A n cap, .agg #[.int .u64 y.id, .int .i64 y.to_, .int .i64 y.why]] w fun e w' => e = .returned (.bool true) ∧ Below w.heap.size w w' := by
  go_enter Try.func5, Try.ntmps5
  go_wp2_with fail
  obtain ⟨w0, hw0⟩ : ∃ w0, w0 = w.alloc (.cells #[.int .u64 y.id, .int .i64 y.to_, .int .i64 y.why] 29) := ⟨_, rfl⟩
  rw [← hw0]
  have hz0 : w0.heap.size = w.heap.size + 1 := by rw [hw0]; simp
  have D0 : Hid (Blk w0 w.heap.size 29 [.int .u64 y.id, .int .i64 y.to_, .int .i64 y.why]) := by rw [hw0]; exact Blk.new w 29 _
  have B0 : Hid (Below w.heap.size w w0) := by rw [hw0]; exact (Below.refl _ _).alloc (Nat.le_refl _) _
  have HC : Hid (Cells w0 w0.heap.size A (flat L)) := (hc.below B0.out).mono (by omega)
  have Z0 := Troupe.hid hz0
  clear hw0 hc hz0
  refine (alive_any w0).mono ?_
  rintro e w1 ⟨rfl, hb1⟩
  have B1 := Troupe.hid hb1
  clear hb1
  go_wp2_with fail
  refine (new_holds k w1).mono ?_
  rintro e w2 ⟨p, m, r, rfl, hp, hm, hr, hh, hb2⟩
  have B2 := Troupe.hid (B1.out.trans (hb2.mono B1.out.size))
  have H2 := Troupe.hid hh
  have P2 := Troupe.hid (⟨Nat.le_trans B1.out.size hp, Nat.le_trans B1.out.size hm, Nat.le_trans B1.out.size hr⟩ : w0.heap.size ≤ p ∧ w0.heap.size ≤ m ∧ w0.heap.size ≤ r)
  clear hb2 hh hp hm hr
  go_upto_block 0 with (fail)
  go_cut [8] from 15 to 41 (fun _ w' => ∃ j : Nat, j ≤ 1000 ∧ Holds w' p m r (keptN k) (puts L j) ∧ Below w0.heap.size w0 w')
  case first =>
    go_wp2_with fail
    go_loopw [8] (fun i wr => ∃ j : Nat, j ≤ n ∧ j ≤ 1000 ∧ i = .int .i64 j ∧ Holds wr p m r (keptN k) (puts L j) ∧ Below w0.heap.size w0 wr) (fun i _ => n - (intOf i).toNat)
    case atStart => exact ⟨0, Nat.zero_le _, Nat.zero_le _, rfl, H2.out, B2.out⟩
    case round =>
      obtain ⟨j, hj, hj2, rfl, hh, hb⟩ := hrel
      have hpl := puts_le L j
      by_cases hlt : j < n ∧ j < 1000
      · obtain ⟨hlt, h2⟩ := hlt
        obtain ⟨x, hx⟩ : ∃ x, L[j]? = some x := ⟨_, List.getElem?_eq_getElem (by omega)⟩
        obtain ⟨b, off, rfl, _, _⟩ := HC.out.at_ (flat_ne hx)
        have HH := Troupe.hid hh
        have HB := Troupe.hid hb
        clear hh hb
        go_wp2_with fail
        refine region_still_tail 16 (by kernel_rfl) (by kernel_rfl) ?_
        intro w3 hh3 hf3
        obtain ⟨b1, off1, e1, hb1, h1⟩ := ((HC.out.below HB.out).heap hh3).at_ (flat_ne hx)
        cases e1
        obtain ⟨c0, c1, c2⟩ := let_at h1 hx
        have H3 := Troupe.hid (HH.out.heap hf3)
        have B3 := Troupe.hid (HB.out.trans (hf3.below (B := w0.heap.size) HB.out.size (by simp)))
        have X := Troupe.hid hx
        clear h1 hx hh3 hf3
        simp only [List.take_succ_cons, List.take_zero, List.drop_succ_cons, List.drop_zero]
        repeat still_step
        refine wpStill_nil ?_
        go_wp2_with fail
        by_cases hr : rightB x.why = true
        · refine (put_holds x w3 H3.out hr (by omega)).mono ?_
          rintro e w4 ⟨rfl, hh4, hf4⟩
          have H4 := Troupe.hid hh4
          have B4 := Troupe.hid (B3.out.trans (hf4.below (B := w0.heap.size) B3.out.size (by have := P2.out; intro k hk; omega)))
          have PY := Troupe.hid (puts_yes X.out hr)
          clear hh4 hf4
          go_wp2_with fail
          go_roundw
          case rel => exact ⟨j + 1, by omega, by omega, by go_num, by rw [PY.out]; exact H4.out, B4.out⟩
          case measure => simp [intOf]; omega
        · have hr' : rightB x.why = false := by simpa using hr
          refine (put_wrong (p := p) x w3 hr').mono ?_
          rintro e w4 ⟨rfl, rfl⟩
          have PY := Troupe.hid (puts_no X.out hr')
          clear hr
          go_wp2_with fail
          go_roundw
          case rel => exact ⟨j + 1, by omega, by omega, by go_num, by rw [PY.out]; exact H3.out, B3.out⟩
          case measure => simp [intOf]; omega
      · have hex : ¬ (j : Int) < n ∨ ¬ (j : Int) < 1000 := by omega
        go_wp2_with fail
        all_goals
          go_meet
          case rel => exact ⟨j, hj2, hh, hb⟩
  case rest =>
    obtain ⟨j, hj2, hh, hb⟩ := hcut
    have hpl := puts_le L j
    have HH := Troupe.hid hh
    have HB := Troupe.hid hb
    have d3 : Blk wc w.heap.size 29 _ := D0.out.below hb (by have := Z0.out; omega)
    have D3 := Troupe.hid d3
    have cd := d3.cell
    clear hh hb d3
    go_upto_region 8 with (fail)
    go_cut [9] from 42 to 49 (fun e9 w' => ∃ (l2 : List Let) (ev : Int), e9 = .int .i64 ev ∧ ((ev = 0 ∧ l2 = puts L j ++ [y]) ∨ (ev = 1 ∧ l2 = puts L j)) ∧ Holds w' p m r (keptN k) l2 ∧ Below w0.heap.size w0 w' ∧ Blk w' w.heap.size 29 [.int .u64 y.id, .int .i64 y.to_, .int .i64 y.why])
    case first =>
      go_wp2_with fail
      by_cases hr : rightB y.why = true
      · refine (put_holds y wc HH.out hr (by omega)).mono ?_
        rintro e w4 ⟨rfl, hh4, hf4⟩
        have H4 := Troupe.hid hh4
        have B4 := Troupe.hid (HB.out.trans (hf4.below (B := w0.heap.size) HB.out.size (by have := P2.out; intro k hk; omega)))
        have D4 := Troupe.hid (D3.out.frm hf4 (by have := P2.out; have := Z0.out; omega))
        clear hh4 hf4
        go_wp2_with fail
        go_meet
        case rel => exact ⟨_, 0, rfl, .inl ⟨rfl, rfl⟩, H4.out, B4.out, D4.out⟩
      · have hr' : rightB y.why = false := by simpa using hr
        refine (put_wrong (p := p) y wc hr').mono ?_
        rintro e w4 ⟨rfl, rfl⟩
        clear hr
        go_wp2_with fail
        go_meet
        case rel => exact ⟨_, 1, rfl, .inr ⟨rfl, rfl⟩, HH.out, HB.out, D3.out⟩
    case rest =>
      rename_i w9 _
      obtain ⟨l2, ev, rfl, hev, hh4, hb4, hd4⟩ := hcut
      have ht2 : l2.length ≤ 1001 := by rcases hev with ⟨_, rfl⟩ | ⟨_, rfl⟩; (simp; omega); omega
      have H4 := Troupe.hid hh4
      have B4 := Troupe.hid hb4
      have D4 := Troupe.hid hd4
      have EV := Troupe.hid hev
      clear hh4 hb4 hd4 cd hev
      go_wp2_with fail
      refine (recent_holds _ H4.out).mono ?_
      rintro e w6 ⟨v, rfl, hown, hb6⟩
      obtain ⟨A6, cap6, rfl, hq1, _, hc6, _, _⟩ := own_form hown
      have hlt4 := H4.out.lt
      have B6 := Troupe.hid (B4.out.trans (hb6.mono B4.out.size))
      have H6 := Troupe.hid (H4.out.frm (Frm.of_below hb6) (by omega) (by omega) (by omega))
      have D6 : Hid (Blk w6 w.heap.size 29 [.int .u64 y.id, .int .i64 y.to_, .int .i64 y.why]) := D4.out.below hb6 (by have := B4.out.size; have := Z0.out; omega)
      obtain ⟨N, hN⟩ : ∃ N, N = keptN k := ⟨_, rfl⟩
      obtain ⟨t, ht⟩ : ∃ t, t = l2.length := ⟨_, rfl⟩
      rw [← hN, ← ht] at hc6
      have C6 := Troupe.hid hc6
      have TOT : Hid (Calls Try.prog 16 #[.pointer (some ⟨p, 0, none⟩)] w6 fun e w' => e = .returned (.int .i64 t) ∧ w6 = w') := by rw [ht]; exact total_holds w6 H6.out
      obtain ⟨q, hq⟩ : ∃ q, q = min t N := ⟨_, rfl⟩
      rw [← ht, ← hN, ← hq] at hq1 ⊢
      have q4 : t ≤ 1001 := by omega
      have q1 : q ≤ t := by omega
      have q2 : q ≤ N := by omega
      have q3 : q = t ∨ q = N := by omega
      have kc := kept_cases k
      rw [← hN] at kc
      have T := Troupe.hid ht
      have Q := Troupe.hid hq
      clear hown hb6 hc6 hq ht hN
      go_upto_region 10 with (fail)
      go_cut [10, 51, 75] from 52 to 74 (fun s t b w' => s = .slice A6 q cap6 ∧ t = .slice A6 q cap6 ∧ b = .bool false ∧ w' = w6)
      case first =>
        rcases kc with ⟨k1, rfl⟩ | ⟨k1, rfl⟩ | ⟨k1, k2, rfl⟩
        all_goals
          go_wp2_with (go_at_call 16; refine TOT.out.mono ?_; rintro e w7 ⟨rfl, rfl⟩)
        all_goals
          go_meet
          case rel => exact ⟨by first | rfl | (simp; omega), by first | rfl | (simp; omega), by first | rfl | (simp; omega), rfl⟩
      case rest =>
        obtain ⟨rfl, rfl, rfl, rfl⟩ := hcut
        clear kc
        go_wp2_with fail
        have hev := EV.out
        have fin : ∀ nq, Below w.heap.size w (World.drewN _ nq) := fun nq => (B0.out.trans ((B6.out.trans (((Frm.refl (fun _ => False) _).drewN nq).below (B := w0.heap.size) B6.out.size (by simp))).mono (by have := Z0.out; omega)))
        have FIN := Troupe.hid fin
        clear fin
        rcases hev with ⟨rfl, hl2⟩ | ⟨rfl, hl2⟩
        · have L2 := Troupe.hid hl2
          clear hl2
          by_cases hq0 : q = 0
          · have hqb : ((q : Int) == 0) = true := by simpa using hq0
            clear hq0
            go_quiet (fail)
            go_wp2_with fail
            go_ret
            exact ⟨rfl, FIN.out _⟩
          · have hqb : ((q : Int) == 0) = false := by simpa using hq0
            have hla := last_at (l := puts L j) (x := y) (N := N) (by omega)
            rw [← L2.out, ← T.out, ← Q.out] at hla
            obtain ⟨b6, off6, rfl, _, h6⟩ := C6.out.at_ (flat_ne hla)
            obtain ⟨c0, c1, c2⟩ := let_at h6 hla
            have cd := D6.out.cell
            have hwq : IntKind.i64.wrap ((q : Int) - 1) = ((q - 1 : Nat) : Int) := by rw [IntWalk.i64_in _ (by omega)]; omega
            have hlt1 : q - 1 < q := by omega
            have hqne : ¬ q = 0 := hq0
            clear hla h6
            go_quiet (fail)
            go_wp2_with fail
            go_ret
            exact ⟨rfl, FIN.out _⟩
        · clear hl2
          go_quiet (fail)
          go_wp2_with fail
          go_ret
          exact ⟨rfl, FIN.out _⟩
end Go.Proofs.Ytdggmmdimebljaa
