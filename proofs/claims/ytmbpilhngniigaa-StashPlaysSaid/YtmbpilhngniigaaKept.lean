/- StashKept: the walk. -/
import Derived.Test.YtmbpilhngniigaaOps
namespace Go.Proofs.Ytmbpilhngniigaa
open Go.RowKit Go.Maps Go.Troupe

theorem Line.trim {w : World} {p : Nat} {S : Nat → Prop} {R : Nat} {As Fr : List Int} (h : Line w p S R As Fr) : Line w p (fun k => S k ∧ k < w.heap.size) R As Fr := by
  have hp := h.lt
  obtain ⟨va, vf, h1, h2, h3, h4, h5, h6⟩ := h.ex
  exact ⟨⟨va, vf, h1, h2, h3, h4, fun b hb => ⟨h5 b hb, (h5 b hb).2⟩, fun b hb => ⟨h6 b hb, (h6 b hb).2⟩⟩, ⟨h.sS, hp⟩, h.hR⟩

/-- A row of one-cell elements, written over in one place. -/
theorem own_write {w : World} {base n cap : Nat} {e : TypeId} {A : Option Addr} {xs : List Value} (h : w.ownsRow base e 1 (.slice A n cap) n xs) {i : Nat} (hi : i < n) (u : Value) :
    ∃ g x, A = some ⟨g, 0, none⟩ ∧ w.cell? ⟨g, i, none⟩ = some x ∧ w.frozen? ⟨g, i, none⟩ = false ∧ (∃ ys, (w.setCell ⟨g, i, none⟩ u).ownsRow base e 1 (.slice A n cap) n ys) ∧ Frm (fun k => (Value.slice A n cap).ownBlock = some k) w (w.setCell ⟨g, i, none⟩ u) := by
  rcases own_blk h with ⟨-, h0, -⟩ | ⟨g, cs, rfl, hbk, hcl, hbg, hqc, hcm, htk⟩
  · omega
  · have hlen : i < cs.length := by omega
    refine ⟨g, cs[i], rfl, ?_, hbk.frozen i, ⟨_, blk_own (n := n) (hbk.set_ i u) (by simpa using hcl) hbg hqc hcm⟩, (Frm.one w ⟨g, i, none⟩ u).mono (fun k _ hk => by simp [Value.ownBlock, hk])⟩
    rw [hbk.cell i]; exact List.getElem?_eq_getElem hlen

theorem own_below {w w' : World} {base n size : Nat} {e : TypeId} {v : Value} {xs : List Value} (h : w.ownsRow base e size v n xs) (hb : Below w.heap.size w w') : w'.ownsRow base e size v n xs :=
  own_frm h (Frm.of_below hb) (fun k hk h' => by have := (h.lt k hk).2; omega)
/-- A row of words reads as cells. -/
theorem own_cells {w : World} {base n cap : Nat} {e : TypeId} {A : Option Addr} {xs : List Value} (h : w.ownsRow base e 1 (.slice A n cap) n xs) : Cells w w.heap.size A xs := by
  obtain ⟨A', c', e', _, _, hc, _⟩ := own_form h
  simp only [Value.slice.injEq, true_and] at e'
  obtain ⟨rfl, rfl⟩ := e'
  exact hc
/-- What is written over: a row, its cells whatever. -/
def Wrt (base : Nat) (wd wr : World) (A : Option Addr) (n c : Nat) : Prop := (∃ ys, wr.ownsRow base 28 1 (.slice A n c) n ys) ∧ Frm (fun k => (Value.slice A n c).ownBlock = some k) wd wr

set_option maxRecDepth 100000 in
set_option maxHeartbeats 4000000 in
theorem kept_walk (room : Int) (Ad : Option Addr) (len cap : Nat) (l0 : List Opr) (w : World) (hl : l0.length = len) (hc : Cells w w.heap.size Ad (flatP l0)) :
    Calls Try.prog 7 #[.int .i64 room, .slice Ad len cap] w fun e w' => e = .returned (.bool true) ∧ Below w.heap.size w w' := by
  obtain ⟨n, hn⟩ : ∃ n, n = roomN room := ⟨_, rfl⟩
  have HN := Troupe.hid hn
  have C0 := Troupe.hid hc
  clear hn hc
  go_enter Try.func7, Try.ntmps7
  go_wp2_with fail
  refine (alive_any w).mono ?_
  rintro e w1 ⟨rfl, hb⟩
  have B1 := Troupe.hid hb
  clear hb
  go_wp2_with fail
  refine (Ls.new room w1).mono ?_
  rintro e w2 ⟨p, rfl, hl⟩
  rw [← HN.out] at hl
  have K2 : Hid (Ls w w2 p n [] []) := ⟨by
    obtain ⟨S, h1, h2⟩ := hl.ex
    exact ⟨S, h1, fun k hk => Nat.le_trans B1.out.size (h2 k hk)⟩, B1.out.trans (hl.be.mono B1.out.size)⟩
  clear hl
  go_upto_block 0 with (fail)
  go_cut [6] from 19 to 44 (fun _ w' => ∃ As Fr : List Int, As.length + Fr.length ≤ 300 ∧ Ls w w' p n As Fr)
  case first =>
    go_wp2_with fail
    go_loopw [6] (fun v6 wr => ∃ (i : Nat) (As Fr : List Int), i ≤ len ∧ i ≤ 300 ∧ v6 = .int .i64 i ∧ As.length + Fr.length ≤ i ∧ Ls w wr p n As Fr) (fun v6 _ => len - (intOf v6).toNat)
    case atStart => exact ⟨0, [], [], Nat.zero_le _, by omega, rfl, by simp, K2.out⟩
    case round =>
      obtain ⟨i, As, Fr, hi, hi3, rfl, hle, hls⟩ := hrel
      have S0 := Troupe.hid hls
      clear hls
      by_cases hlt : i < len ∧ i < 300
      · obtain ⟨hlt, hlt3⟩ := hlt
        have hlit : (i : Int) < 300 := by omega
        obtain ⟨x, hx⟩ : ∃ x, l0[i]? = some x := ⟨_, List.getElem?_eq_getElem (by omega)⟩
        obtain ⟨bb, o, hA, hbb, q0, q1⟩ := opr_cells C0.out hx
        subst hA
        have hk2 := x.k.isLt
        obtain ⟨k, hk⟩ : ∃ k : Nat, x.k.val = k := ⟨_, rfl⟩
        obtain ⟨y, hy⟩ : ∃ y : Int, x.id = y := ⟨_, rfl⟩
        rw [hk] at q0 hk2
        rw [hy] at q1
        have k0 : wr.cell? ⟨bb, o + i * 2, none⟩ = some (.int .u8 (k : Int)) := (S0.out.be.cell (p := ⟨bb, o + i * 2, none⟩) hbb).trans q0
        have k1 : wr.cell? ⟨bb, o + i * 2 + 1, none⟩ = some (.int .u64 y) := (S0.out.be.cell (p := ⟨bb, o + i * 2 + 1, none⟩) hbb).trans q1
        clear hk hy hx q0 q1
        have hlA : As.length ≤ 1000000 := by omega
        have hlF : Fr.length ≤ 1000000 := by omega
        by_cases h0 : k % 4 = 0
        · have m0 : ((k : Int) % 4 == 0) = true := by simp; omega
          clear h0
          by_cases hr : As.length < n
          · go_wp2_with fail
            refine (S0.out.stash y hr).mono ?_
            rintro e w4 ⟨rfl, h4⟩
            have S4 := Troupe.hid h4
            clear h4 k0 k1
            go_wp2_with fail
            go_roundw
            case rel => exact ⟨i + 1, _, _, by omega, by omega, by go_num, by simp; omega, S4.out⟩
            case measure => simp [intOf]; omega
          · go_wp2_with fail
            refine (S0.out.full y (by omega)).mono ?_
            rintro e w4 ⟨rfl, h4⟩
            have S4 := Troupe.hid h4
            clear h4 k0 k1
            go_wp2_with fail
            go_roundw
            case rel => exact ⟨i + 1, _, _, by omega, by omega, by go_num, by omega, S4.out⟩
            case measure => simp [intOf]; omega
        · have m0 : ((k : Int) % 4 == 0) = false := by rw [beq_eq_false_iff_ne]; omega
          clear h0
          go_wp2_with fail
          refine (S0.out.unstash hlA hlF).mono ?_
          rintro e w4 ⟨rfl, h4⟩
          have S4 := Troupe.hid h4
          clear h4 k0 k1
          go_wp2_with fail
          go_roundw
          case rel => exact ⟨i + 1, _, _, by omega, by omega, by go_num, by simp; omega, S4.out⟩
          case measure => simp [intOf]; omega
      · by_cases h1 : i < len
        · have h2 : ¬ i < 300 := fun h => hlt ⟨h1, h⟩
          have h2i : ¬ (i : Int) < 300 := by omega
          clear hlt
          go_wp2_with fail
          go_meet
          case rel => exact ⟨As, Fr, by omega, S0.out⟩
        · clear hlt
          go_wp2_with fail
          go_meet
          case rel => exact ⟨As, Fr, by omega, S0.out⟩
  case rest =>
    obtain ⟨w3, rfl⟩ : ∃ w3 : World, w3 = wc := ⟨_, rfl⟩
    obtain ⟨As, Fr, hle, hls⟩ := hcut
    have S3 := Troupe.hid hls
    clear hls
    obtain ⟨m, hm⟩ : ∃ m, m = As.length := ⟨_, rfl⟩
    obtain ⟨q, hq⟩ : ∃ q, q = Fr.length := ⟨_, rfl⟩
    have HM := Troupe.hid hm
    have HQ := Troupe.hid hq
    have hm3 : m ≤ 300 := by omega
    have hq3 : q ≤ 300 := by omega
    clear hm hq
    go_wp2_with fail
    refine (S3.out.stashed (by omega)).mono ?_
    rintro e w4 ⟨A4, c4, rfl, r4, b4, h4⟩
    rw [← HM.out] at r4 ⊢
    have R4 := Troupe.hid r4
    have B4 := Troupe.hid b4
    have S4 := Troupe.hid h4
    clear r4 b4 h4
    go_wp2_with fail
    refine (S4.out.front (by omega)).mono ?_
    rintro e w5 ⟨A5, c5, rfl, r5, b5, h5⟩
    rw [← HQ.out] at r5 ⊢
    have R5 := Troupe.hid r5
    have B5 := Troupe.hid b5
    have S5 := Troupe.hid h5
    clear r5 b5 h5
    go_wp2_with fail
    refine (S5.out.stashed (by omega)).mono ?_
    rintro e w6 ⟨A6, c6, rfl, r6, b6, h6⟩
    rw [← HM.out] at r6 ⊢
    have R6 := Troupe.hid r6
    have B6 := Troupe.hid b6
    have S6 := Troupe.hid h6
    clear r6 b6 h6
    go_wp2_with fail
    refine (S6.out.front (by omega)).mono ?_
    rintro e w7 ⟨A7, c7, rfl, r7, b7, h7⟩
    rw [← HQ.out] at r7 ⊢
    have R7 := Troupe.hid r7
    have B7 := Troupe.hid b7
    clear r7 b7 h7
    go_upto_block 2 with (fail)
    have z4 := B4.out.size
    have z5 := B5.out.size
    have z6 := B6.out.size
    have z7 := B7.out.size
    have la : Hid (∀ k, (Value.slice A4 m c4).ownBlock = some k → w3.heap.size ≤ k ∧ k < w4.heap.size) := R4.out.own.lt
    have lb : Hid (∀ k, (Value.slice A5 q c5).ownBlock = some k → w4.heap.size ≤ k ∧ k < w5.heap.size) := R5.out.own.lt
    have lc : Hid (∀ k, (Value.slice A6 m c6).ownBlock = some k → w5.heap.size ≤ k ∧ k < w6.heap.size) := R6.out.own.lt
    have ld : Hid (∀ k, (Value.slice A7 q c7).ownBlock = some k → w6.heap.size ≤ k ∧ k < w7.heap.size) := R7.out.own.lt
    have oa := Troupe.hid (own_below (own_below (own_below R4.out.own B5.out) B6.out) B7.out)
    have ob := Troupe.hid (own_below (own_below R5.out.own B6.out) B7.out)
    have oc := Troupe.hid (own_below R6.out.own B7.out)
    have od := Troupe.hid R7.out.own
    have B37 := Troupe.hid (B4.out.trans ((B5.out.trans ((B6.out.trans (B7.out.mono z6)).mono z5)).mono z4))
    go_cut [11] from 53 to 61 (fun _ w' => Wrt w3.heap.size w7 w' A4 m c4)
    case first =>
      go_wp2_with fail
      go_loopw [11] (fun v11 wr => ∃ j : Nat, j ≤ m ∧ v11 = .int .i64 j ∧ Wrt w3.heap.size w7 wr A4 m c4) (fun v11 _ => m - (intOf v11).toNat)
      case atStart => exact ⟨0, Nat.zero_le _, rfl, ⟨_, oa.out⟩, Frm.refl _ _⟩
      case round =>
        obtain ⟨j, hj, rfl, hw⟩ := hrel
        by_cases hjm : j < m
        · obtain ⟨⟨ys, hy⟩, hf⟩ := hw
          obtain ⟨g, x, rfl, e1, e2, e3, e4⟩ := own_write hy hjm (.int .u64 77)
          have E3 := Troupe.hid e3
          have E4 := Troupe.hid (hf.trans e4 (fun _ _ h => h))
          clear e3 e4 hf hy
          go_wp2_with fail
          go_roundw
          case rel => exact ⟨j + 1, by omega, by go_num, E3.out, E4.out⟩
          case measure => simp [intOf]; omega
        · obtain rfl : j = m := by omega
          have HW := Troupe.hid hw
          clear hw
          go_wp2_with fail
          go_meet
          case rel => exact HW.out
    case rest =>
      obtain ⟨w8, rfl⟩ : ∃ w8 : World, w8 = wc := ⟨_, rfl⟩
      obtain ⟨⟨ya, ha⟩, hfa⟩ := hcut
      have oa8 := Troupe.hid ha
      have fa8 := Troupe.hid hfa
      clear ha hfa
      have ob8 := Troupe.hid (own_frm ob.out fa8.out (fun k hk h => by have := la.out k h; have := lb.out k hk; omega))
      have oc8 := Troupe.hid (own_frm oc.out fa8.out (fun k hk h => by have := la.out k h; have := lc.out k hk; omega))
      have od8 := Troupe.hid (own_frm od.out fa8.out (fun k hk h => by have := la.out k h; have := ld.out k hk; omega))
      have B38 := Troupe.hid (B37.out.trans (fa8.out.below B37.out.size (fun k h => (la.out k h).1)))
      have z8 := fa8.out.size
      go_upto_block 4 with (fail)
      go_cut [12] from 62 to 70 (fun _ w' => Wrt w4.heap.size w8 w' A5 q c5)
      case first =>
        go_wp2_with fail
        go_loopw [12] (fun v12 wr => ∃ j : Nat, j ≤ q ∧ v12 = .int .i64 j ∧ Wrt w4.heap.size w8 wr A5 q c5) (fun v12 _ => q - (intOf v12).toNat)
        case atStart => exact ⟨0, Nat.zero_le _, rfl, ⟨_, ob8.out⟩, Frm.refl _ _⟩
        case round =>
          obtain ⟨j, hj, rfl, hw⟩ := hrel
          by_cases hjm : j < q
          · obtain ⟨⟨ys, hy⟩, hf⟩ := hw
            obtain ⟨g, x, rfl, e1, e2, e3, e4⟩ := own_write hy hjm (.int .u64 78)
            have E3 := Troupe.hid e3
            have E4 := Troupe.hid (hf.trans e4 (fun _ _ h => h))
            clear e3 e4 hf hy
            go_wp2_with fail
            go_roundw
            case rel => exact ⟨j + 1, by omega, by go_num, E3.out, E4.out⟩
            case measure => simp [intOf]; omega
          · obtain rfl : j = q := by omega
            have HW := Troupe.hid hw
            clear hw
            go_wp2_with fail
            go_meet
            case rel => exact HW.out
      case rest =>
        obtain ⟨w9, rfl⟩ : ∃ w9 : World, w9 = wc := ⟨_, rfl⟩
        obtain ⟨⟨yb, hb⟩, hfb⟩ := hcut
        have ob9 := Troupe.hid hb
        have fb9 := Troupe.hid hfb
        clear hb hfb
        have oa9 := Troupe.hid (own_frm oa8.out fb9.out (fun k hk h => by have := lb.out k h; have := la.out k hk; omega))
        have oc9 := Troupe.hid (own_frm oc8.out fb9.out (fun k hk h => by have := lb.out k h; have := lc.out k hk; omega))
        have od9 := Troupe.hid (own_frm od8.out fb9.out (fun k hk h => by have := lb.out k h; have := ld.out k hk; omega))
        have B39 := Troupe.hid (B38.out.trans (fb9.out.below B38.out.size (fun k h => by have := lb.out k h; omega)))
        have z9 := fb9.out.size
        have Fa : Below w9.heap.size w9 (w9.alloc (.cells #[.int .u64 79] 28)) := (Below.refl _ _).alloc (Nat.le_refl _) _
        have oa10 := Troupe.hid (own_below oa9.out Fa)
        have ob10 := Troupe.hid (own_below ob9.out Fa)
        have oc10 := Troupe.hid (own_below oc9.out Fa)
        have od10 := Troupe.hid (own_below od9.out Fa)
        have B310 := Troupe.hid (B39.out.trans (Fa.mono B39.out.size))
        have ca10 := Troupe.hid ((Blk.new w9 28 [.int .u64 79]).blk_cells)
        have z10 : (w9.alloc (.cells #[.int .u64 79] 28)).heap.size = w9.heap.size + 1 := by simp
        clear Fa
        have hya : ya.length = m := by have := oa10.out.1; simpa using this
        have hyb : yb.length = q := by have := ob10.out.1; simpa using this
        go_wp2_with (first
          | (at_builtin; refine wpList_app rfl (.tmp 71) (.tmp 72) 22 rfl w3.heap.size 28 info28 Try.underlying22 rfl (by decide) (.slice A4 m c4) m ya rfl oa10.out (w9.heap.size + 1) (some ⟨w9.heap.size, 0, none⟩) 1 1 [.int .u64 79] rfl rfl ca10.out (fun h => by cases h) (by simp [Value.oneCell']) (by omega) (by unfold maxLen; omega) (by omega) ?_; intro v0 w11 h'; obtain ⟨Aa, ca, rfl, -⟩ := own_form h'.own; have A11 := Troupe.hid h'; clear h')
          | (at_builtin
             have ob11 := Troupe.hid (own_frm ob10.out A11.out.frm (fun k hk h => by have := la.out k h; have := lb.out k hk; omega))
             have oc11 := Troupe.hid (own_frm oc10.out A11.out.frm (fun k hk h => by have := la.out k h; have := lc.out k hk; omega))
             have od11 := Troupe.hid (own_frm od10.out A11.out.frm (fun k hk h => by have := la.out k h; have := ld.out k hk; omega))
             have B311 := Troupe.hid (B310.out.trans (A11.out.frm.below B310.out.size (fun k h => (la.out k h).1)))
             have z11 := A11.out.frm.size
             have Fb : Below w11.heap.size w11 (w11.alloc (.cells #[.int .u64 80] 28)) := (Below.refl _ _).alloc (Nat.le_refl _) _
             have ob12 := Troupe.hid (own_below ob11.out Fb)
             have oc12 := Troupe.hid (own_below oc11.out Fb)
             have od12 := Troupe.hid (own_below od11.out Fb)
             have B312 := Troupe.hid (B311.out.trans (Fb.mono B311.out.size))
             have ca12 := Troupe.hid ((Blk.new w11 28 [.int .u64 80]).blk_cells)
             have z12 : (w11.alloc (.cells #[.int .u64 80] 28)).heap.size = w11.heap.size + 1 := by simp
             clear Fb
             refine wpList_app rfl (.tmp 74) (.tmp 75) 22 rfl w4.heap.size 28 info28 Try.underlying22 rfl (by decide) (.slice A5 q c5) q yb rfl ob12.out (w11.heap.size + 1) (some ⟨w11.heap.size, 0, none⟩) 1 1 [.int .u64 80] rfl rfl ca12.out (fun h => by cases h) (by simp [Value.oneCell']) (by omega) (by unfold maxLen; omega) (by omega) ?_; intro v1 w13 h'; obtain ⟨Ab, cb, rfl, -⟩ := own_form h'.own; have A13 := Troupe.hid h'; clear h'))
        have oc13 := Troupe.hid (own_frm oc12.out A13.out.frm (fun k hk h => by have := lb.out k h; have := lc.out k hk; omega))
        have od13 := Troupe.hid (own_frm od12.out A13.out.frm (fun k hk h => by have := lb.out k h; have := ld.out k hk; omega))
        have B313 := Troupe.hid (B312.out.trans (A13.out.frm.below B312.out.size (fun k h => by have := lb.out k h; omega)))
        obtain ⟨S, hline, hS⟩ := S3.out.ex
        have z13 := B313.out.size
        refine (clear_any w13 (hline.trim.below B313.out) (by omega) (by omega)).mono ?_
        rintro e w14 ⟨v, rfl, ho, S', hl', hsub, hfr⟩
        obtain ⟨M, hM⟩ : ∃ M, M = Fr.length + As.length := ⟨_, rfl⟩
        have hMq : M = q + m := by rw [hM, HM.out, HQ.out]
        obtain ⟨ll, hll⟩ : ∃ ll, ll = Fr.reverse ++ As := ⟨_, rfl⟩
        rw [← hM, ← hll] at ho
        obtain ⟨A8, c8, rfl, -⟩ := own_form ho
        have oc14 := Troupe.hid (own_cells (own_frm oc13.out hfr (fun k hk h => by have := lc.out k hk; have := h.2; omega)))
        have od14 := Troupe.hid (own_cells (own_frm od13.out hfr (fun k hk h => by have := ld.out k hk; have := h.2; omega)))
        have oe14 := Troupe.hid (own_cells ho)
        have B14 := Troupe.hid (S3.out.be.trans ((B313.out.mono S3.out.be.size).trans (hfr.below (B := w.heap.size) (Nat.le_trans S3.out.be.size z13) (fun k hk => hS k hk.1))))
        have hlen : ll.length = M := by rw [hll, hM]; simp
        have hd : ∀ j, j < q → ll[j]? = Fr.reverse[j]? := fun j hj => by rw [hll, List.getElem?_append_left (by rw [List.length_reverse, ← HQ.out]; exact hj)]
        have hcc : ∀ j, ll[q + j]? = As[j]? := fun j => by
          have e : Fr.reverse.length = q := by rw [List.length_reverse, HQ.out]
          rw [hll, List.getElem?_append_right (by omega), e, Nat.add_sub_cancel_left]
        have HD := Troupe.hid hd
        have HC := Troupe.hid hcc
        have hM3 : M ≤ 600 := by omega
        have hw1 : IntKind.i64.wrap ((m : Int) + (q : Int)) = (M : Int) := by rw [IntWalk.i64_in _ (by omega)]; omega
        have hw2 : IntKind.i64.wrap ((m : Int) + 1 + ((q : Int) + 1)) = (M : Int) + 2 := by rw [IntWalk.i64_in _ (by omega)]; omega
        have hw3 : IntKind.i64.wrap ((M : Int) + 2) = (M : Int) + 2 := IntWalk.i64_in _ (by omega)
        have HMq := Troupe.hid hMq
        clear ho hl' hsub hfr hd hcc hll hM hMq hline
        go_wp2_with fail
        go_loopw [14] (fun v14 wq => ∃ j : Nat, j ≤ M ∧ v14 = .int .i64 j ∧ Below w14.heap.size w14 wq) (fun v14 _ => M - (intOf v14).toNat)
        case atStart => exact ⟨0, Nat.zero_le _, rfl, Below.refl _ _⟩
        case round =>
          obtain ⟨j, hj, rfl, hb⟩ := hrel
          have HB := Troupe.hid hb
          by_cases hjM : j < M
          · obtain ⟨z, hz⟩ : ∃ z, ll[j]? = some z := ⟨_, List.getElem?_eq_getElem (by omega)⟩
            obtain ⟨b1, o1, hA1, -, q1⟩ := cell_word (oe14.out.below hb) hz
            subst hA1
            by_cases hjq : j < q
            · have hz2 : Fr.reverse[j]? = some z := by rw [← HD.out j hjq]; exact hz
              obtain ⟨b2, o2, hA2, -, q2⟩ := cell_word (od14.out.below hb) hz2
              subst hA2
              have hjq2 : (j : Int) < (q : Int) := by omega
              have hjq3 : decide ((j : Int) < (q : Int)) = true := decide_eq_true hjq2
              have hjq4 : decide ((q : Int) ≤ (j : Int)) = false := decide_eq_false (by omega)
              have hjq5 : decide (q ≤ j) = false := decide_eq_false (by omega)
              clear hz hz2 hb
              go_wp2_with fail
              go_quiet (fail)
              go_wp2_with fail
              go_roundw
              case rel => exact ⟨j + 1, by omega, by go_num, HB.out.trans ((Frm.refl (fun _ => False) wr).drewN _ |>.below HB.out.size (fun _ h => h.elim))⟩
              case measure => simp [intOf]; omega
            · obtain ⟨t, rfl⟩ : ∃ t, j = q + t := ⟨j - q, by omega⟩
              have hz2 : As[t]? = some z := by rw [← HC.out t]; exact hz
              obtain ⟨b2, o2, hA2, -, q2⟩ := cell_word (oc14.out.below hb) hz2
              subst hA2
              have ht2 : decide ((q : Int) + (t : Int) < (q : Int)) = false := decide_eq_false (by omega)
              have ht3 : decide ((q : Int) ≤ (q : Int) + (t : Int)) = true := decide_eq_true (by omega)
              have ht : t < m := by have := HMq.out; omega
              have hv1 : IntKind.i64.wrap ((q : Int) + (t : Int) - (q : Int)) = (t : Int) := by rw [IntWalk.i64_in _ (by omega)]; omega
              have hv2 : IntKind.i64.wrap (t : Int) = (t : Int) := IntWalk.i64_in _ (by omega)
              clear hz hz2 hb
              go_wp2_with fail
              go_quiet (fail)
              go_wp2_with fail
              go_roundw
              case rel => exact ⟨q + t + 1, by omega, by go_num, HB.out.trans ((Frm.refl (fun _ => False) wr).drewN _ |>.below HB.out.size (fun _ h => h.elim))⟩
              case measure => simp [intOf]; omega
          · clear hb
            go_wp2_with fail
            go_ret
            exact ⟨rfl, B14.out.trans (HB.out.mono B14.out.size)⟩
end Go.Proofs.Ytmbpilhngniigaa
