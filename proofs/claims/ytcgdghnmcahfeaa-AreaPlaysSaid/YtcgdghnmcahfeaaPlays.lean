/- AreaPlays: the walk. -/
import Derived.Test.YtcgdghnmcahfeaaRefR
import Derived.Test.YtcgdghnmcahfeaaPlan
namespace Go.Proofs.Ytcgdghnmcahfeaa
open Go.RowKit Go.Maps Go.Troupe
attribute [local go_sem] reads readAt readUpon Cls

theorem give_both {N : Nat} {L : List Rg} {O : List Int} (hs : Sim N L O) (hok : Ok 0 N L) (hN : N ≤ 65536) (t : Int) :
    ∃ (L' : List Rg) (e0 : Int) (O' : List Int), giveV L t = (L', e0) ∧ Sim N L' O' ∧ ∀ W pr T, Rf W pr T O → Calls Try.prog 12 #[.pointer (some ⟨pr, 0, none⟩), .int .i64 t] W (RGave pr T O' e0 W) := by
  have hl := hs.len
  rcases hs.give hok t with ⟨r, hr, rfl, _, hle, hin, hout, hgv, hsim⟩ | ⟨hgv, hno⟩
  · have := (hok.mem r hr).2.1
    exact ⟨_, _, _, hgv, hsim, fun W pr T h => refgive_hit r.1 r.2 W h (by omega) this (by omega) hin hout⟩
  · exact ⟨_, _, O, hgv, hs, fun W pr T h => refgive_miss t W h (by omega) hno⟩
theorem take_both {N : Nat} {L : List Rg} {O : List Int} (hs : Sim N L O) (hok : Ok 0 N L) (hN : N ≤ 65536) (k : Int) :
    ∃ (L' : List Rg) (x e0 : Int) (O' : List Int), takeV N L k = (L', x, e0) ∧ Sim N L' O' ∧ ∀ W pr T, Rf W pr T O → Calls Try.prog 14 #[.pointer (some ⟨pr, 0, none⟩), .int .i64 k] W (RTook pr T O' x e0 W) := by
  have hl := hs.len
  by_cases hk : k < 1
  · exact ⟨L, 0, 1, O, by unfold takeV; rw [if_pos hk], hs, fun W pr T h => reftake_none k W h (by omega) 1 (.inl ⟨hk, rfl⟩)⟩
  obtain ⟨kn, rfl⟩ : ∃ kn : Nat, k = kn := ⟨k.toNat, by omega⟩
  rcases hs.take hok kn (by omega) with ⟨L', sb, htv, hfit, hlt, hroom, hno, hsim⟩ | ⟨htv, hno⟩
  · exact ⟨L', sb, 0, _, htv, hsim, fun W pr T h => reftake_ok kn sb W h (by omega) (by omega) (by omega) (by rw [hl]; exact hroom) (by rw [hl]; exact hno)⟩
  · exact ⟨L, 0, 4, O, htv, hs, fun W pr T h => reftake_none kn W h (by omega) 4 (.inr ⟨by omega, rfl, by rw [hl]; exact hno⟩)⟩

/-- An area and the document's area, side by side. -/
def Both (w0 wk : World) (p pr N : Nat) (L : List Rg) (O : List Int) : Prop :=
  ∃ S T, ArS w0 wk p S N L ∧ Rf wk pr T O ∧ (∀ k, S k → ¬ T k) ∧ (∀ k, T k → w0.heap.size ≤ k ∧ k < wk.heap.size) ∧ (∀ k, S k → k < wk.heap.size)
section
variable {w0 wk w' : World} {p pr N : Nat} {L : List Rg} {O : List Int}
theorem Both.below (h : Both w0 wk p pr N L O) (hb : Below wk.heap.size wk w') : Both w0 w' p pr N L O := by
  obtain ⟨S, T, h1, h2, h3, h4, h5⟩ := h
  have hs := hb.size
  exact ⟨S, T, h1.below hb, h2.below hb, h3, fun k hk => ⟨(h4 k hk).1, by have := (h4 k hk).2; omega⟩, fun k hk => by have := h5 k hk; omega⟩
theorem Both.be (h : Both w0 wk p pr N L O) : Below w0.heap.size w0 wk := by obtain ⟨S, T, h1, _⟩ := h; exact h1.be
theorem Both.ar (h : Both w0 wk p pr N L O) : Ar w0 wk p N L := by obtain ⟨S, T, h1, _⟩ := h; exact ⟨S, h1⟩
theorem Both.rf (h : Both w0 wk p pr N L O) : ∃ T, Rf wk pr T O := by obtain ⟨S, T, _, h2, _⟩ := h; exact ⟨T, h2⟩
theorem Both.free (h : Both w0 wk p pr N L O) : Calls Try.prog 15 #[.pointer (some ⟨p, 0, none⟩)] wk fun e w' => e = .returned (.int .i64 (Ytcgdghnmcahfeaa.freeV N L)) ∧ Both w0 w' p pr N L O := by
  obtain ⟨S, hS⟩ := h.ar
  refine (free_any wk hS.ar).mono ?_
  rintro e w' ⟨rfl, hb⟩
  exact ⟨rfl, h.below hb⟩
theorem Both.rfree (h : Both w0 wk p pr N L O) (hs : Sim N L O) (hN : N ≤ 65536) : Calls Try.prog 16 #[.pointer (some ⟨pr, 0, none⟩)] wk fun e w' => e = .returned (.int .i64 (Ytcgdghnmcahfeaa.freeV N L)) ∧ w' = wk := by
  obtain ⟨T, hT⟩ := h.rf
  have := reffree_any wk hT (by rw [hs.len]; exact hN)
  rw [hs.freeV h.ar.ok] at this
  exact this
end
set_option maxRecDepth 100000 in
set_option maxHeartbeats 8000000 in
theorem plays_walk (n : Int) (Ad : Option Addr) (len cap : Nat) (s : List Opn) (w : World) (hl : s.length = len) (hm : len ≤ maxLen) (hc : Cells w w.heap.size Ad (flatO s)) :
    Calls Try.prog 3 #[.int .i64 n, .slice Ad len cap] w fun e w' => e = .returned (.bool true) ∧ Below w.heap.size w w' := by
  have C0 := Troupe.hid hc
  have hm' : len ≤ 9223372036854775807 := hm
  clear hc hm
  by_cases hn : 2000 < n
  · go_enter Try.func3, Try.ntmps3
    go_wp2_with fail
    refine (alive_any w).mono ?_
    rintro e w1 ⟨rfl, hb⟩
    have B1 := Troupe.hid hb
    clear hb
    go_wp2_with fail
    go_ret
    exact ⟨rfl, B1.out⟩
  go_enter Try.func3, Try.ntmps3
  go_wp2_with fail
  refine (alive_any w).mono ?_
  rintro e w1 ⟨rfl, hb⟩
  have B1 := Troupe.hid hb
  clear hb
  go_wp2_with fail
  obtain ⟨M, hMe⟩ : ∃ M, M = areaN n := ⟨_, rfl⟩
  have hM : M ≤ 65536 := by rw [hMe]; unfold areaN; split <;> (try split) <;> omega
  refine (new_any n w1).mono ?_
  rintro e w2 ⟨p, rfl, ha, hb⟩
  rw [← hMe] at ha
  have A2 := Troupe.hid ha
  have B2 := Troupe.hid hb
  have RN := Troupe.hid (refnew_any n M w2 hMe hM)
  clear ha hb hMe
  go_wp2_with fail
  refine RN.out.mono ?_
  rintro e w3 ⟨pr, rfl, hr, hb⟩
  have BO : Hid (Both w w3 p pr M [] (List.replicate M (-1))) := by
    have hs1 := B1.out.size
    have hs2 := B2.out.size
    have hs3 := hb.size
    refine ⟨_, _, ⟨A2.out.below hb, fun k hk => by have := hk.1; omega, B1.out.trans ((B2.out.trans (hb.mono B2.out.size)).mono B1.out.size)⟩, hr, fun k hk hk2 => by have := hk.2; have := hk2.1; omega, fun k hk => ⟨by have := hk.1; omega, hk.2⟩, fun k hk => by have := hk.2; omega⟩
  clear hr hb RN A2 B2
  go_wp2_with fail
  go_loopw [7] (fun v7 wr => ∃ (i : Nat) (L : List Rg) (O : List Int), v7 = .int .i64 i ∧ i ≤ len ∧ Both w wr p pr M L O ∧ Sim M L O) (fun v7 _ => len - (intOf v7).toNat)
  case atStart => exact ⟨0, _, _, rfl, Nat.zero_le _, BO.out, Sim.start M⟩
  case round =>
    obtain ⟨i, L, O, rfl, hi, hbo, hsim⟩ := hrel
    have H := Troupe.hid hbo
    have SM := Troupe.hid hsim
    clear hbo hsim
    by_cases hlt : i < len
    · obtain ⟨x, hx⟩ : ∃ x, s[i]? = some x := ⟨_, List.getElem?_eq_getElem (by omega)⟩
      obtain ⟨b, off, hA, _, d0, d1⟩ := (C0.out.below H.out.be).opn hx
      subst hA
      obtain ⟨g, k⟩ := x
      simp only at d0 d1
      clear hx
      obtain ⟨S, T, hS, hR, hST, hT, hS2⟩ := H.out
      have OK := Troupe.hid hS.ar.ok
      have e1 : Below wr.heap.size wr (wr.alloc (.cells #[.bool g, .int .i64 k] 29)) := (Below.refl _ _).alloc (Nat.le_refl _) _
      have bx : Blk (wr.alloc (.cells #[.bool g, .int .i64 k] 29)) wr.heap.size 29 [.bool g, .int .i64 k] := Blk.new wr 29 _
      have hw1 : (wr.alloc (.cells #[.bool g, .int .i64 k] 29)).heap.size = wr.heap.size + 1 := by simp
      have HS := Troupe.hid (hS.below e1)
      have HR := Troupe.hid (hR.below e1)
      have ST := Troupe.hid hST
      have TT := Troupe.hid hT
      have SS := Troupe.hid hS2
      have bxc := bx.cell
      have q0 : (wr.alloc (.cells #[.bool g, .int .i64 k] 29)).cell? ⟨wr.heap.size, 0, none⟩ = some (.bool g) := bxc 0
      have q1 : (wr.alloc (.cells #[.bool g, .int .i64 k] 29)).cell? ⟨wr.heap.size, 1, none⟩ = some (.int .i64 k) := bxc 1
      have BX := Troupe.hid bx
      clear hS hR hST hT hS2 e1 bx bxc
      have hwr : wr.heap.size < (wr.alloc (.cells #[.bool g, .int .i64 k] 29)).heap.size := by omega
      have EB := Troupe.hid H.out.be
      cases g with
      | true =>
        obtain ⟨L', e0, O', hgv, hsim', hrg⟩ := give_both SM.out OK.out HS.out.ar.hN k
        have GV := Troupe.hid hgv
        have SM2 := Troupe.hid hsim'
        have RG := Troupe.hid hrg
        clear hgv hsim' hrg
        go_wp2_with fail
        generalize wr.alloc (.cells #[.bool true, .int .i64 k] 29) = W1 at *
        let S0 : World → Prop := fun w' => Frm (fun k => S k ∨ T k) W1 w'
        have hne : Nonempty (SW S0) := ⟨⟨W1, Frm.refl _ _⟩⟩
        have hnx : ¬ (S wr.heap.size ∨ T wr.heap.size) := by
          rintro (h | h)
          · have := SS.out _ h; omega
          · have := (TT.out _ h).2; omega
        have FX : ∀ (x : SW S0) (i : Nat), x.w.cell? ⟨wr.heap.size, i, none⟩ = [Value.bool true, .int .i64 k][i]? := fun x i => (BX.out.frm x.h hnx).cell i
        refine region_mixo (S := Cls S0) [0, 1, 2, 4, 5, 6] [3, 7] 8 (by kernel_rfl) (by kernel_rfl) (fun _ _ d _ _ h => by cases d <;> exact h) ?_
        intro w6 hh o1 o2 o3
        have F6 : Frm (fun _ => False) W1 w6 := Frm.of_heap hh o1 o2 o3
        have G6 : Frm (fun k => S k ∨ T k) W1 w6 := F6.mono (fun _ _ h => h.elim)
        clear hh o1 o2 o3
        refine ⟨Cls.of G6, ?_⟩
        simp only [pick, List.getElem?_cons_succ, List.getElem?_cons_zero, List.drop_succ_cons, List.drop_zero]
        repeat (refine wpReads_step (fun K hK => ?_); go_simp; refine hK _ ?_; clear hK K)
        refine wpReads_nil ?_
        have HS6 := Troupe.hid (HS.out.below (F6.below (Nat.le_refl _) (fun _ h => h.elim)))
        have HR6 := Troupe.hid (HR.out.frm F6 (fun _ _ h => h.elim))
        have hs6 := F6.size
        clear F6
        unfold wpMid
        go_wp2_with fail
        refine (give_any k w6 HS6.out.ar).mono ?_
        rintro e w7 ⟨rfl, hlf⟩
        rw [GV.out] at hlf ⊢
        obtain ⟨S', hA7, hG, hF7⟩ := HS6.out.left hlf
        have A7 := Troupe.hid hA7
        have GR := Troupe.hid hG
        have HR7 := Troupe.hid (HR6.out.frm hF7 (fun k _ hS hT => ST.out k hS hT))
        have G7 := G6.trans hF7 (fun k _ h => .inl h)
        have hs7 := hF7.size
        clear hlf hA7 hG hF7 HS6 HR6
        dsimp only
        go_wp2_with fail
        refine ⟨Cls.of G7, ?_⟩
        unfold wpMid
        go_wp2_with fail
        refine (RG.out w7 pr T HR7.out).mono ?_
        rintro e w8 ⟨rfl, hR8, hF8⟩
        have G8 := G7.trans hF8 (fun k _ h => .inr h)
        have B8 : Hid (Both w w8 p pr M L' O') := by
          have hs8 := hF8.size
          have hd : ∀ k, S' k ∧ k < w7.heap.size → ¬ T k := by
            rintro k ⟨hk, _⟩ hTk
            rcases GR.out k hk with h | h
            · exact ST.out k h hTk
            · have := (TT.out k hTk).2; omega
          have hA := A7.out.ar.trim
          have hbe : Below w.heap.size w w8 := A7.out.be.trans (hF8.below A7.out.be.size (fun k hk => (TT.out k hk).1))
          exact ⟨_, T, ⟨hA.frm hF8 (fun k _ hTk hS => hd k hS hTk), fun k hk => A7.out.lo k hk.1, hbe⟩, hR8, hd, fun k hk => ⟨(TT.out k hk).1, by have := (TT.out k hk).2; omega⟩, fun k hk => by have := hk.2; omega⟩
        clear hR8 hF8
        go_wp2_with fail
        refine ⟨Cls.of G8, ?_⟩
        clear G6 G7 G8 FX hne
        unfold wpMid
        go_wp2_with fail
        refine B8.out.free.mono ?_
        rintro e w9 ⟨rfl, hb9⟩
        have B9 := Troupe.hid hb9
        clear hb9
        go_wp2_with fail
        refine (B9.out.rfree SM2.out hM).mono ?_
        rintro e wa ⟨rfl, rfl⟩
        go_wp2_with fail
        go_roundw
        case rel => exact ⟨i + 1, L', O', by go_num, by omega, B9.out, SM2.out⟩
        case measure => simp [intOf]; omega
      | false =>
        obtain ⟨L', x0, e0, O', hgv, hsim', hrg⟩ := take_both SM.out OK.out HS.out.ar.hN k
        have GV := Troupe.hid hgv
        have SM2 := Troupe.hid hsim'
        have RG := Troupe.hid hrg
        clear hgv hsim' hrg
        go_wp2_with fail
        generalize wr.alloc (.cells #[.bool false, .int .i64 k] 29) = W1 at *
        refine (take_any k W1 HS.out.ar).mono ?_
        rintro e w7 ⟨rfl, hlf⟩
        rw [GV.out] at hlf ⊢
        obtain ⟨S', hA7, hG, hF7⟩ := HS.out.left hlf
        have A7 := Troupe.hid hA7
        have GR := Troupe.hid hG
        have HR7 := Troupe.hid (HR.out.frm hF7 (fun k _ hS hT => ST.out k hS hT))
        have hs7 := hF7.size
        have hnx : ¬ S wr.heap.size := fun h => by have := SS.out _ h; omega
        have q2 : w7.cell? ⟨wr.heap.size, 1, none⟩ = some (.int .i64 k) := (BX.out.frm hF7 hnx).cell 1
        clear hlf hA7 hG hF7 q0 q1
        dsimp only
        go_wp2_with fail
        refine (RG.out w7 pr T HR7.out).mono ?_
        rintro e w8 ⟨rfl, hR8, hF8⟩
        have B8 : Hid (Both w w8 p pr M L' O') := by
          have hs8 := hF8.size
          have hd : ∀ k, S' k ∧ k < w7.heap.size → ¬ T k := by
            rintro k ⟨hk, _⟩ hTk
            rcases GR.out k hk with h | h
            · exact ST.out k h hTk
            · have := (TT.out k hTk).2; omega
          have hA := A7.out.ar.trim
          have hbe : Below w.heap.size w w8 := A7.out.be.trans (hF8.below A7.out.be.size (fun k hk => (TT.out k hk).1))
          exact ⟨_, T, ⟨hA.frm hF8 (fun k _ hTk hS => hd k hS hTk), fun k hk => A7.out.lo k hk.1, hbe⟩, hR8, hd, fun k hk => ⟨(TT.out k hk).1, by have := (TT.out k hk).2; omega⟩, fun k hk => by have := hk.2; omega⟩
        clear hR8 hF8
        go_wp2_with fail
        refine B8.out.free.mono ?_
        rintro e w9 ⟨rfl, hb9⟩
        have B9 := Troupe.hid hb9
        clear hb9
        go_wp2_with fail
        refine (B9.out.rfree SM2.out hM).mono ?_
        rintro e wa ⟨rfl, rfl⟩
        go_wp2_with fail
        go_roundw
        case rel => exact ⟨i + 1, L', O', by go_num, by omega, B9.out, SM2.out⟩
        case measure => simp [intOf]; omega
    · have AR := Troupe.hid H.out.ar
      go_wp2_with fail
      refine (flat_any wr AR.out.choose_spec.ar).mono ?_
      rintro e w5 ⟨A5, c5, rfl, ho5, hb5⟩
      have H5 := Troupe.hid (H.out.below hb5)
      have O5 := Troupe.hid ho5
      clear ho5 hb5
      go_wp2_with fail
      refine (refregions_any w5 H5.out.rf.choose_spec (by rw [SM.out.len]; exact hM) (by rw [SM.out.len]; exact SM.out) (by rw [SM.out.len]; exact H5.out.ar.ok)).mono ?_
      rintro e w6 ⟨A6, c6, rfl, ho6, hb6⟩
      have H6 := Troupe.hid (H5.out.below hb6)
      have O6 := Troupe.hid ho6
      have O7 := Troupe.hid (own_below O5.out hb6)
      have hLl := H5.out.ar.ok.length
      clear ho6 hb6
      go_wp2_with fail
      refine (ints_eq A5 (L.length * 2) c5 A6 c6 (flatI L) w6 (flatI_len L) (by omega) (own_cells O7.out) (own_cells O6.out)).mono ?_
      rintro e w7 ⟨rfl, hb7⟩
      have H7 := Troupe.hid (H6.out.below hb7)
      clear hb7
      go_wp2_with fail
      refine H7.out.free.mono ?_
      rintro e w9 ⟨rfl, hb9⟩
      have B9 := Troupe.hid hb9
      clear hb9
      go_wp2_with fail
      refine (B9.out.rfree SM.out hM).mono ?_
      rintro e wa ⟨rfl, rfl⟩
      go_wp2_with fail
      go_ret
      exact ⟨by simp, B9.out.be⟩
end Go.Proofs.Ytcgdghnmcahfeaa
