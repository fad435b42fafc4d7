/- Whatever is added and cut: each answer is the document's, and so is all that is told of every member. -/
import Derived.Test.YtmdiagcmfcjleaaRefE
namespace Go.Proofs.Ytmdiagcmfcjleaa
open Go.RowKit Go.Maps Go.Troupe

/-- A tree of M, and the document's row of N and a block g, that are not its own. -/
def Pr (w0 wk : World) (p g : Nat) (M N : List Mb) (v : Value) : Prop :=
  ∃ S, Tr wk p S M ∧ (∀ k, S k → w0.heap.size ≤ k ∧ k < wk.heap.size ∧ k ≠ g) ∧ Below w0.heap.size w0 wk ∧ wk.ownsRow w0.heap.size 44 2 v N.length (flatM N) ∧ ∀ b, v.ownBlock = some b → ¬ S b
section
variable {w0 wk w' : World} {p g : Nat} {M M' N : List Mb} {v : Value} {t : TypeId} {cs : List Value}
theorem Pr.ts (h : Pr w0 wk p g M N v) : Ts w0 wk p M := by obtain ⟨S, h1, h2, h3, _⟩ := h; exact ⟨S, h1, fun k hk => (h2 k hk).1, h3⟩
theorem Pr.own (h : Pr w0 wk p g M N v) : wk.ownsRow w0.heap.size 44 2 v N.length (flatM N) := by obtain ⟨S, _, _, _, h4, _⟩ := h; exact h4
theorem Pr.below (h : Pr w0 wk p g M N v) (hb : Below wk.heap.size wk w') : Pr w0 w' p g M N v := by
  obtain ⟨S, h1, h2, h3, h4, h5⟩ := h
  have := hb.size
  exact ⟨S, h1.below hb, fun k hk => ⟨(h2 k hk).1, by have := (h2 k hk).2; omega⟩, h3.trans (hb.mono h3.size), own_below h4 hb, h5⟩
theorem Pr.fresh (h : Pr w0 wk p g M N v) : Pr w0 wk p wk.heap.size M N v := by
  obtain ⟨S, h1, h2, h3, h4, h5⟩ := h
  exact ⟨S, h1, fun k hk => ⟨(h2 k hk).1, (h2 k hk).2.1, by have := (h2 k hk).2; omega⟩, h3, h4, h5⟩
theorem Pr.left {S : Nat → Prop} (h2 : ∀ k, S k → w0.heap.size ≤ k ∧ k < wk.heap.size ∧ k ≠ g) (h3 : Below w0.heap.size w0 wk) (h4 : wk.ownsRow w0.heap.size 44 2 v N.length (flatM N)) (h5 : ∀ b, v.ownBlock = some b → ¬ S b) (hg : Blk wk g t cs) (hl : Left p S M' wk w') : Pr w0 w' p g M' N v ∧ Blk w' g t cs := by
  obtain ⟨S', g1, g2, g3⟩ := hl
  have hs := h3.size
  have hlt := hg.lt
  refine ⟨⟨fun k => S' k ∧ k < w'.heap.size, g1.trim, fun k hk => ⟨(g2 k hk.1).elim (fun h => (h2 k h).1) (fun h => by omega), hk.2, (g2 k hk.1).elim (fun h => (h2 k h).2.2) (fun h => by omega)⟩, h3.trans (g3.below h3.size (fun k hk => (h2 k hk).1)), own_frm h4 g3 (fun b hb hS => h5 b hb hS), fun b hb hS => ?_⟩, hg.frm g3 (fun h => (h2 g h).2.2 rfl)⟩
  rcases g2 b hS.1 with h | h
  · exact h5 b hb h
  · have := (h4.lt b hb).2; omega
theorem Pr.cut (h : Pr w0 wk p g M N v) (id : Int) (hg : Blk wk g t cs) (hl : M.length ≤ 1000) :
    Calls Try.prog 11 #[.pointer (some ⟨p, 0, none⟩), .int .i64 id] wk fun e w' => e = .returned (.int .i64 (cutV M id).2) ∧ Pr w0 w' p g (cutV M id).1 N v ∧ Blk w' g t cs := by
  obtain ⟨S, h1, h2, h3, h4, h5⟩ := h
  refine (cut_any id wk h1 hl).mono ?_
  rintro e w' ⟨rfl, hw⟩
  exact ⟨rfl, Pr.left h2 h3 h4 h5 hg hw⟩
theorem Pr.add (h : Pr w0 wk p g M N v) (par id : Int) (hg : Blk wk g t cs) (hl : M.length ≤ 1000) :
    Calls Try.prog 16 #[.pointer (some ⟨p, 0, none⟩), .int .i64 par, .int .i64 id] wk fun e w' => e = .returned (.int .i64 (addV M par id).2) ∧ Pr w0 w' p g (addV M par id).1 N v ∧ Blk w' g t cs := by
  obtain ⟨S, h1, h2, h3, h4, h5⟩ := h
  refine (add_any par id wk h1 hl).mono ?_
  rintro e w' ⟨rfl, hw⟩
  exact ⟨rfl, Pr.left h2 h3 h4 h5 hg hw⟩
theorem Pr.step {A : Option Addr} {n c : Nat} {r : List Mb × Int} {e : Ending} (h : Pr w0 wk p g M N (.slice A n c)) (hg : Blk wk g t cs) (hr : RStep w0.heap.size A n c r wk e w') :
    ∃ A' c', e = .returned (.tuple #[.slice A' r.1.length c', .int .i64 r.2]) ∧ Pr w0 w' p g M r.1 (.slice A' r.1.length c') ∧ Blk w' g t cs := by
  obtain ⟨S, h1, h2, h3, h4, h5⟩ := h
  obtain ⟨A', c', rfl, g1, g2, g3⟩ := hr
  have hs := g2.size
  refine ⟨A', c', rfl, ⟨S, h1.below g2, fun k hk => ⟨(h2 k hk).1, by have := (h2 k hk).2; omega⟩, h3.trans (g2.mono h3.size), g1, fun b hb hS => ?_⟩, hg.below g2 hg.lt⟩
  rcases g3 b hb with h | h
  · exact h5 b h hS
  · have := (h2 b hS).2; omega
theorem Pr.same {A : Option Addr} {n c : Nat} (h : Pr w0 wk p g M M (.slice A n c)) (id : Int) (hn : M.length = n) (hl : n ≤ 1000) : Calls Try.prog 17 #[.pointer (some ⟨p, 0, none⟩), .slice A n c, .int .i64 id] wk (Yes wk) :=
  same_any id hn hl h.ts (own_cells (by have := h.own; rw [hn] at this; exact this))
end
set_option maxRecDepth 100000 in
set_option maxHeartbeats 4000000 in
theorem plays_walk (Ad : Option Addr) (len cap : Nat) (s : List Opt) (w : World) (hl : s.length = len) (hc : Cells w w.heap.size Ad (flatO s)) :
    Calls Try.prog 4 #[.slice Ad len cap] w fun e w' => e = .returned (.bool true) ∧ Below w.heap.size w w' := by
  have C0 := Troupe.hid hc
  clear hc
  go_enter Try.func4, Try.ntmps4
  go_wp2_with fail
  refine (alive_any w).mono ?_
  rintro e w0 ⟨rfl, hb⟩
  have B1 := Troupe.hid hb
  clear hb
  go_wp2_with fail
  refine (new_any w0).mono ?_
  rintro e w1 ⟨p, rfl, h1, h2⟩
  have P1 := Troupe.hid (show Pr w0 w1 p w1.heap.size [] [] (.slice none 0 0) from ⟨_, h1, fun k hk => ⟨hk.1, hk.2, by have := hk.2; omega⟩, h2, World.ownsRow_nil _ _ _ _, fun b hb => by simp [Value.ownBlock] at hb⟩)
  clear h1 h2
  go_wp2_with fail
  go_loopw [4, 5, 6, 7, 8, 9, 10] (fun v4 v5 _ _ _ _ _ wr => ∃ (i g : Nat) (M : List Mb) (A : Option Addr) (c : Nat), i ≤ len ∧ i ≤ 100 ∧ M.length ≤ i ∧ v5 = .int .i64 i ∧ v4 = .slice A M.length c ∧ Pr w0 wr p g M M v4) (fun _ v5 _ _ _ _ _ _ => len - (intOf v5).toNat)
  case atStart => exact ⟨0, _, [], none, 0, Nat.zero_le _, by omega, Nat.le_refl _, rfl, rfl, P1.out⟩
  case round =>
    obtain ⟨i, g0, M, A, c, hi, hi2, hM, rfl, rfl, hp⟩ := hrel
    obtain ⟨m, hm⟩ : ∃ m, m = M.length := ⟨_, rfl⟩
    rw [← hm] at hM hp ⊢
    have HM := Troupe.hid hm
    have P := Troupe.hid hp
    clear hm hp
    by_cases hlt : i < len ∧ i < 100
    · obtain ⟨hlt, hlt2⟩ := hlt
      have hlit : (i : Int) < 100 := by omega
      obtain ⟨x, hx⟩ : ∃ x, s[i]? = some x := ⟨_, List.getElem?_eq_getElem (by omega)⟩
      obtain ⟨b, off, hA, hbb, d0, d1, d2⟩ := ((C0.out.below B1.out).mono B1.out.size |>.below P.out.ts.be).opt hx
      subst hA
      obtain ⟨cc, par, id⟩ := x
      simp only at d0 d1 d2
      have G0 : Blk (wr.alloc (.cells #[.bool cc, .int .i64 par, .int .i64 id] 37)) wr.heap.size 37 [.bool cc, .int .i64 par, .int .i64 id] := Blk.new wr 37 [.bool cc, .int .i64 par, .int .i64 id]
      have PA := Troupe.hid (P.out.fresh.below (((Below.refl _ _).alloc (Nat.le_refl _) (.cells #[.bool cc, .int .i64 par, .int .i64 id] 37))))
      have G := Troupe.hid G0
      have OWN : Hid ((wr.alloc (.cells #[.bool cc, .int .i64 par, .int .i64 id] 37)).ownsRow w0.heap.size 44 2 (.slice A m c) m (flatM M)) := by have := PA.out.own; rw [← HM.out] at this; exact this
      have hml : M.length ≤ 1000 := by rw [← HM.out]; omega
      have g0c := G0.cell 0
      have g1c := G0.cell 1
      have g2c := G0.cell 2
      clear hx G0
      cases cc with
      | true =>
        have CUT0 := Troupe.hid (rcut_any (w := wr.alloc (.cells #[.bool true, .int .i64 par, .int .i64 id] 37)) (B := w0.heap.size) (A := A) (c := c) id HM.out.symm (by omega) OWN.out PA.out.ts.be.size)
        have VL : (cutV M id).1.length ≤ M.length + 1 := stepV_len M ⟨true, par, id⟩
        go_wp2_with fail
        clear d0 d1 d2
        refine CUT0.out.mono ?_
        intro e w2 hr
        obtain ⟨A2, c2, rfl, hp2, hg2⟩ := PA.out.step G.out hr
        have CUT := Troupe.hid (hp2.cut id hg2 hml)
        obtain ⟨r, hr'⟩ : ∃ r, r = cutV M id := ⟨_, rfl⟩
        rw [← hr'] at CUT VL ⊢
        obtain ⟨n2, hn2⟩ : ∃ n2, n2 = r.1.length := ⟨_, rfl⟩
        rw [← hn2] at CUT VL ⊢
        rw [← HM.out] at VL
        have N2 := Troupe.hid hn2
        have q0 := hg2.cell 0
        have q1 := hg2.cell 1
        have q2 := hg2.cell 2
        clear hr hr' hn2 hp2 hg2 g0c g1c g2c
        go_wp2_with fail
        refine CUT.out.mono ?_
        rintro e w3 ⟨rfl, hp3, hg3⟩
        have LEN := Troupe.hid hp3.ts.len
        rw [← N2.out] at LEN
        have P3 := Troupe.hid hp3
        have G3 := Troupe.hid hg3
        have S1 := Troupe.hid (hp3.same id N2.out.symm (by omega))
        have t1 := hg3.cell 1
        have t2 := hg3.cell 2
        clear q0 q1 q2 hp3 hg3
        go_wp2_with fail
        refine LEN.out.mono ?_
        rintro e w4 ⟨rfl, rfl⟩
        go_wp2_with fail
        refine S1.out.mono ?_
        rintro e w5 ⟨rfl, hb5⟩
        have P5 := Troupe.hid (P3.out.below hb5)
        have G5 := Troupe.hid (G3.out.below hb5 G3.out.lt)
        have S2 := Troupe.hid (P5.out.same par N2.out.symm (by omega))
        have r1 := G5.out.cell 1
        have r2 := G5.out.cell 2
        clear t1 t2 hb5
        go_wp2_with fail
        refine S2.out.mono ?_
        rintro e w6 ⟨rfl, hb6⟩
        have P6 := Troupe.hid (P5.out.below hb6)
        clear r1 r2 hb6
        go_wp2_with fail
        go_roundw
        case rel => exact ⟨i + 1, wr.heap.size, r.1, A2, c2, by omega, by omega, by rw [← N2.out]; omega, by go_num, by rw [← N2.out], P6.out⟩
        case measure => simp [intOf]; omega
      | false =>
        have CUT0 := Troupe.hid (radd_any (w := wr.alloc (.cells #[.bool false, .int .i64 par, .int .i64 id] 37)) (B := w0.heap.size) (A := A) (c := c) par id HM.out.symm (by omega) OWN.out PA.out.ts.be.size)
        have VL : (addV M par id).1.length ≤ M.length + 1 := stepV_len M ⟨false, par, id⟩
        go_wp2_with fail
        clear d0 d1 d2
        refine CUT0.out.mono ?_
        intro e w2 hr
        obtain ⟨A2, c2, rfl, hp2, hg2⟩ := PA.out.step G.out hr
        have CUT := Troupe.hid (hp2.add par id hg2 hml)
        obtain ⟨r, hr'⟩ : ∃ r, r = addV M par id := ⟨_, rfl⟩
        rw [← hr'] at CUT VL ⊢
        obtain ⟨n2, hn2⟩ : ∃ n2, n2 = r.1.length := ⟨_, rfl⟩
        rw [← hn2] at CUT VL ⊢
        rw [← HM.out] at VL
        have N2 := Troupe.hid hn2
        have q0 := hg2.cell 0
        have q1 := hg2.cell 1
        have q2 := hg2.cell 2
        clear hr hr' hn2 hp2 hg2 g0c g1c g2c
        go_wp2_with fail
        refine CUT.out.mono ?_
        rintro e w3 ⟨rfl, hp3, hg3⟩
        have LEN := Troupe.hid hp3.ts.len
        rw [← N2.out] at LEN
        have P3 := Troupe.hid hp3
        have G3 := Troupe.hid hg3
        have S1 := Troupe.hid (hp3.same id N2.out.symm (by omega))
        have t1 := hg3.cell 1
        have t2 := hg3.cell 2
        clear q0 q1 q2 hp3 hg3
        go_wp2_with fail
        refine LEN.out.mono ?_
        rintro e w4 ⟨rfl, rfl⟩
        go_wp2_with fail
        refine S1.out.mono ?_
        rintro e w5 ⟨rfl, hb5⟩
        have P5 := Troupe.hid (P3.out.below hb5)
        have G5 := Troupe.hid (G3.out.below hb5 G3.out.lt)
        have S2 := Troupe.hid (P5.out.same par N2.out.symm (by omega))
        have r1 := G5.out.cell 1
        have r2 := G5.out.cell 2
        clear t1 t2 hb5
        go_wp2_with fail
        refine S2.out.mono ?_
        rintro e w6 ⟨rfl, hb6⟩
        have P6 := Troupe.hid (P5.out.below hb6)
        clear r1 r2 hb6
        go_wp2_with fail
        go_roundw
        case rel => exact ⟨i + 1, wr.heap.size, r.1, A2, c2, by omega, by omega, by rw [← N2.out]; omega, by go_num, by rw [← N2.out], P6.out⟩
        case measure => simp [intOf]; omega
    · have hml : m ≤ 1000 := by omega
      by_cases h1 : i < len
      · have h2 : ¬ i < 100 := fun h => hlt ⟨h1, h⟩
        have hx1 : decide ((i : Int) < (len : Int)) = true := decide_eq_true (by omega)
        have hx2 : decide ((i : Int) < 100) = false := decide_eq_false (by omega)
        clear hlt
        have BW := Troupe.hid (B1.out.trans (P.out.ts.be.mono B1.out.size))
        obtain ⟨wl, hwl⟩ : ∃ wl, wl = wr := ⟨_, rfl⟩
        rw [← hwl] at P BW ⊢
        clear hwl
        have CL := Troupe.hid (own_cells (by have := P.out.own; rw [← HM.out] at this; exact this : wl.ownsRow w0.heap.size 44 2 (.slice A m c) m (flatM M)))
        have hbl := BW.out.size
        go_wp2_with fail
        go_loopw [11] (fun v11 wr => ∃ j : Nat, v11 = .int .i64 j ∧ j ≤ m ∧ Below wl.heap.size wl wr) (fun v11 _ => m - (intOf v11).toNat)
        case atStart => exact ⟨0, rfl, Nat.zero_le _, Below.refl _ _⟩
        case round =>
          obtain ⟨j, rfl, hj, hb⟩ := hrel
          by_cases hlt : j < m
          · obtain ⟨y, hy⟩ : ∃ y, M[j]? = some y := ⟨_, List.getElem?_eq_getElem (by rw [← HM.out]; exact hlt)⟩
            obtain ⟨b, o, hA, d0, d1⟩ := mb_at CL.out (Nat.le_refl _) hb hy
            subst hA
            have S1 := Troupe.hid ((P.out.below hb).same y.1 HM.out.symm (by omega))
            have HB := Troupe.hid hb
            clear hb hy d1
            go_wp2_with fail
            refine S1.out.mono ?_
            rintro e w5 ⟨rfl, hb5⟩
            have B5 := Troupe.hid (HB.out.trans (hb5.mono HB.out.size))
            clear hb5 d0
            go_wp2_with fail
            go_roundw
            case rel => exact ⟨j + 1, by go_num, by omega, B5.out⟩
            case measure => simp [intOf]; omega
          · have HB := Troupe.hid (BW.out.trans (hb.mono hbl))
            clear hb
            go_wp2_with fail
            go_ret
            exact ⟨rfl, HB.out⟩
      · have hx1 : decide ((i : Int) < (len : Int)) = false := decide_eq_false (by omega)
        clear hlt
        have BW := Troupe.hid (B1.out.trans (P.out.ts.be.mono B1.out.size))
        obtain ⟨wl, hwl⟩ : ∃ wl, wl = wr := ⟨_, rfl⟩
        rw [← hwl] at P BW ⊢
        clear hwl
        have CL := Troupe.hid (own_cells (by have := P.out.own; rw [← HM.out] at this; exact this : wl.ownsRow w0.heap.size 44 2 (.slice A m c) m (flatM M)))
        have hbl := BW.out.size
        go_wp2_with fail
        go_loopw [11] (fun v11 wr => ∃ j : Nat, v11 = .int .i64 j ∧ j ≤ m ∧ Below wl.heap.size wl wr) (fun v11 _ => m - (intOf v11).toNat)
        case atStart => exact ⟨0, rfl, Nat.zero_le _, Below.refl _ _⟩
        case round =>
          obtain ⟨j, rfl, hj, hb⟩ := hrel
          by_cases hlt : j < m
          · obtain ⟨y, hy⟩ : ∃ y, M[j]? = some y := ⟨_, List.getElem?_eq_getElem (by rw [← HM.out]; exact hlt)⟩
            obtain ⟨b, o, hA, d0, d1⟩ := mb_at CL.out (Nat.le_refl _) hb hy
            subst hA
            have S1 := Troupe.hid ((P.out.below hb).same y.1 HM.out.symm (by omega))
            have HB := Troupe.hid hb
            clear hb hy d1
            go_wp2_with fail
            refine S1.out.mono ?_
            rintro e w5 ⟨rfl, hb5⟩
            have B5 := Troupe.hid (HB.out.trans (hb5.mono HB.out.size))
            clear hb5 d0
            go_wp2_with fail
            go_roundw
            case rel => exact ⟨j + 1, by go_num, by omega, B5.out⟩
            case measure => simp [intOf]; omega
          · have HB := Troupe.hid (BW.out.trans (hb.mono hbl))
            clear hb
            go_wp2_with fail
            go_ret
            exact ⟨rfl, HB.out⟩
end Go.Proofs.Ytmdiagcmfcjleaa
