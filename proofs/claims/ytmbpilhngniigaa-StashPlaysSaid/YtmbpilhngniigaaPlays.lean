/- StashPlays: the walk. -/
import Derived.Test.YtmbpilhngniigaaRefStash
import Derived.Test.YtmbpilhngniigaaKept
import Derived.Test.YtmbpilhngniigaaPlan
import Derived.Test.YtmbpilhngniigaaAll
namespace Go.Proofs.Ytmbpilhngniigaa
open Go.RowKit Go.Maps Go.Troupe
attribute [local go_sem] reads readAt readUpon Cls

/-- The line and the document's, side by side. -/
structure PS (w wr : World) (p n : Nat) (As Fr : List Int) (g : Nat) (Bs Gr : List Int) (A1 : Option Addr) (c1 : Nat) (A2 : Option Addr) (c2 : Nat) : Prop where
  ex : ∃ S, Line wr p S n As Fr ∧ (∀ k, S k → w.heap.size ≤ k ∧ k < wr.heap.size) ∧ ¬ S g ∧ (∀ k, (Value.slice A1 Bs.length c1).ownBlock = some k → ¬ S k) ∧ (∀ k, (Value.slice A2 Gr.length c2).ownBlock = some k → ¬ S k)
  blk : Blk wr g 37 [.int .i64 n, .slice A1 Bs.length c1, .slice A2 Gr.length c2]
  o1 : wr.ownsRow 0 28 1 (.slice A1 Bs.length c1) Bs.length (words Bs)
  o2 : wr.ownsRow 0 28 1 (.slice A2 Gr.length c2) Gr.length (words Gr)
  hg : w.heap.size ≤ g
  be : Below w.heap.size w wr
theorem frm_ne {wa wb : World} {g : Nat} (hb : Below wa.heap.size wa wb) : Frm (fun k => k ≠ g) wa wb := (Frm.of_below hb).mono (fun k hk h => by omega)
section
variable {w wr w' : World} {p n g c1 c2 : Nat} {As Fr Bs Gr : List Int} {A1 A2 : Option Addr}
theorem PS.below (h : PS w wr p n As Fr g Bs Gr A1 c1 A2 c2) (hb : Below wr.heap.size wr w') : PS w w' p n As Fr g Bs Gr A1 c1 A2 c2 := by
  obtain ⟨S, h1, h2, h3, h4, h5⟩ := h.ex
  have hs := hb.size
  exact ⟨⟨S, h1.below hb, fun k hk => ⟨(h2 k hk).1, by have := (h2 k hk).2; omega⟩, h3, h4, h5⟩, h.blk.below hb h.blk.lt, own_frm h.o1 (Frm.of_below hb) (fun k hk h' => by have := (h.o1.lt k hk).2; omega), own_frm h.o2 (Frm.of_below hb) (fun k hk h' => by have := (h.o2.lt k hk).2; omega), h.hg, h.be.trans (hb.mono h.be.size)⟩
theorem PS.left {As' Fr' : List Int} {S : Nat → Prop} (h : PS w wr p n As Fr g Bs Gr A1 c1 A2 c2) (hS : (∀ k, S k → w.heap.size ≤ k ∧ k < wr.heap.size) ∧ ¬ S g ∧ (∀ k, (Value.slice A1 Bs.length c1).ownBlock = some k → ¬ S k) ∧ (∀ k, (Value.slice A2 Gr.length c2).ownBlock = some k → ¬ S k))
    (hl : Left p S n As' Fr' wr w') : PS w w' p n As' Fr' g Bs Gr A1 c1 A2 c2 := by
  obtain ⟨h2, h3, h4, h5⟩ := hS
  obtain ⟨S', g1, g2, g3⟩ := hl
  have hs := g3.size
  refine ⟨⟨fun k => S' k ∧ k < w'.heap.size, g1.trim, fun k hk => ⟨?_, hk.2⟩, fun hk => ?_, fun k hk hS => ?_, fun k hk hS => ?_⟩, h.blk.frm g3 h3, own_frm h.o1 g3 h4, own_frm h.o2 g3 h5, h.hg, h.be.trans (g3.below h.be.size (fun k hk => (h2 k hk).1))⟩
  · rcases g2 k hk.1 with h' | h'
    · exact (h2 k h').1
    · have := h.be.size; omega
  · rcases g2 g hk.1 with h' | h'
    · exact h3 h'
    · have := h.blk.lt; omega
  · rcases g2 k hS.1 with h' | h'
    · exact h4 k hk h'
    · have := (h.o1.lt k hk).2; omega
  · rcases g2 k hS.1 with h' | h'
    · exact h5 k hk h'
    · have := (h.o2.lt k hk).2; omega
theorem PS.put (h : PS w wr p n As Fr g Bs Gr A1 c1 A2 c2) {Bs' Gr' : List Int} {A1' A2' : Option Addr} {c1' c2' : Nat} (hb : Below wr.heap.size wr w')
    (o1 : w'.ownsRow 0 28 1 (.slice A1' Bs'.length c1') Bs'.length (words Bs')) (o2 : w'.ownsRow 0 28 1 (.slice A2' Gr'.length c2') Gr'.length (words Gr'))
    (d1 : ∀ k, (Value.slice A1' Bs'.length c1').ownBlock = some k → (Value.slice A1 Bs.length c1).ownBlock = some k ∨ (Value.slice A2 Gr.length c2).ownBlock = some k ∨ wr.heap.size ≤ k)
    (d2 : ∀ k, (Value.slice A2' Gr'.length c2').ownBlock = some k → (Value.slice A1 Bs.length c1).ownBlock = some k ∨ (Value.slice A2 Gr.length c2).ownBlock = some k ∨ wr.heap.size ≤ k) :
    PS w (((w'.setCell ⟨g, 0, none⟩ (.int .i64 n)).setCell ⟨g, 1, none⟩ (.slice A1' Bs'.length c1')).setCell ⟨g, 2, none⟩ (.slice A2' Gr'.length c2')) p n As Fr g Bs' Gr' A1' c1' A2' c2' := by
  have h' := h.below hb
  obtain ⟨S, h1, h2, h3, h4, h5⟩ := h.ex
  have F : Frm (fun k => k = g) w' (((w'.setCell ⟨g, 0, none⟩ (.int .i64 n)).setCell ⟨g, 1, none⟩ (.slice A1' Bs'.length c1')).setCell ⟨g, 2, none⟩ (.slice A2' Gr'.length c2')) :=
    ((Frm.one w' ⟨g, 0, none⟩ _).trans (Frm.one _ ⟨g, 1, none⟩ _) (fun _ _ h => h)).trans (Frm.one _ ⟨g, 2, none⟩ _) (fun _ _ h => h)
  have hs := F.size
  have hs0 := hb.size
  have ng : ∀ {v : Value} {m : Nat} {xs : List Value}, w'.ownsRow 0 28 1 v m xs → ∀ k, v.ownBlock = some k → k ≠ g := fun ho k hk e => by
    obtain ⟨cs, hbk⟩ := own_at ho hk
    exact hbk.ne h'.blk (by decide) e
  have nS : ∀ k, ((Value.slice A1 Bs.length c1).ownBlock = some k ∨ (Value.slice A2 Gr.length c2).ownBlock = some k ∨ wr.heap.size ≤ k) → ¬ S k := fun k hk hS => by
    rcases hk with e | e | e
    · exact h4 k e hS
    · exact h5 k e hS
    · have := (h2 k hS).2; omega
  exact ⟨⟨S, (h1.below hb).frm F (fun k _ hk hS => h3 (hk ▸ hS)), fun k hk => ⟨(h2 k hk).1, by have := (h2 k hk).2; omega⟩, h3, fun k hk => nS k (d1 k hk), fun k hk => nS k (d2 k hk)⟩,
    ((h'.blk.set_ 0 _).set_ 1 _).set_ 2 _, own_frm o1 F (fun k hk e => ng o1 k hk e), own_frm o2 F (fun k hk e => ng o2 k hk e), h.hg, h'.be.trans (F.below h'.be.size (fun k hk => by have := h.hg; omega))⟩

theorem PS.stash (h : PS w wr p n As Fr g Bs Gr A1 c1 A2 c2) (id : Int) (hn : As.length < n) :
    Calls Try.prog 10 #[.pointer (some ⟨p, 0, none⟩), .int .u64 id] wr fun e w' => e = .returned (.int .i64 0) ∧ PS w w' p n (As ++ [id]) Fr g Bs Gr A1 c1 A2 c2 := by
  obtain ⟨S, h1, h2⟩ := h.ex
  refine (stash_ok id wr h1 hn).mono ?_
  rintro e w' ⟨rfl, hl⟩
  exact ⟨rfl, h.left h2 hl⟩
theorem PS.full (h : PS w wr p n As Fr g Bs Gr A1 c1 A2 c2) (id : Int) (hn : n ≤ As.length) :
    Calls Try.prog 10 #[.pointer (some ⟨p, 0, none⟩), .int .u64 id] wr fun e w' => e = .returned (.int .i64 4) ∧ PS w w' p n As Fr g Bs Gr A1 c1 A2 c2 := by
  obtain ⟨S, h1, h2⟩ := h.ex
  refine (stash_full id wr h1 hn).mono ?_
  rintro e w' ⟨rfl, hl⟩
  exact ⟨rfl, h.left h2 hl⟩
theorem PS.unstash (h : PS w wr p n As Fr g Bs Gr A1 c1 A2 c2) (hn : As.length ≤ 1000000) (hn2 : Fr.length ≤ 1000000) :
    Calls Try.prog 11 #[.pointer (some ⟨p, 0, none⟩)] wr fun e w' => e = .returned (.int .i64 As.length) ∧ PS w w' p n [] (Fr ++ As.reverse) g Bs Gr A1 c1 A2 c2 ∧ Frm (fun k => k ≠ g) wr w' := by
  obtain ⟨S, h1, h2⟩ := h.ex
  refine (unstash_any wr h1 hn hn2).mono ?_
  rintro e w' ⟨rfl, hl⟩
  have hl' := hl
  obtain ⟨_, _, _, g3⟩ := hl'
  exact ⟨rfl, h.left h2 hl, g3.mono (fun k _ hk e => h2.2.1 (e ▸ hk))⟩
theorem PS.nextNone (h : PS w wr p n As [] g Bs Gr A1 c1 A2 c2) : Calls Try.prog 12 #[.pointer (some ⟨p, 0, none⟩)] wr fun e w' => e = .returned (.tuple #[.int .u64 0, .bool false]) ∧ PS w w' p n As [] g Bs Gr A1 c1 A2 c2 := by
  obtain ⟨S, h1, h2⟩ := h.ex
  refine (next_none wr h1).mono ?_
  rintro e w' ⟨rfl, hl⟩
  exact ⟨rfl, h.left h2 hl⟩
theorem PS.nextSome {a : Int} (h : PS w wr p n As (Fr ++ [a]) g Bs Gr A1 c1 A2 c2) (hn : Fr.length ≤ 1000000) : Calls Try.prog 12 #[.pointer (some ⟨p, 0, none⟩)] wr fun e w' => e = .returned (.tuple #[.int .u64 a, .bool true]) ∧ PS w w' p n As Fr g Bs Gr A1 c1 A2 c2 := by
  obtain ⟨S, h1, h2⟩ := h.ex
  refine (next_some a wr h1 hn).mono ?_
  rintro e w' ⟨rfl, hl⟩
  exact ⟨rfl, h.left h2 hl⟩
theorem PS.front (h : PS w wr p n As Fr g Bs Gr A1 c1 A2 c2) (hn : Fr.length ≤ 1000000) :
    Calls Try.prog 13 #[.pointer (some ⟨p, 0, none⟩)] wr fun e w' => ∃ A c, e = .returned (.slice A Fr.length c) ∧ Cells w' w'.heap.size A (words Fr.reverse) ∧ Below wr.heap.size wr w' := by
  obtain ⟨S, h1, h2⟩ := h.ex
  refine (front_any wr h1 hn).mono ?_
  rintro e w' ⟨v, rfl, ho, hb⟩
  obtain ⟨A, c, rfl, _, _, hc, hnil, _⟩ := own_form ho
  exact ⟨A, c, rfl, hc, hb⟩
theorem PS.stashed (h : PS w wr p n As Fr g Bs Gr A1 c1 A2 c2) (hn : As.length ≤ 1000000) :
    Calls Try.prog 21 #[.pointer (some ⟨p, 0, none⟩)] wr fun e w' => ∃ A c, e = .returned (.slice A As.length c) ∧ Cells w' w'.heap.size A (words As) ∧ Below wr.heap.size wr w' := by
  obtain ⟨S, h1, h2⟩ := h.ex
  refine (stashed_any wr h1 hn).mono ?_
  rintro e w' ⟨v, rfl, ho, hb⟩
  obtain ⟨A, c, rfl, _, _, hc, hnil, _⟩ := own_form ho
  exact ⟨A, c, rfl, hc, hb⟩
theorem PS.clear (h : PS w wr p n As Fr g Bs Gr A1 c1 A2 c2) (hn : Fr.length ≤ 1000000) (hn2 : As.length ≤ 1000000) :
    Calls Try.prog 14 #[.pointer (some ⟨p, 0, none⟩)] wr fun e w' => ∃ A c, e = .returned (.slice A (Fr.length + As.length) c) ∧ Cells w' w'.heap.size A (words (Fr.reverse ++ As)) ∧ PS w w' p n [] [] g Bs Gr A1 c1 A2 c2 ∧ Frm (fun k => k ≠ g) wr w' := by
  obtain ⟨S, h1, h2⟩ := h.ex
  refine (clear_any wr h1 hn hn2).mono ?_
  rintro e w' ⟨v, rfl, ho, hl⟩
  obtain ⟨A, c, rfl, _, _, hc, hnil, _⟩ := own_form ho
  have hl' := hl
  obtain ⟨_, _, _, g3⟩ := hl'
  exact ⟨A, c, rfl, hc, h.left h2 hl, g3.mono (fun k _ hk e => h2.2.1 (e ▸ hk))⟩
end
set_option maxRecDepth 100000 in
set_option maxHeartbeats 4000000 in
theorem plays_walk (room : Int) (Ad : Option Addr) (len cap : Nat) (l0 : List Opr) (w : World) (hl : l0.length = len) (hc : Cells w w.heap.size Ad (flatP l0)) :
    Calls Try.prog 5 #[.int .i64 room, .slice Ad len cap] w fun e w' => e = .returned (.bool true) ∧ Below w.heap.size w w' := by
  obtain ⟨n, hn⟩ : ∃ n, n = roomN room := ⟨_, rfl⟩
  have HN := Troupe.hid hn
  have C0 := Troupe.hid hc
  clear hn hc
  go_enter Try.func5, Try.ntmps5
  go_wp2_with fail
  refine (alive_any w).mono ?_
  rintro e w1 ⟨rfl, hb⟩
  have B1 := Troupe.hid hb
  clear hb
  go_wp2_with fail
  refine (new_any room w1).mono ?_
  rintro e w2 ⟨p, rfl, hl, hb⟩
  rw [← HN.out] at hl
  have K2 := Troupe.hid hl.trim
  have B2 := Troupe.hid (B1.out.trans (hb.mono B1.out.size))
  clear hl hb
  go_wp2_with fail
  refine (refNew_any room w2).mono ?_
  rintro e w3 ⟨rfl, hb⟩
  rw [← HN.out]
  have K3 := Troupe.hid (K2.out.below hb)
  have B3 := Troupe.hid (B2.out.trans (hb.mono B2.out.size))
  have P0 : Hid (PS w (w3.alloc (.cells #[.int .i64 n, .slice none 0 0, .slice none 0 0] 37)) p n [] [] w3.heap.size [] [] none 0 none 0) := by
    have b4 : Below w3.heap.size w3 (w3.alloc (.cells #[.int .i64 n, .slice none 0 0, .slice none 0 0] 37)) := (Below.refl _ _).alloc (Nat.le_refl _) _
    have hs3 := B3.out.size
    have hs1 := B1.out.size
    have hsb := hb.size
    refine ⟨⟨_, K3.out.below b4, fun k hk => ⟨by omega, by have := hk.2; simp; omega⟩, fun hk => by have := hk.2; omega, fun k hk => by simp [Value.ownBlock] at hk, fun k hk => by simp [Value.ownBlock] at hk⟩, Blk.new _ _ _, World.ownsRow_nil _ _ _ _, World.ownsRow_nil _ _ _ _, hs3, B3.out.trans (b4.mono hs3)⟩
  clear hb
  go_upto_block 0 with (fail)
  generalize w3.alloc (.cells #[.int .i64 n, .slice none 0 0, .slice none 0 0] 37) = w4 at *
  generalize w3.heap.size = g at *
  go_cut [7] from 23 to 116 (fun _ w' => Below w.heap.size w w')
  case first =>
    go_wp2_with fail
    go_loopw [7] (fun v7 wr => ∃ (j : Nat) (As Fr Gr : List Int) (A1 : Option Addr) (c1 : Nat) (A2 : Option Addr) (c2 : Nat), j ≤ len ∧ j ≤ 400 ∧ v7 = .int .i64 j ∧ As.length + Fr.length ≤ j ∧ Gr = Fr.reverse ∧ PS w wr p n As Fr g As Gr A1 c1 A2 c2) (fun v7 _ => len - (intOf v7).toNat)
    case atStart => exact ⟨0, [], [], [], none, 0, none, 0, by omega, by omega, rfl, by simp, rfl, P0.out⟩
    case round =>
      obtain ⟨j, As, Fr, Gr, A1, c1, A2, c2, hj, hj4, rfl, hle, hgr, hps⟩ := hrel
      have HGr := Troupe.hid hgr
      have hgl : Gr.length = Fr.length := by rw [hgr]; simp
      have HGL := Troupe.hid hgl
      clear hgr hgl
      have R := Troupe.hid hps
      clear hps
      by_cases hlt : j < len ∧ j < 400
      · obtain ⟨hlt, hlt4⟩ := hlt
        have hlit : (j : Int) < 400 := by omega
        obtain ⟨x, hx⟩ : ∃ x, l0[j]? = some x := ⟨_, List.getElem?_eq_getElem (by omega)⟩
        obtain ⟨bb, o, hA, hbb, q0, q1⟩ := opr_cells C0.out hx
        subst hA
        have hk2 := x.k.isLt
        obtain ⟨k, hk⟩ : ∃ k : Nat, x.k.val = k := ⟨_, rfl⟩
        obtain ⟨y, hy⟩ : ∃ y : Int, x.id = y := ⟨_, rfl⟩
        rw [hk] at q0 hk2
        rw [hy] at q1
        have k0 : wr.cell? ⟨bb, o + j * 2, none⟩ = some (.int .u8 (k : Int)) := (R.out.be.cell (p := ⟨bb, o + j * 2, none⟩) hbb).trans q0
        have Q1 := Troupe.hid q1
        clear hk hy hx q0 q1
        have hlA : As.length ≤ 1000000 := by omega
        have hlF : Fr.length ≤ 1000000 := by omega
        go_upto_block 2 with (fail)
        go_cut [] from 39 to 102 (fun w' => ∃ (As Fr Gr : List Int) (A1 : Option Addr) (c1 : Nat) (A2 : Option Addr) (c2 : Nat), As.length + Fr.length ≤ j + 1 ∧ Gr = Fr.reverse ∧ PS w w' p n As Fr g As Gr A1 c1 A2 c2)
        case first =>
          have c6 := R.out.blk.cell
          have f6 := R.out.blk.frozen
          by_cases h0 : k % 4 = 0
          · have m0 : ((k : Int) % 4 == 0) = true := by simp; omega
            clear h0
            let S0 : World → Prop := fun w' => Below wr.heap.size wr w'
            have hne : Nonempty (SW S0) := ⟨⟨wr, Below.refl _ _⟩⟩
            have FC : ∀ (z : SW S0) (i : Nat), z.w.cell? ⟨g, i, none⟩ = [Value.int .i64 n, .slice A1 As.length c1, .slice A2 Gr.length c2][i]? := fun z i => (R.out.blk.below z.h R.out.blk.lt).cell i
            have FD : ∀ (z : SW S0), z.w.cell? ⟨bb, o + j * 2 + 1, none⟩ = some (.int .u64 y) := fun z => ((R.out.be.trans (z.h.mono R.out.be.size)).cell (p := ⟨bb, o + j * 2 + 1, none⟩) hbb).trans Q1.out
            go_wp2_with fail
            refine region_plan (S := Cls S0) (.read 0 (.read 1 (.read 2 (.read 3 (.read 4 (.read 5 (.two 6 (.read 7 (.read 8 (.read 9 (.one 10 (.one 11 .tail))))) 10 (.one 6 (.read 7 (.read 8 (.read 9 (.one 11 .tail)))))))))))) 12 (by kernel_rfl) (by kernel_rfl) (fun _ _ d _ _ h => by cases d <;> exact h) ?_
            intro w6 hh o1 o2 o3
            have F6 : Below wr.heap.size wr w6 := (Frm.of_heap (S := fun _ => False) hh o1 o2 o3).below (Nat.le_refl _) (fun _ h => h.elim)
            clear hh o1 o2 o3
            refine ⟨Cls.of F6, ?_⟩
            repeat (refine wpPlan_read rfl (fun K hK => ?_); go_simp; refine hK _ ?_; clear hK K)
            by_cases hr : As.length < n
            · obtain ⟨A, c, hv, hle1, hle2, hcc, hnil, hbase⟩ := own_form R.out.o1
              simp only [Value.slice.injEq, true_and] at hv
              obtain ⟨rfl, rfl⟩ := hv
              have CC := Troupe.hid hcc
              have NI := Troupe.hid hnil
              clear hcc hnil hbase hle1 hle2
              refine wpPlan_two rfl rfl ?_ ?_
              · go_wp2_with fail
                refine (refStash_ok n A1 c1 As A2 c2 Gr.length y w6 (by omega) hlA ((CC.out.below F6).mono F6.size) (fun h => (NI.out h).2)).mono ?_
                rintro e w7 ⟨v, rfl, ho, hb⟩
                have F7 := F6.trans (hb.mono F6.size)
                have z6 := F6.size
                obtain ⟨A7, c7, rfl, -⟩ := own_form ho
                have L7 : Hid (∀ k, (Value.slice A7 (As.length + 1) c7).ownBlock = some k → wr.heap.size ≤ k) := fun k hk => by have := (ho.lt k hk).1; omega
                have HO := Troupe.hid (Go.Joins.ownsRow_le ho (Nat.zero_le _))
                have HB7 := Troupe.hid hb
                clear ho hb
                go_wp2_with fail
                refine ⟨Cls.of F7, ?_⟩
                repeat (refine wpPlan_read rfl (fun K hK => ?_); go_simp; refine hK _ ?_; clear hK K)
                refine wpPlan_one rfl ?_
                go_wp2_with fail
                refine ⟨Cls.of (F7.alloc F7.size _), ?_⟩
                refine wpPlan_one rfl ?_
                go_wp2_with fail
                have B9 : Blk (w7.alloc (.cells #[.int .i64 n, .slice A7 (As.length + 1) c7, .slice A2 Gr.length c2] 37)) w7.heap.size 37 [.int .i64 n, .slice A7 (As.length + 1) c7, .slice A2 Gr.length c2] := Blk.new _ _ _
                have F9 : Below wr.heap.size wr (w7.alloc (.cells #[.int .i64 n, .slice A7 (As.length + 1) c7, .slice A2 Gr.length c2] 37)) := F7.alloc F7.size _
                have O9 := Troupe.hid (own_below HO.out ((Below.refl w7.heap.size w7).alloc (Nat.le_refl _) (.cells #[.int .i64 n, .slice A7 (As.length + 1) c7, .slice A2 Gr.length c2] 37)))
                clear F6 F7 HB7 z6 HO
                generalize w7.alloc (.cells #[.int .i64 n, .slice A7 (As.length + 1) c7, .slice A2 Gr.length c2] 37) = w9 at *
                generalize w7.heap.size = t at *
                have P9 : PS w (((w9.setCell ⟨g, 0, none⟩ (.int .i64 n)).setCell ⟨g, 1, none⟩ (.slice A7 (As.length + 1) c7)).setCell ⟨g, 2, none⟩ (.slice A2 Gr.length c2)) p n As Fr g (As ++ [y]) Gr A7 c7 A2 c2 := by
                  have e1 : (As ++ [y]).length = As.length + 1 := by simp
                  have := R.out.put (Bs' := As ++ [y]) (Gr' := Gr) (A1' := A7) (c1' := c7) (A2' := A2) (c2' := c2) F9 (by rw [e1]; exact O9.out) (own_below R.out.o2 F9) (fun k hk => .inr (.inr (L7.out k (by rw [e1] at hk; exact hk)))) (fun k hk => .inr (.inl hk))
                  rw [e1] at this
                  exact this
                have k9 : w9.cell? ⟨bb, o + j * 2 + 1, none⟩ = some (.int .u64 y) := ((R.out.be.trans (F9.mono R.out.be.size)).cell (p := ⟨bb, o + j * 2 + 1, none⟩) hbb).trans Q1.out
                have hbg : ¬ bb = g := by have := R.out.hg; omega
                have hgb : ¬ g = bb := by omega
                have g9 := R.out.blk.below F9 R.out.blk.lt
                have e9 := g9.cell
                have f9 := g9.frozen
                have d9 := B9.cell
                have P9H := Troupe.hid P9
                refine ⟨Cls.of F9, ?_⟩
                clear FC FD hne F9 P9 g9 B9 c6 f6 k0
                refine wpPlan_tail ?_
                simp only [List.drop_succ_cons, List.drop_zero]
                go_wp2_with fail
                refine (P9H.out.stash y hr).mono ?_
                rintro e w10 ⟨rfl, h10⟩
                have P10 := Troupe.hid h10
                clear h10 e9 f9 d9 k9
                go_wp2_with fail
                go_meet
                case rel => exact ⟨As ++ [y], Fr, Gr, A7, c7, A2, c2, by simp; omega, HGr.out, P10.out⟩
              · go_wp2_with fail
                have B6 : Blk (w6.alloc (.cells #[.int .i64 0, .slice none 0 0, .slice none 0 0] 37)) w6.heap.size 37 [.int .i64 0, .slice none 0 0, .slice none 0 0] := Blk.new _ _ _
                have F6a : Below wr.heap.size wr (w6.alloc (.cells #[.int .i64 0, .slice none 0 0, .slice none 0 0] 37)) := F6.alloc F6.size _
                have zt := F6.size
                refine ⟨Cls.of F6a, ?_⟩
                clear F6
                generalize (w6.alloc (.cells #[.int .i64 0, .slice none 0 0, .slice none 0 0] 37)) = w6a at *
                generalize w6.heap.size = t at *
                have F6 := F6a
                refine wpPlan_one rfl ?_
                go_wp2_with fail
                refine (refStash_ok n A1 c1 As A2 c2 Gr.length y w6a (by omega) hlA ((CC.out.below F6).mono F6.size) (fun h => (NI.out h).2)).mono ?_
                rintro e w7 ⟨v, rfl, ho, hb⟩
                have F7 := F6.trans (hb.mono F6.size)
                have z6 := F6.size
                obtain ⟨A7, c7, rfl, -⟩ := own_form ho
                have L7 : Hid (∀ k, (Value.slice A7 (As.length + 1) c7).ownBlock = some k → wr.heap.size ≤ k) := fun k hk => by have := (ho.lt k hk).1; omega
                have HO := Troupe.hid (Go.Joins.ownsRow_le ho (Nat.zero_le _))
                have HB7 := Troupe.hid hb
                clear ho hb
                have B7 := B6.below HB7.out B6.lt
                have b7 := B7.cell
                have u7 := B7.frozen
                go_wp2_with fail
                refine ⟨Cls.of F7, ?_⟩
                repeat (refine wpPlan_read rfl (fun K hK => ?_); go_simp; refine hK _ ?_; clear hK K)
                refine wpPlan_one rfl ?_
                go_wp2_with fail
                have B9 : Blk (((w7.setCell ⟨t, 0, none⟩ (.int .i64 n)).setCell ⟨t, 1, none⟩ (.slice A7 (As.length + 1) c7)).setCell ⟨t, 2, none⟩ (.slice A2 Gr.length c2)) t 37 [.int .i64 n, .slice A7 (As.length + 1) c7, .slice A2 Gr.length c2] := ((B7.set_ 0 _).set_ 1 _).set_ 2 _
                have F79 : Frm (fun k => k = t) w7 (((w7.setCell ⟨t, 0, none⟩ (.int .i64 n)).setCell ⟨t, 1, none⟩ (.slice A7 (As.length + 1) c7)).setCell ⟨t, 2, none⟩ (.slice A2 Gr.length c2)) := ((Frm.one w7 ⟨t, 0, none⟩ _).trans (Frm.one _ ⟨t, 1, none⟩ _) (fun _ _ h => h)).trans (Frm.one _ ⟨t, 2, none⟩ _) (fun _ _ h => h)
                have F9 : Below wr.heap.size wr (((w7.setCell ⟨t, 0, none⟩ (.int .i64 n)).setCell ⟨t, 1, none⟩ (.slice A7 (As.length + 1) c7)).setCell ⟨t, 2, none⟩ (.slice A2 Gr.length c2)) := F7.trans (F79.below F7.size (fun k hk => by omega))
                have O9 := Troupe.hid (own_frm HO.out F79 (fun k hk e => by obtain ⟨cs, hbk⟩ := own_at HO.out hk; exact hbk.ne B7 (by decide) e))
                clear F6 F6a F7 F79 HB7 z6 zt B6 B7 b7 u7 HO
                generalize (((w7.setCell ⟨t, 0, none⟩ (.int .i64 n)).setCell ⟨t, 1, none⟩ (.slice A7 (As.length + 1) c7)).setCell ⟨t, 2, none⟩ (.slice A2 Gr.length c2)) = w9 at *
                have P9 : PS w (((w9.setCell ⟨g, 0, none⟩ (.int .i64 n)).setCell ⟨g, 1, none⟩ (.slice A7 (As.length + 1) c7)).setCell ⟨g, 2, none⟩ (.slice A2 Gr.length c2)) p n As Fr g (As ++ [y]) Gr A7 c7 A2 c2 := by
                  have e1 : (As ++ [y]).length = As.length + 1 := by simp
                  have := R.out.put (Bs' := As ++ [y]) (Gr' := Gr) (A1' := A7) (c1' := c7) (A2' := A2) (c2' := c2) F9 (by rw [e1]; exact O9.out) (own_below R.out.o2 F9) (fun k hk => .inr (.inr (L7.out k (by rw [e1] at hk; exact hk)))) (fun k hk => .inr (.inl hk))
                  rw [e1] at this
                  exact this
                have k9 : w9.cell? ⟨bb, o + j * 2 + 1, none⟩ = some (.int .u64 y) := ((R.out.be.trans (F9.mono R.out.be.size)).cell (p := ⟨bb, o + j * 2 + 1, none⟩) hbb).trans Q1.out
                have hbg : ¬ bb = g := by have := R.out.hg; omega
                have hgb : ¬ g = bb := by omega
                have g9 := R.out.blk.below F9 R.out.blk.lt
                have e9 := g9.cell
                have f9 := g9.frozen
                have d9 := B9.cell
                have P9H := Troupe.hid P9
                refine ⟨Cls.of F9, ?_⟩
                clear FC FD hne F9 P9 g9 B9 c6 f6 k0
                refine wpPlan_tail ?_
                simp only [List.drop_succ_cons, List.drop_zero]
                go_wp2_with fail
                refine (P9H.out.stash y hr).mono ?_
                rintro e w10 ⟨rfl, h10⟩
                have P10 := Troupe.hid h10
                clear h10 e9 f9 d9 k9
                go_wp2_with fail
                go_meet
                case rel => exact ⟨As ++ [y], Fr, Gr, A7, c7, A2, c2, by simp; omega, HGr.out, P10.out⟩
            · refine wpPlan_two rfl rfl ?_ ?_
              · go_wp2_with fail
                refine (refStash_full n A1 c1 As.length A2 c2 Gr.length y w6 (by omega)).mono ?_
                rintro e w7 ⟨rfl, hb⟩
                have F7 := F6.trans (hb.mono F6.size)
                have z6 := F6.size
                have HB7 := Troupe.hid hb
                clear hb
                go_wp2_with fail
                refine ⟨Cls.of F7, ?_⟩
                repeat (refine wpPlan_read rfl (fun K hK => ?_); go_simp; refine hK _ ?_; clear hK K)
                refine wpPlan_one rfl ?_
                go_wp2_with fail
                refine ⟨Cls.of (F7.alloc F7.size _), ?_⟩
                refine wpPlan_one rfl ?_
                go_wp2_with fail
                have B9 : Blk (w7.alloc (.cells #[.int .i64 n, .slice A1 As.length c1, .slice A2 Gr.length c2] 37)) w7.heap.size 37 [.int .i64 n, .slice A1 As.length c1, .slice A2 Gr.length c2] := Blk.new _ _ _
                have F9 : Below wr.heap.size wr (w7.alloc (.cells #[.int .i64 n, .slice A1 As.length c1, .slice A2 Gr.length c2] 37)) := F7.alloc F7.size _
                clear F6 F7 HB7 z6
                generalize w7.alloc (.cells #[.int .i64 n, .slice A1 As.length c1, .slice A2 Gr.length c2] 37) = w9 at *
                generalize w7.heap.size = t at *
                have P9 : PS w (((w9.setCell ⟨g, 0, none⟩ (.int .i64 n)).setCell ⟨g, 1, none⟩ (.slice A1 As.length c1)).setCell ⟨g, 2, none⟩ (.slice A2 Gr.length c2)) p n As Fr g (As) Gr A1 c1 A2 c2 := by
                  exact R.out.put (Bs' := As) (Gr' := Gr) (A1' := A1) (c1' := c1) (A2' := A2) (c2' := c2) F9 (own_below R.out.o1 F9) (own_below R.out.o2 F9) (fun k hk => .inl hk) (fun k hk => .inr (.inl hk))
                have k9 : w9.cell? ⟨bb, o + j * 2 + 1, none⟩ = some (.int .u64 y) := ((R.out.be.trans (F9.mono R.out.be.size)).cell (p := ⟨bb, o + j * 2 + 1, none⟩) hbb).trans Q1.out
                have hbg : ¬ bb = g := by have := R.out.hg; omega
                have hgb : ¬ g = bb := by omega
                have g9 := R.out.blk.below F9 R.out.blk.lt
                have e9 := g9.cell
                have f9 := g9.frozen
                have d9 := B9.cell
                have P9H := Troupe.hid P9
                refine ⟨Cls.of F9, ?_⟩
                clear FC FD hne F9 P9 g9 B9 c6 f6 k0
                refine wpPlan_tail ?_
                simp only [List.drop_succ_cons, List.drop_zero]
                go_wp2_with fail
                refine (P9H.out.full y (by omega)).mono ?_
                rintro e w10 ⟨rfl, h10⟩
                have P10 := Troupe.hid h10
                clear h10 e9 f9 d9 k9
                go_wp2_with fail
                go_meet
                case rel => exact ⟨As, Fr, Gr, A1, c1, A2, c2, by omega, HGr.out, P10.out⟩
              · go_wp2_with fail
                have B6 : Blk (w6.alloc (.cells #[.int .i64 0, .slice none 0 0, .slice none 0 0] 37)) w6.heap.size 37 [.int .i64 0, .slice none 0 0, .slice none 0 0] := Blk.new _ _ _
                have F6a : Below wr.heap.size wr (w6.alloc (.cells #[.int .i64 0, .slice none 0 0, .slice none 0 0] 37)) := F6.alloc F6.size _
                have zt := F6.size
                refine ⟨Cls.of F6a, ?_⟩
                clear F6
                generalize (w6.alloc (.cells #[.int .i64 0, .slice none 0 0, .slice none 0 0] 37)) = w6a at *
                generalize w6.heap.size = t at *
                have F6 := F6a
                refine wpPlan_one rfl ?_
                go_wp2_with fail
                refine (refStash_full n A1 c1 As.length A2 c2 Gr.length y w6a (by omega)).mono ?_
                rintro e w7 ⟨rfl, hb⟩
                have F7 := F6.trans (hb.mono F6.size)
                have z6 := F6.size
                have HB7 := Troupe.hid hb
                clear hb
                have B7 := B6.below HB7.out B6.lt
                have b7 := B7.cell
                have u7 := B7.frozen
                go_wp2_with fail
                refine ⟨Cls.of F7, ?_⟩
                repeat (refine wpPlan_read rfl (fun K hK => ?_); go_simp; refine hK _ ?_; clear hK K)
                refine wpPlan_one rfl ?_
                go_wp2_with fail
                have B9 : Blk (((w7.setCell ⟨t, 0, none⟩ (.int .i64 n)).setCell ⟨t, 1, none⟩ (.slice A1 As.length c1)).setCell ⟨t, 2, none⟩ (.slice A2 Gr.length c2)) t 37 [.int .i64 n, .slice A1 As.length c1, .slice A2 Gr.length c2] := ((B7.set_ 0 _).set_ 1 _).set_ 2 _
                have F79 : Frm (fun k => k = t) w7 (((w7.setCell ⟨t, 0, none⟩ (.int .i64 n)).setCell ⟨t, 1, none⟩ (.slice A1 As.length c1)).setCell ⟨t, 2, none⟩ (.slice A2 Gr.length c2)) := ((Frm.one w7 ⟨t, 0, none⟩ _).trans (Frm.one _ ⟨t, 1, none⟩ _) (fun _ _ h => h)).trans (Frm.one _ ⟨t, 2, none⟩ _) (fun _ _ h => h)
                have F9 : Below wr.heap.size wr (((w7.setCell ⟨t, 0, none⟩ (.int .i64 n)).setCell ⟨t, 1, none⟩ (.slice A1 As.length c1)).setCell ⟨t, 2, none⟩ (.slice A2 Gr.length c2)) := F7.trans (F79.below F7.size (fun k hk => by omega))
                clear F6 F6a F7 F79 HB7 z6 zt B6 B7 b7 u7
                generalize (((w7.setCell ⟨t, 0, none⟩ (.int .i64 n)).setCell ⟨t, 1, none⟩ (.slice A1 As.length c1)).setCell ⟨t, 2, none⟩ (.slice A2 Gr.length c2)) = w9 at *
                have P9 : PS w (((w9.setCell ⟨g, 0, none⟩ (.int .i64 n)).setCell ⟨g, 1, none⟩ (.slice A1 As.length c1)).setCell ⟨g, 2, none⟩ (.slice A2 Gr.length c2)) p n As Fr g (As) Gr A1 c1 A2 c2 := by
                  exact R.out.put (Bs' := As) (Gr' := Gr) (A1' := A1) (c1' := c1) (A2' := A2) (c2' := c2) F9 (own_below R.out.o1 F9) (own_below R.out.o2 F9) (fun k hk => .inl hk) (fun k hk => .inr (.inl hk))
                have k9 : w9.cell? ⟨bb, o + j * 2 + 1, none⟩ = some (.int .u64 y) := ((R.out.be.trans (F9.mono R.out.be.size)).cell (p := ⟨bb, o + j * 2 + 1, none⟩) hbb).trans Q1.out
                have hbg : ¬ bb = g := by have := R.out.hg; omega
                have hgb : ¬ g = bb := by omega
                have g9 := R.out.blk.below F9 R.out.blk.lt
                have e9 := g9.cell
                have f9 := g9.frozen
                have d9 := B9.cell
                have P9H := Troupe.hid P9
                refine ⟨Cls.of F9, ?_⟩
                clear FC FD hne F9 P9 g9 B9 c6 f6 k0
                refine wpPlan_tail ?_
                simp only [List.drop_succ_cons, List.drop_zero]
                go_wp2_with fail
                refine (P9H.out.full y (by omega)).mono ?_
                rintro e w10 ⟨rfl, h10⟩
                have P10 := Troupe.hid h10
                clear h10 e9 f9 d9 k9
                go_wp2_with fail
                go_meet
                case rel => exact ⟨As, Fr, Gr, A1, c1, A2, c2, by omega, HGr.out, P10.out⟩
          · have m0 : ((k : Int) % 4 == 0) = false := by rw [beq_eq_false_iff_ne]; omega
            let S0 : World → Prop := fun w' => Frm (fun k => k ≠ g) wr w'
            have hne : Nonempty (SW S0) := ⟨⟨wr, Frm.refl _ _⟩⟩
            have FC : ∀ (z : SW S0) (i : Nat), z.w.cell? ⟨g, i, none⟩ = [Value.int .i64 n, .slice A1 As.length c1, .slice A2 Gr.length c2][i]? := fun z i => (R.out.blk.frm z.h (fun h => h rfl)).cell i
            by_cases h1 : k % 4 = 1
            · have m1 : ((k : Int) % 4 == 1) = true := by simp; omega
              clear h0 h1
              go_wp2_with fail
              refine region_plan (S := Cls S0) (.read 0 (.read 2 (.read 3 (.read 4 (.one 1 .tail))))) 5 (by kernel_rfl) (by kernel_rfl) (fun _ _ d _ _ h => by cases d <;> exact h) ?_
              intro w6 hh o1 o2 o3
              have F6 : Below wr.heap.size wr w6 := (Frm.of_heap (S := fun _ => False) hh o1 o2 o3).below (Nat.le_refl _) (fun _ h => h.elim)
              have F60 : S0 w6 := Frm.of_heap hh o1 o2 o3
              clear hh o1 o2 o3
              refine ⟨Cls.of F60, ?_⟩
              repeat (refine wpPlan_read rfl (fun K hK => ?_); go_simp; refine hK _ ?_; clear hK K)
              have R6 := Troupe.hid (R.out.below F6)
              refine wpPlan_one rfl ?_
              go_wp2_with fail
              refine (R6.out.unstash hlA hlF).mono ?_
              rintro e w7 ⟨rfl, h7, f7⟩
              have F7 : S0 w7 := F60.trans f7 (fun _ _ h => h)
              have R7 := Troupe.hid h7
              have g7 := h7.blk
              have e7 := g7.cell
              have f7' := g7.frozen
              clear h7 f7 g7 F6 c6 f6 k0
              go_wp2_with fail
              refine ⟨Cls.of F7, ?_⟩
              clear FC hne F60 F7
              refine wpPlan_tail ?_
              simp only [List.drop_succ_cons, List.drop_zero]
              go_wp2_with fail
              obtain ⟨D1, d1, hv1, -, -, hcc1, hnil1, -⟩ := own_form R7.out.o1
              simp only [Value.slice.injEq, true_and] at hv1
              obtain ⟨rfl, rfl⟩ := hv1
              obtain ⟨D2, d2, hv2, -, -, hcc2, hnil2, -⟩ := own_form R7.out.o2
              simp only [Value.slice.injEq, true_and] at hv2
              obtain ⟨rfl, rfl⟩ := hv2
              refine (refUnstash_any n A1 c1 A2 c2 As Gr w7 hlA (by rw [HGL.out]; exact hlF) hcc1 hcc2 (fun h => (hnil1 h).2) (fun h => (hnil2 h).2)).mono ?_
              rintro e w8 ⟨v, rfl, ho, hb⟩
              rw [← List.length_append] at ho
              obtain ⟨A8, c8, rfl, -⟩ := own_form ho
              have L8 : ∀ k, (Value.slice A8 (As ++ Gr).length c8).ownBlock = some k → w7.heap.size ≤ k := fun k hk => (ho.lt k hk).1
              have P9 := R7.out.put (Bs' := []) (Gr' := As ++ Gr) (A1' := none) (c1' := 0) (A2' := A8) (c2' := c8) hb (World.ownsRow_nil _ _ _ _) (Go.Joins.ownsRow_le ho (Nat.zero_le _)) (fun k hk => by simp [Value.ownBlock] at hk) (fun k hk => .inr (.inr (L8 k hk)))
              have P9H := Troupe.hid P9
              have g8 := R7.out.blk.below hb R7.out.blk.lt
              have e8 := g8.cell
              have f8 := g8.frozen
              have HL : Hid ((As ++ Gr).length = As.length + Gr.length) := List.length_append
              clear ho hb P9 g8 e7 f7' hcc1 hcc2 hnil1 hnil2 L8
              generalize hq : (As ++ Gr).length = q at *
              clear hq
              go_wp2_with fail
              go_meet
              case rel => exact ⟨[], Fr ++ As.reverse, As ++ Gr, none, 0, A8, c8, by simp; omega, by simp [HGr.out], by trivial⟩
            · have m1 : ((k : Int) % 4 == 1) = false := by rw [beq_eq_false_iff_ne]; omega
              by_cases h2 : k % 4 = 2
              · have m2 : ((k : Int) % 4 == 2) = true := by simp; omega
                clear h0 h1 h2 FC hne k0 c6 f6
                rcases List.eq_nil_or_concat Fr with hF | ⟨F', z, hF⟩
                · subst hF
                  have hG : Gr = [] := by rw [HGr.out]; rfl
                  subst hG
                  go_wp2_with fail
                  refine (R.out.nextNone).mono ?_
                  rintro e w7 ⟨rfl, h7⟩
                  have R7 := Troupe.hid h7
                  have g7 := h7.blk
                  have e7 := g7.cell
                  have f7 := g7.frozen
                  clear h7 g7
                  go_wp2_with fail
                  refine (refNext_none n A1 c1 As.length A2 c2 w7).mono ?_
                  rintro e w8 ⟨rfl, hb⟩
                  have b9 : Below w8.heap.size w8 (w8.alloc (.cells #[.int .i64 n, .slice A1 As.length c1, .slice A2 0 c2] 37)) := (Below.refl _ _).alloc (Nat.le_refl _) _
                  have B79 := hb.trans (b9.mono hb.size)
                  have B9 : Blk (w8.alloc (.cells #[.int .i64 n, .slice A1 As.length c1, .slice A2 0 c2] 37)) w8.heap.size 37 [.int .i64 n, .slice A1 As.length c1, .slice A2 0 c2] := Blk.new _ _ _
                  have d9 := B9.cell
                  have P9 := Troupe.hid (R7.out.put (Bs' := As) (Gr' := []) (A1' := A1) (c1' := c1) (A2' := A2) (c2' := c2) B79 (own_below R7.out.o1 B79) (own_below R7.out.o2 B79) (fun k hk => .inl hk) (fun k hk => .inr (.inl hk)))
                  have g9 := R7.out.blk.below B79 R7.out.blk.lt
                  have e9 := g9.cell
                  have f9 := g9.frozen
                  clear hb b9 B79 g9 e7 f7 B9
                  go_wp2_with fail
                  go_meet
                  case rel => exact ⟨As, [], [], A1, c1, A2, c2, by simp; omega, rfl, by simpa using P9.out⟩
                · rw [List.concat_eq_append] at hF
                  subst hF
                  obtain ⟨G', hG'⟩ : ∃ G', G' = F'.reverse := ⟨_, rfl⟩
                  have hG : Gr = z :: G' := by rw [HGr.out, hG']; simp
                  subst hG
                  have hlF' : F'.length ≤ 1000000 := by simp at hlF; omega
                  have hlG' : G'.length ≤ 1000000 := by rw [hG']; simpa using hlF'
                  have HG' := Troupe.hid hG'
                  clear hG'
                  go_wp2_with fail
                  refine (R.out.nextSome hlF').mono ?_
                  rintro e w7 ⟨rfl, h7⟩
                  have R7 := Troupe.hid h7
                  have g7 := h7.blk
                  have e7 := g7.cell
                  have f7 := g7.frozen
                  obtain ⟨D2, d2, hv2, hcap, -, hcc2, -, -⟩ := own_form h7.o2
                  simp only [Value.slice.injEq, true_and] at hv2
                  obtain ⟨rfl, rfl⟩ := hv2
                  have CC := Troupe.hid hcc2
                  have CP := Troupe.hid (show G'.length + 1 ≤ c2 by simpa using hcap)
                  clear h7 g7 hcc2 hcap
                  go_wp2_with fail
                  refine (refNext_some n A1 c1 As.length A2 c2 z G' w7 hlG' CP.out CC.out).mono ?_
                  rintro e w8 ⟨v, rfl, ho, hb⟩
                  obtain ⟨A8, c8, rfl, -⟩ := own_form ho
                  have L8 : ∀ k, (Value.slice A8 G'.length c8).ownBlock = some k → w7.heap.size ≤ k := fun k hk => (ho.lt k hk).1
                  have b9 : Below w8.heap.size w8 (w8.alloc (.cells #[.int .i64 n, .slice A1 As.length c1, .slice A8 G'.length c8] 37)) := (Below.refl _ _).alloc (Nat.le_refl _) _
                  have B79 := hb.trans (b9.mono hb.size)
                  have B9 : Blk (w8.alloc (.cells #[.int .i64 n, .slice A1 As.length c1, .slice A8 G'.length c8] 37)) w8.heap.size 37 [.int .i64 n, .slice A1 As.length c1, .slice A8 G'.length c8] := Blk.new _ _ _
                  have d9 := B9.cell
                  have P9 := Troupe.hid (R7.out.put (Bs' := As) (Gr' := G') (A1' := A1) (c1' := c1) (A2' := A8) (c2' := c8) B79 (own_below R7.out.o1 B79) (own_below (Go.Joins.ownsRow_le ho (Nat.zero_le _)) b9) (fun k hk => .inl hk) (fun k hk => .inr (.inr (L8 k hk))))
                  have g9 := R7.out.blk.below B79 R7.out.blk.lt
                  have e9 := g9.cell
                  have f9 := g9.frozen
                  clear ho hb b9 B79 g9 e7 f7 B9 L8 hlF
                  go_wp2_with fail
                  go_meet
                  case rel => exact ⟨As, F', G', A1, c1, A8, c8, by simp at hle; omega, HG'.out, P9.out⟩
              · have m2 : ((k : Int) % 4 == 2) = false := by rw [beq_eq_false_iff_ne]; omega
                have m3 : ((k : Int) % 4 == 3) = true := by simp; omega
                clear h0 h1 h2
                go_wp2_with fail
                refine region_plan (S := Cls S0) (.read 0 (.read 2 (.one 1 (.one 3 (.one 4 .tail))))) 5 (by kernel_rfl) (by kernel_rfl) (fun _ _ d _ _ h => by cases d <;> exact h) ?_
                intro w6 hh o1 o2 o3
                have F6 : Below wr.heap.size wr w6 := (Frm.of_heap (S := fun _ => False) hh o1 o2 o3).below (Nat.le_refl _) (fun _ h => h.elim)
                have F60 : S0 w6 := Frm.of_heap hh o1 o2 o3
                clear hh o1 o2 o3
                refine ⟨Cls.of F60, ?_⟩
                repeat (refine wpPlan_read rfl (fun K hK => ?_); go_simp; refine hK _ ?_; clear hK K)
                have R6 := Troupe.hid (R.out.below F6)
                refine wpPlan_one rfl ?_
                go_wp2_with fail
                refine (R6.out.clear hlF hlA).mono ?_
                rintro e w7 ⟨A7, c7, rfl, hc7, h7, f7⟩
                obtain ⟨M, hM⟩ : ∃ M, Fr.length + As.length = M := ⟨_, rfl⟩
                have hM2 : Gr.length + As.length = M := by rw [HGL.out, hM]
                have hM3 : M ≤ 1000 := by omega
                have eL : Fr.reverse ++ As = Gr ++ As := by rw [HGr.out]
                rw [eL] at hc7
                rw [hM]
                have F7 : S0 w7 := F60.trans f7 (fun _ _ h => h)
                have R7 := Troupe.hid h7
                have C7 := Troupe.hid hc7
                have HM2 := Troupe.hid hM2
                clear h7 f7 hc7 F6 c6 f6 k0 hM hM2 eL
                go_wp2_with fail
                refine ⟨Cls.of F7, ?_⟩
                obtain ⟨D1, d1, hv1, -, -, hcc1, hnil1, -⟩ := own_form R7.out.o1
                simp only [Value.slice.injEq, true_and] at hv1
                obtain ⟨rfl, rfl⟩ := hv1
                obtain ⟨D2, d2, hv2, -, -, hcc2, hnil2, -⟩ := own_form R7.out.o2
                simp only [Value.slice.injEq, true_and] at hv2
                obtain ⟨rfl, rfl⟩ := hv2
                have J := Troupe.hid (refAll_any n A1 c1 A2 c2 As Gr w7 hlA (by rw [HGL.out]; exact hlF) hcc1 hcc2 (fun h => (hnil1 h).2) (fun h => (hnil2 h).2))
                clear hcc1 hcc2 hnil1 hnil2
                refine wpPlan_one rfl ?_
                go_wp2_with fail
                refine J.out.mono ?_
                rintro e w8 ⟨v, rfl, ho, hb⟩
                rw [HM2.out] at ho
                obtain ⟨A8, c8, rfl, -⟩ := own_form ho
                have F8 : S0 w8 := F7.trans (frm_ne hb) (fun _ _ h => h)
                have SM := Troupe.hid (same_eq A7 M c7 A8 c8 (Gr ++ As) w8 (by rw [List.length_append]; exact HM2.out) (by omega) ((C7.out.below hb).mono hb.size) (own_cells ho))
                have R8 := Troupe.hid (R7.out.below hb)
                clear ho hb F7
                go_wp2_with fail
                refine ⟨Cls.of F8, ?_⟩
                refine wpPlan_one rfl ?_
                go_wp2_with fail
                refine SM.out.mono ?_
                rintro e w9 ⟨rfl, hb⟩
                have F9 : S0 w9 := F8.trans (frm_ne hb) (fun _ _ h => h)
                have R9 := Troupe.hid (R8.out.below hb)
                clear hb F8
                go_wp2_with fail
                refine ⟨Cls.of F9, ?_⟩
                clear F9 F60 FC hne
                refine wpPlan_tail ?_
                simp only [List.drop_succ_cons, List.drop_zero]
                go_wp2_with fail
                refine (refNew_any room w9).mono ?_
                rintro e w10 ⟨rfl, hb⟩
                rw [← HN.out]
                have P10 := Troupe.hid (R9.out.put (Bs' := []) (Gr' := []) (A1' := none) (c1' := 0) (A2' := none) (c2' := 0) hb (World.ownsRow_nil _ _ _ _) (World.ownsRow_nil _ _ _ _) (fun k hk => by simp [Value.ownBlock] at hk) (fun k hk => by simp [Value.ownBlock] at hk))
                have g10 := R9.out.blk.below hb R9.out.blk.lt
                have e10 := g10.cell
                have f10 := g10.frozen
                clear hb g10
                go_wp2_with fail
                go_meet
                case rel => exact ⟨[], [], [], none, 0, none, 0, by simp, rfl, by simpa using P10.out⟩
        case rest =>
          obtain ⟨w5, rfl⟩ : ∃ w5 : World, w5 = wc := ⟨_, rfl⟩
          obtain ⟨As1, Fr1, Gr1, D1, d1, D2, d2, hle1, hgr1, hps1⟩ := hcut
          have R1 := Troupe.hid hps1
          have HG1 := Troupe.hid hgr1
          have hgl1 : Gr1.length = Fr1.length := by rw [hgr1]; simp
          have HGL1 := Troupe.hid hgl1
          have hlA1 : As1.length ≤ 1000000 := by omega
          have hlF1 : Fr1.length ≤ 1000000 := by omega
          clear hps1 hgr1 hgl1 k0
          let S0 : World → Prop := fun w' => Below w5.heap.size w5 w'
          have hne : Nonempty (SW S0) := ⟨⟨w5, Below.refl _ _⟩⟩
          have FC : ∀ (z : SW S0) (i : Nat), z.w.cell? ⟨g, i, none⟩ = [Value.int .i64 n, .slice D1 As1.length d1, .slice D2 Gr1.length d2][i]? := fun z i => (R1.out.blk.below z.h R1.out.blk.lt).cell i
          go_wp2_with fail
          refine region_plan (S := Cls S0) (.read 0 (.read 2 (.read 3 (.one 1 (.one 4 (.read 5 (.read 6 (.read 7 (.read 9 (.read 10 (.one 8 (.one 11 (.read 12 .tail))))))))))))) 13 (by kernel_rfl) (by kernel_rfl) (fun _ _ d _ _ h => by cases d <;> exact h) ?_
          intro w6 hh o1 o2 o3
          have F6 : Below w5.heap.size w5 w6 := (Frm.of_heap (S := fun _ => False) hh o1 o2 o3).below (Nat.le_refl _) (fun _ h => h.elim)
          clear hh o1 o2 o3
          refine ⟨Cls.of F6, ?_⟩
          repeat (refine wpPlan_read rfl (fun K hK => ?_); go_simp; refine hK _ ?_; clear hK K)
          refine wpPlan_one rfl ?_
          go_wp2_with fail
          have R6 := Troupe.hid (R1.out.below F6)
          refine (R6.out.stashed hlA1).mono ?_
          rintro e w7 ⟨A7, c7, rfl, hc7, hb⟩
          have F7 := F6.trans (hb.mono F6.size)
          have C7 := Troupe.hid hc7
          have R7 := Troupe.hid (R6.out.below hb)
          clear hb hc7 F6
          go_wp2_with fail
          refine ⟨Cls.of F7, ?_⟩
          refine wpPlan_one rfl ?_
          go_wp2_with fail
          have SM := Troupe.hid (same_eq A7 As1.length c7 D1 d1 As1 w7 rfl (by omega) C7.out (own_cells R7.out.o1))
          refine SM.out.mono ?_
          rintro e w8 ⟨rfl, hb⟩
          have F8 := F7.trans (hb.mono F7.size)
          have R8 := Troupe.hid (R7.out.below hb)
          clear hb F7
          go_wp2_with fail
          refine ⟨Cls.of F8, ?_⟩
          repeat (refine wpPlan_read rfl (fun K hK => ?_); go_simp; refine hK _ ?_; clear hK K)
          refine wpPlan_one rfl ?_
          go_wp2_with fail
          refine (R8.out.front hlF1).mono ?_
          rintro e w9 ⟨A9, c9, rfl, hc9, hb⟩
          rw [← HG1.out] at hc9
          have F9 := F8.trans (hb.mono F8.size)
          have R9 := Troupe.hid (R8.out.below hb)
          have SM9 := Troupe.hid (same_eq A9 Gr1.length c9 D2 d2 Gr1 w9 rfl (by rw [HGL1.out]; omega) hc9 (own_cells R9.out.o2))
          rw [← HGL1.out]
          clear hb hc9 F8
          go_wp2_with fail
          refine ⟨Cls.of F9, ?_⟩
          refine wpPlan_one rfl ?_
          go_wp2_with fail
          refine SM9.out.mono ?_
          rintro e w10 ⟨rfl, hb⟩
          have F10 := F9.trans (hb.mono F9.size)
          have R10 := Troupe.hid (R9.out.below hb)
          clear hb F9
          go_wp2_with fail
          refine ⟨Cls.of F10, ?_⟩
          clear F10 FC
          repeat (refine wpPlan_read rfl (fun K hK => ?_); go_simp; refine hK _ ?_; clear hK K)
          refine wpPlan_tail ?_
          simp only [List.drop_succ_cons, List.drop_zero]
          go_wp2_with fail
          go_roundw
          case rel => exact ⟨j + 1, As1, Fr1, Gr1, D1, d1, D2, d2, by omega, by omega, by go_num, hle1, HG1.out, R10.out⟩
          case measure => simp [intOf]; omega
      · by_cases h1 : j < len
        · have h2 : ¬ j < 400 := fun h => hlt ⟨h1, h⟩
          have h2i : ¬ (j : Int) < 400 := by omega
          clear hlt
          go_wp2_with fail
          go_meet
          case rel => exact R.out.be
        · clear hlt
          go_wp2_with fail
          go_meet
          case rel => exact R.out.be
  case rest =>
    obtain ⟨w5, rfl⟩ : ∃ w5 : World, w5 = wc := ⟨_, rfl⟩
    have HB := Troupe.hid hcut
    clear hcut
    go_wp2_with fail
    go_ret
    exact ⟨rfl, HB.out⟩
end Go.Proofs.Ytmbpilhngniigaa
