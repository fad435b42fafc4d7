/- MercyPlays: the walk. -/
import Derived.Test.YtodkennpgfmenaaPlays
import Derived.Test.YtodkennpgfmenaaMix
namespace Go.Proofs.Ytodkennpgfmenaa
open Go.RowKit Go.Maps Go.Troupe
attribute [local go_sem] reads readAt readUpon Cls

theorem region_mix_any {P : Program} {S : World → Prop} {Q : Exit → Act → World → Prop} {id : Nat} {a : Act} {w : World} {l : List Oper} (n1 m : Nat) (hm : P.follows .mixedOrders = true) (hB : mixB .any l.toArray n1 m = true)
    (hQ : ∀ c (a : Act) (d : Option Tmp) v w, Q (.panic c) (a.put d v) w → Q (.panic c) a w)
    (h : ∀ w', w'.heap = w.heap → w'.os = w.os → w'.tape = w.tape → w'.output = w.output → S w' ∧
      wpReads P l.toArray S (fun a' => wpMid P l.toArray (Exit.then (Q .normal) Q) S (fun a w => wpList P l.toArray (Exit.then (Q .normal) Q) (l.drop m) a w) ((l.take m).drop n1) a' w') (l.take n1) a) : (Code.region id l.toArray true).wp P Q a w :=
  Code.wp_mono (fun e a w h => by cases e <;> exact h) (region_mix (K := Q .normal) n1 m hm hB hQ h)

set_option maxRecDepth 100000 in
set_option maxHeartbeats 2000000 in
theorem plays_walk (limit within : Int) (Ad : Option Addr) (n c : Nat) (l0 : List Ope) (w : World) (hl : l0.length = n) (hc : Cells w w.heap.size Ad (flatO l0)) :
    Calls Try.prog 5 #[.int .i64 limit, .int .i64 within, .slice Ad n c] w fun e w' => e = .returned (.bool true) ∧ Below w.heap.size w w' := by
  have C0 := Troupe.hid hc
  clear hc
  go_enter Try.func5, Try.ntmps5
  go_wp2_with fail
  refine (alive_any w).mono ?_
  rintro e w1 ⟨rfl, hb1⟩
  have B1 := Troupe.hid hb1
  clear hb1
  go_wp2_with fail
  obtain ⟨L, hL⟩ : ∃ L, clamp limit 0 100 = L := ⟨_, rfl⟩
  obtain ⟨W, hW⟩ : ∃ W, clamp within 1 4095 = W := ⟨_, rfl⟩
  have HL := Troupe.hid hL
  have HW := Troupe.hid hW
  clear hL hW
  refine (new_any limit within w1).mono ?_
  rintro e w2 ⟨p, m, rfl, hbud, hb2⟩
  rw [HL.out, HW.out] at hbud
  have R0 : Hid (PQ w w2 p m L W [] (gOf []) none 0 w2.heap.size) := ⟨World.ownsRow_nil _ _ _ _, ⟨_, hbud, fun k hk => by have := B1.out.size; omega, fun k hk => by simp [Value.ownBlock] at hk, fun h => by have := h.2; omega⟩, B1.out.trans (hb2.mono B1.out.size)⟩
  clear hbud hb2
  go_wp2_with fail
  go_loopw [8, 9] (fun v8 v9 wr => ∃ (j : Nat) (l : List Giv) (A : Option Addr) (ca g0 : Nat), j ≤ n ∧ j ≤ 200 ∧ v9 = .int .i64 j ∧ v8 = .slice A l.length ca ∧ l.length ≤ j ∧ PQ w wr p m L W l (gOf l) A ca g0) (fun _ v9 _ => n - (intOf v9).toNat)
  case atStart => exact ⟨0, [], none, 0, _, by omega, by omega, rfl, rfl, by simp, R0.out⟩
  case round =>
    obtain ⟨j, l, A, ca, g0, hj, hj2, rfl, rfl, hlj, hr⟩ := hrel
    have R := Troupe.hid hr
    clear hr
    by_cases hlt : j < n ∧ j < 200
    · obtain ⟨hlt, hlt2⟩ := hlt
      have hjb : (j : Int) < 200 := by omega
      obtain ⟨x, hx⟩ : ∃ x, l0[j]? = some x := ⟨_, List.getElem?_eq_getElem (by omega)⟩
      obtain ⟨q0, q1, q2⟩ := flatO_at l0 j x hx
      obtain ⟨b3, off, hA3, _, h1⟩ := (C0.out.below R.out.be).at_ (by intro e; have := congrArg List.length e; rw [flatO_length] at this; simp at this; omega)
      subst hA3
      have c0 : wr.cell? ⟨b3, off + j * 3, none⟩ = some (.int .u8 ((x.k.val : Nat) : Int)) := h1 _ _ q0
      have c1 : wr.cell? ⟨b3, off + j * 3 + 1, none⟩ = some (.int .i64 x.c) := by rw [Nat.add_assoc]; exact h1 _ _ q1
      have c2 : wr.cell? ⟨b3, off + j * 3 + 2, none⟩ = some (.int .i64 x.t) := by rw [Nat.add_assoc]; exact h1 _ _ q2
      clear h1 hx q0 q1 q2
      have hk2 := x.k.isLt
      obtain ⟨k, hk⟩ : ∃ k : Nat, x.k.val = k := ⟨_, rfl⟩
      obtain ⟨cc, hcc⟩ : ∃ cc : Int, x.c = cc := ⟨_, rfl⟩
      obtain ⟨t, ht⟩ : ∃ t : Int, x.t = t := ⟨_, rfl⟩
      rw [hk] at c0 hk2
      rw [hcc] at c1
      rw [ht] at c2
      clear hk hcc ht x
      obtain ⟨N, hN⟩ : ∃ N, clamp t 0 1099511627776 = N := ⟨_, rfl⟩
      have HN := Troupe.hid hN
      clear hN
      have ba : Below wr.heap.size wr (wr.alloc (.cells #[.int .u8 (k : Int), .int .i64 cc, .int .i64 t] 39)) := (Below.refl _ _).alloc (Nat.le_refl _) _
      have ea : Blk (wr.alloc (.cells #[.int .u8 (k : Int), .int .i64 cc, .int .i64 t] 39)) wr.heap.size 39 [.int .u8 (k : Int), .int .i64 cc, .int .i64 t] := Blk.new _ _ _
      have EA := Troupe.hid ea
      have RA := Troupe.hid (R.out.seen.below ba)
      clear ba ea
      go_wp2_with fail
      generalize wr.alloc (.cells #[.int .u8 (k : Int), .int .i64 cc, .int .i64 t] 39) = wa at *
      generalize wr.heap.size = g at *
      clear c0 c1 c2
      have hown := RA.out.own
      obtain ⟨A1, ca1, hv1, -, -, hcA, -, -⟩ := own_form hown
      simp only [Value.slice.injEq, true_and] at hv1
      obtain ⟨rfl, rfl⟩ := hv1
      refine (refLeft_any limit within cc t A _ ca l wa rfl (by omega) hcA HL.out HW.out HN.out).mono ?_
      rintro e w4 ⟨rfl, hb4⟩
      have R4 := Troupe.hid (RA.out.below hb4)
      have E4 := EA.out.below hb4 EA.out.lt
      have e4 := E4.cell
      have EE := Troupe.hid E4
      have hgl := gOf_le l cc
      obtain ⟨v, hv⟩ : ∃ v, leftOf L (gOf l cc) N W = v := ⟨_, rfl⟩
      have hv0 : 0 ≤ v := by rw [← hv]; exact left_ge _ _ _ _
      have V := Troupe.hid hv
      rw [hv]
      clear hcA hown hb4 E4 hv
      by_cases h1 : k % 4 = 1
      · have hm1 : ((k : Int) % 4 == 1) = true := by simp; omega
        have LV : Hid (Calls Try.prog 13 #[.pointer (some ⟨p, 0, none⟩), .int .i64 cc, .int .i64 t] w4 fun e w' => e = .returned (.int .i64 v) ∧ PQ w w' p m L W l (gOf l) A ca g) := by
          have := R4.out.left (child := cc) N (by omega) HN.out
          rw [V.out] at this
          exact this
        clear h1
        go_wp2_with fail
        refine LV.out.mono ?_
        rintro e w5 ⟨rfl, h5⟩
        have R5 := Troupe.hid h5
        clear h5 e4
        go_wp2_with fail
        go_roundw
        case rel => exact ⟨j + 1, l, A, ca, g, by omega, by omega, by go_num, rfl, by omega, R5.out⟩
        case measure => simp [intOf]; omega
      · have hm1 : ((k : Int) % 4 == 1) = false := by rw [beq_eq_false_iff_ne]; omega
        by_cases h2 : k % 4 = 2
        · have hm2 : ((k : Int) % 4 == 2) = true := by simp; omega
          clear h1 h2
          go_wp2_with fail
          refine (R4.out.forget EE.out cc).mono ?_
          rintro e w5 ⟨rfl, h5, hE5⟩
          rw [← gOf_but] at h5
          obtain ⟨A1, ca1, hv1, -, -, hcA, -, -⟩ := own_form h5.own
          simp only [Value.slice.injEq, true_and] at hv1
          obtain ⟨rfl, rfl⟩ := hv1
          have CA := Troupe.hid hcA
          have R5 := Troupe.hid h5
          have e5 := hE5.cell
          have hbl := but_le l cc
          clear h5 hE5 hcA e4
          go_wp2_with fail
          refine (refForget_any cc A _ ca l w5 rfl (by omega) CA.out).mono ?_
          rintro e w6 ⟨A6, c6, rfl, hown6, hb6⟩
          have R6 := Troupe.hid (R5.out.newRow hb6 hown6)
          clear hown6 hb6 e5
          go_wp2_with fail
          go_roundw
          case rel => exact ⟨j + 1, but l cc, A6, c6, g, by omega, by omega, by go_num, rfl, by omega, R6.out⟩
          case measure => simp [intOf]; omega
        · have hm2 : ((k : Int) % 4 == 2) = false := by rw [beq_eq_false_iff_ne]; omega
          clear h1 h2
          by_cases hz : v = 0
          · subst hz
            go_wp2_with fail
            refine (R4.out.no EE.out N (by omega) HN.out V.out).mono ?_
            rintro e w5 ⟨rfl, h5, -⟩
            have R5 := Troupe.hid h5
            clear h5 e4
            go_wp2_with fail
            go_roundw
            case rel => exact ⟨j + 1, l, A, ca, g, by omega, by omega, by go_num, rfl, by omega, R5.out⟩
            case measure => simp [intOf]; omega
          · have hvp : 0 < v := by omega
            go_wp2_with fail
            refine (R4.out.yes EE.out N (by omega) HN.out (by rw [V.out]; omega)).mono ?_
            rintro e w5 ⟨rfl, h5, hE5⟩
            rw [← gOf_snoc] at h5
            have R5 := Troupe.hid h5
            have E5 := Troupe.hid hE5
            clear h5 hE5 e4
            go_wp2_with fail
            let S0 : World → Prop := fun w' => Frm (fun _ => False) w5 w'
            have hne : Nonempty (SW S0) := ⟨⟨w5, Frm.refl _ _⟩⟩
            have FC : ∀ (x : SW S0) (i : Nat), x.w.cell? ⟨g, i, none⟩ = [Value.int .u8 (k : Int), .int .i64 cc, .int .i64 t][i]? := fun x i => (E5.out.frm x.h (fun h => h)).cell i
            refine region_mix_any (S := Cls S0) 5 8 (by kernel_rfl) (by kernel_rfl) (fun _ _ d _ _ h => by cases d <;> exact h) ?_
            intro w6 hh o1 o2 o3
            have F6 : Frm (fun _ => False) w5 w6 := Frm.of_heap hh o1 o2 o3
            clear hh o1 o2 o3
            refine ⟨Cls.of F6, ?_⟩
            simp only [List.take_succ_cons, List.take_zero, List.drop_succ_cons, List.drop_zero]
            repeat (refine wpReads_step (fun K hK => ?_); go_simp; refine hK _ ?_; clear hK K)
            refine wpReads_nil ?_
            unfold wpMid
            go_wp2_with fail
            refine (clamp_any t 0 1099511627776 w6).mono ?_
            rintro e w7 ⟨rfl, rfl⟩
            rw [HN.out]
            go_wp2_with fail
            refine ⟨Cls.of F6, ?_⟩
            unfold wpMid
            go_wp2_with fail
            refine ⟨Cls.of F6, ?_⟩
            unfold wpMid
            go_wp2_with fail
            have F7 : Frm (fun _ => False) w5 (w6.alloc (.cells #[.int .i64 cc, .int .i64 N] 45)) := F6.alloc _
            have B7 : Blk (w6.alloc (.cells #[.int .i64 cc, .int .i64 N] 45)) w6.heap.size 45 [.int .i64 cc, .int .i64 N] := Blk.new _ _ _
            have R7 := Troupe.hid (R5.out.heap F7)
            have OC7 := Troupe.hid R7.out.own
            have C7 := Troupe.hid B7.blk_cells
            have hs7 : (w6.alloc (.cells #[.int .i64 cc, .int .i64 N] 45)).heap.size = w6.heap.size + 1 := by simp
            have BS := Troupe.hid R7.out.be.size
            refine ⟨Cls.of F7, ?_⟩
            clear F6 F7 B7 FC hne
            generalize w6.alloc (.cells #[.int .i64 cc, .int .i64 N] 45) = w8 at *
            unfold wpMid
            go_wp2_with (at_builtin; refine wpList_app rfl (.tmp 53) (.tmp 60) 37 rfl w.heap.size 45 info45 Try.underlying37 rfl (by decide) (.slice A l.length ca) l.length (flatG l) rfl OC7.out (w6.heap.size + 1) (some ⟨w6.heap.size, 0, none⟩) 1 1 [.int .i64 cc, .int .i64 N] rfl rfl C7.out (fun h => by cases h) (by simp [Value.oneCell']) (by omega) (by unfold maxLen; omega) BS.out ?_; intro v' w9 h'; have A9 := Troupe.hid h'; clear h')
            obtain ⟨A6, c6, rfl, h9⟩ := R7.out.grown (l' := l ++ [⟨cc, N⟩]) A9.out (by simp) (by rw [flatG_app])
            have R9 := Troupe.hid h9
            clear h9
            go_roundw
            case rel => exact ⟨j + 1, l ++ [⟨cc, N⟩], A6, c6, g, by omega, by omega, by go_num, by simp, by simp; omega, R9.out⟩
            case measure => simp [intOf]; omega
    · have BE := Troupe.hid R.out.be
      by_cases h1 : j < n
      · have h2 : ¬ j < 200 := fun h => hlt ⟨h1, h⟩
        clear hlt
        go_wp2_with fail
        go_ret
        exact ⟨rfl, BE.out⟩
      · clear hlt
        go_wp2_with fail
        go_ret
        exact ⟨rfl, BE.out⟩
end Go.Proofs.Ytodkennpgfmenaa
