/- The document's Regions, by contract. -/
import Derived.Test.YtcgdghnmcahfeaaRefG
namespace Go.Proofs.Ytcgdghnmcahfeaa
open Go.RowKit Go.Maps Go.Troupe

theorem Ok.drop_ge {L : List Rg} {e N : Nat} (h : Ok e N L) {m : Nat} {y : Rg} (hy : L[m]? = some y) : ∀ r ∈ L.drop (m + 1), y.1 + y.2 ≤ r.1 := by
  intro r hr
  obtain ⟨j, hj⟩ := List.mem_iff_getElem?.1 hr
  rw [List.getElem?_drop] at hj
  exact h.lt (by omega) hy hj
theorem Sim.stop {N : Nat} {L : List Rg} {O : List Int} (h : Sim N L O) (hok : Ok 0 N L) {r : Rg} (hr : r ∈ L) {x : Int} (hx : O[r.1 + r.2]? = some x) : x ≠ (r.1 : Int) := by
  rintro rfl
  rcases h.at_ _ _ hx with ⟨h1, _⟩ | ⟨s, hs, h1, h2⟩
  · omega
  · have := hok.base hr hs (by omega)
    subst this
    unfold Cov at h2; omega
set_option maxRecDepth 100000 in
set_option maxHeartbeats 4000000 in
theorem refregions_any {p : Nat} {T : Nat → Prop} {O : List Int} {L : List Rg} (w : World) (h : Rf w p T O) (hO : O.length ≤ 65536) (hs : Sim O.length L O) (hok : Ok 0 O.length L) :
    Calls Try.prog 19 #[.pointer (some ⟨p, 0, none⟩)] w (Flat w L) := by
  have hle := hok.length
  have R0 := Troupe.hid h
  have SM := Troupe.hid hs
  have OK := Troupe.hid hok
  clear h hs hok
  go_enter Try.func19, Try.ntmps19
  go_wp2_with fail
  go_loopw [3, 4, 5] (fun v3 v4 _ wr => ∃ i m : Nat, v4 = .int .i64 i ∧ i ≤ O.length ∧ m ≤ L.length ∧ (∀ r ∈ L.take m, r.1 < i) ∧ (∀ r ∈ L.drop m, i ≤ r.1) ∧ wr.ownsRow w.heap.size 3 1 v3 (m * 2) (wordsI (flatI (L.take m))) ∧ Below w.heap.size w wr) (fun _ v4 _ _ => O.length - (intOf v4).toNat)
  case atStart => exact ⟨0, 0, rfl, Nat.zero_le _, Nat.zero_le _, fun r hr => by simp at hr, fun r _ => Nat.zero_le _, World.ownsRow_nil _ _ _ _, Below.refl _ _⟩
  case round =>
    obtain ⟨i, m, rfl, hi, hm, hlo, hhi, ho, hb⟩ := hrel
    obtain ⟨A3, c3, rfl, -⟩ := own_form ho
    have R1 := R0.out.below hb
    obtain ⟨v, g1, g2, g3⟩ := R1.ex
    obtain ⟨A, c, rfl, -⟩ := own_form g2
    have c0 : wr.cell? ⟨p, 0, none⟩ = some (.slice A O.length c) := g1.cell 0
    have C := Troupe.hid (own_cells g2)
    have LO := Troupe.hid hlo
    have HI := Troupe.hid hhi
    have V := Troupe.hid ho
    have HB := Troupe.hid hb
    clear hlo hhi ho hb R1 g1 g2 g3
    by_cases hlt : i < O.length
    · obtain ⟨x, hx⟩ : ∃ x, O[i]? = some x := ⟨_, List.getElem?_eq_getElem hlt⟩
      have hxw := wordsI_at O i x hx
      obtain ⟨g, off, hA, _, hcc⟩ := C.out.at_ (by intro e; rw [e] at hxw; simp at hxw)
      subst hA
      have d0 : wr.cell? ⟨g, off + i, none⟩ = some (.int .i64 x) := hcc _ _ hxw
      have CC : Hid (∀ j y, O[j]? = some y → wr.cell? ⟨g, off + j, none⟩ = some (.int .i64 y)) := fun j y hy => hcc _ _ (wordsI_at O j y hy)
      have X := Troupe.hid hx
      clear hcc hxw hx
      by_cases hxi : x = (i : Int)
      · subst hxi
        have hy : ∃ y, L[m]? = some y ∧ y.1 = i := by
          obtain ⟨r, hr, hri, _⟩ := SM.out.begins X.out
          have hrd : r ∈ L.drop m := by
            rw [← List.take_append_drop m L] at hr
            rcases List.mem_append.1 hr with h | h
            · have := LO.out r h; omega
            · exact h
          obtain ⟨j, hj⟩ := List.mem_iff_getElem?.1 hrd
          rw [List.getElem?_drop] at hj
          have hml : m < L.length := by have := (List.getElem?_eq_some_iff.1 hj).1; omega
          refine ⟨L[m], List.getElem?_eq_getElem hml, ?_⟩
          have h1 := HI.out L[m] (by rw [List.mem_iff_getElem?]; exact ⟨0, by rw [List.getElem?_drop]; exact List.getElem?_eq_getElem hml⟩)
          rcases Nat.eq_zero_or_pos j with rfl | hj0
          · rw [Nat.add_zero, List.getElem?_eq_getElem hml] at hj; cases hj; exact hri
          · have h2 := OK.out.lt (show m < m + j by omega) (List.getElem?_eq_getElem hml) hj
            have h3 := OK.out.mem L[m] (List.getElem_mem hml)
            omega
        obtain ⟨y, hy, hyi⟩ := hy
        have hym := OK.out.mem y (List.mem_of_getElem? hy)
        have Y := Troupe.hid hy
        have YI := Troupe.hid hyi
        obtain ⟨ln, hln⟩ : ∃ ln, ln = y.2 := ⟨_, rfl⟩
        rw [← hln, hyi] at hym
        have LN := Troupe.hid hln
        have hml : m < L.length := (List.getElem?_eq_some_iff.1 hy).1
        have FT := Troupe.hid (flatI_take L m y hy)
        have DG := Troupe.hid (OK.out.drop_ge hy)
        clear hy hyi hln
        go_upto_block 2 with (fail)
        go_cut [5] from 24 to 47 (fun v5 w' => v5 = .int .i64 (ln : Nat) ∧ w' = wr)
        case first =>
          obtain ⟨w5, hw5⟩ : ∃ w5 : World, w5 = wr := ⟨_, rfl⟩
          subst hw5
          go_wp2_with fail
          go_loopw [5] (fun v5 wr => ∃ k : Nat, v5 = .int .i64 k ∧ k ≤ ln ∧ wr = w5) (fun v5 _ => ln - (intOf v5).toNat)
          case atStart => exact ⟨0, rfl, Nat.zero_le _, rfl⟩
          case round =>
            obtain ⟨k, rfl, hk, hw⟩ := hrel
            obtain rfl := hw.symm
            have u1 : IntKind.i64.wrap ((i : Int) + k) = ((i + k : Nat) : Int) := by rw [IntKind.wrap_i64]; omega
            by_cases hkl : k < ln
            · have hik : i + k < O.length := by omega
              have d1 : w5.cell? ⟨g, off + (i + k), none⟩ = some (.int .i64 i) := CC.out _ _ (by
                have h1 := SM.out.cell OK.out (List.mem_of_getElem? Y.out) (i := i + k) ⟨by rw [YI.out]; omega, by rw [YI.out, ← LN.out]; omega⟩
                rw [h1, YI.out])
              go_wp2_with fail
              go_roundw
              case rel => exact ⟨k + 1, by go_num, by omega, by trivial⟩
              case measure => simp [intOf]; omega
            · obtain rfl : k = ln := by omega
              by_cases hik : i + k < O.length
              · obtain ⟨z, hz⟩ : ∃ z, O[i + k]? = some z := ⟨_, List.getElem?_eq_getElem hik⟩
                have d1 : w5.cell? ⟨g, off + (i + k), none⟩ = some (.int .i64 z) := CC.out _ _ hz
                have hzi : (z == (i : Int)) = false := by
                  refine beq_eq_false_iff_ne.2 ?_
                  have := SM.out.stop OK.out (List.mem_of_getElem? Y.out) (x := z) (by rw [YI.out, ← LN.out]; exact hz)
                  rw [YI.out] at this; exact this
                clear hz
                go_wp2_with fail
                go_meet
                case rel => exact ⟨rfl, by trivial⟩
              · go_wp2_with fail
                go_meet
                case rel => exact ⟨rfl, by trivial⟩
        case rest =>
          obtain ⟨rfl, hw5⟩ := hcut
          obtain rfl := hw5
          obtain ⟨w5, hw⟩ : ∃ w5 : World, w5 = wc := ⟨_, rfl⟩
          subst hw
          have F1 : Frm (fun _ => False) w5 (w5.alloc (.cells #[.int .i64 i] 3)) := (Frm.refl _ w5).alloc _
          have V1 := Troupe.hid (own_frm V.out F1 (fun _ _ h => h))
          have C1 := Troupe.hid (Blk.blk_cells (Blk.new w5 3 [.int .i64 i]))
          have hw1 : (w5.alloc (.cells #[.int .i64 i] 3)).heap.size = w5.heap.size + 1 := by simp
          have B1 := Troupe.hid (HB.out.alloc HB.out.size (.cells #[.int .i64 i] 3))
          have hbs := HB.out.size
          clear F1
          go_wp2_with (first
            | (at_builtin
               refine wpList_app rfl (.tmp 48) (.tmp 50) 39 rfl w.heap.size 3 info3 Try.underlying39 rfl (by decide) (.slice A3 (m * 2) c3) (m * 2) _ rfl V1.out (w5.heap.size + 1) (some ⟨w5.heap.size, 0, none⟩) 1 1 [.int .i64 i] rfl rfl C1.out (fun h => by cases h) (by simp [Value.oneCell']) (by omega) (by unfold maxLen; omega) (by omega) ?_
               intro v2 w2 h2
               obtain ⟨A4, c4, rfl, -⟩ := own_form h2.own
               have F2 : Frm (fun _ => False) w2 (w2.alloc (.cells #[.int .i64 (ln : Nat)] 3)) := (Frm.refl _ w2).alloc _
               have V3 := Troupe.hid (own_frm h2.own F2 (fun _ _ h => h))
               have C3 := Troupe.hid (Blk.blk_cells (Blk.new w2 3 [.int .i64 (ln : Nat)]))
               have B2 : Below w.heap.size w w2 := B1.out.trans (h2.frm.below B1.out.size (fun k hk => (V1.out.lt k hk).1))
               have B3 := Troupe.hid (B2.alloc B2.size (.cells #[.int .i64 (ln : Nat)] 3))
               have hbs2 := B2.size
               have hw3 : (w2.alloc (.cells #[.int .i64 (ln : Nat)] 3)).heap.size = w2.heap.size + 1 := by simp
               clear h2 F2 B2)
            | (at_builtin
               refine wpList_app rfl (.tmp 52) (.tmp 54) 39 rfl w.heap.size 3 info3 Try.underlying39 rfl (by decide) (.slice A4 (m * 2 + 1) c4) (m * 2 + 1) _ rfl V3.out (w2.heap.size + 1) (some ⟨w2.heap.size, 0, none⟩) 1 1 [.int .i64 (ln : Nat)] rfl rfl C3.out (fun h => by cases h) (by simp [Value.oneCell']) (by omega) (by unfold maxLen; omega) (by omega) ?_
               intro v6 w6 h6
               have H6 := Troupe.hid h6
               clear h6))
          go_roundw
          case rel =>
            refine ⟨i + 1, m + 1, by go_num, by omega, by omega, fun r hr => ?_, fun r hr => ?_, ?_, B3.out.trans (H6.out.frm.below B3.out.size (fun k hk => (V3.out.lt k hk).1))⟩
            · rw [List.take_add_one, Y.out] at hr
              rcases List.mem_append.1 hr with h | h
              · have := LO.out r h; omega
              · simp at h; subst h; rw [YI.out]; omega
            · have := DG.out r hr; rw [YI.out, ← LN.out] at this; omega
            · have h6 := H6.out.own
              rw [FT.out, show (m + 1) * 2 = m * 2 + 1 + 1 by omega, YI.out, ← LN.out]
              exact h6
          case measure => simp [intOf]; omega
      · have hxn : (x != (i : Int)) = true := bne_iff_ne.2 hxi
        have HI2 : Hid (∀ r ∈ L.drop m, i + 1 ≤ r.1) := by
          intro r hr
          have h1 := HI.out r hr
          have h2 : r.1 ≠ i := by
            intro e
            have hrL := List.mem_of_mem_drop hr
            have h3 := SM.out.cell OK.out hrL (i := i) ⟨by omega, by have := (OK.out.mem r hrL).2.1; omega⟩
            rw [X.out] at h3
            cases h3
            exact hxi (by omega)
          omega
        clear hxi
        go_wp2_with fail
        go_roundw
        case rel => exact ⟨i + 1, m, by go_num, by omega, hm, fun r hr => by have := LO.out r hr; omega, HI2.out, V.out, HB.out⟩
        case measure => simp [intOf]; omega
    · have hmL : m = L.length := by
        rcases Nat.lt_or_eq_of_le hm with h | h
        · have h1 := HI.out L[m] (by rw [List.mem_iff_getElem?]; exact ⟨0, by rw [List.getElem?_drop]; exact List.getElem?_eq_getElem h⟩)
          have h2 := OK.out.mem L[m] (List.getElem_mem h)
          omega
        · exact h
      subst hmL
      go_wp2_with fail
      go_ret
      exact ⟨A3, c3, rfl, by have := V.out; rwa [List.take_length] at this, HB.out⟩
end Go.Proofs.Ytcgdghnmcahfeaa
