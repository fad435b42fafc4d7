/- The document's Path and Below, by contracts. -/
import Derived.Test.YtmdiagcmfcjleaaRefB
namespace Go.Proofs.Ytmdiagcmfcjleaa
open Go.RowKit Go.Maps Go.Troupe

theorem Chain.none {M : List Mb} {cur : Int} {rest : List Int} (h : Chain M cur rest) (hv : hasV M cur = false) : rest = [] := by
  cases rest with
  | nil => rfl
  | cons k l =>
    obtain ⟨rfl, par, hm, _⟩ := h
    rw [hasV_mem hm] at hv; cases hv
theorem Chain.some {M : List Mb} (hM : Vd [] M) {cur : Int} {rest : List Int} (h : Chain M cur rest) {y : Mb} (hy : y ∈ M) (he : y.1 = cur) : ∃ rest', rest = cur :: rest' ∧ Chain M y.2 rest' := by
  cases rest with
  | nil => have h' : hasV M cur = false := h; rw [show hasV M cur = true from hasV_iff.2 ⟨y, hy, he⟩] at h'; cases h'
  | cons k l =>
    obtain ⟨rfl, par, hm, hc⟩ := h
    have := hM.inj y hy _ hm he
    subst this
    exact ⟨l, rfl, hc⟩
set_option maxRecDepth 100000 in
set_option maxHeartbeats 2000000 in
theorem rpath_any (id : Int) (A : Option Addr) (n c : Nat) (L : List Mb) (l : List Int) (w : World) (hl : L.length = n) (hn : n ≤ 1000) (hM : Vd [] L) (hch : Chain L id l) (hll : l.length ≤ 100000) (hc : Cells w w.heap.size A (flatM L)) :
    Calls Try.prog 27 #[.slice A n c, .int .i64 id] w (Row w l.reverse) := by
  have C0 := Troupe.hid hc
  have CH := Troupe.hid hch
  have VD := Troupe.hid hM
  have AT := Troupe.hid (fun (k : Int) (w' : World) (hb : Below w.heap.size w w') => at_any k A n c L w' hl (by omega) ((C0.out.below hb).mono hb.size))
  clear hc hch hM
  go_enter Try.func27, Try.ntmps27
  go_wp2_with fail
  refine (AT.out id w (Below.refl _ _)).mono ?_
  rintro e w1 ⟨rfl, rfl⟩
  go_wp2_with fail
  go_loopw [5, 6] (fun v5 v6 wr => ∃ (cur : Int) (dn rest : List Int), v6 = .int .i64 (posV L cur) ∧ Chain L cur rest ∧ l = dn ++ rest ∧ wr.ownsRow w1.heap.size 3 1 v5 dn.length (wordsI dn) ∧ Below w1.heap.size w1 wr) (fun v5 _ _ => l.length - lenOf v5)
  case atStart => exact ⟨id, [], l, rfl, CH.out, rfl, World.ownsRow_nil _ _ _ _, Below.refl _ _⟩
  case round =>
    obtain ⟨cur, dn, rest, rfl, hch, hdr, ho, hb⟩ := hrel
    obtain ⟨A5, c5, rfl, -⟩ := own_form ho
    have OW := Troupe.hid ho
    have BE := Troupe.hid hb
    have DR := Troupe.hid hdr
    have hll : dn.length + rest.length ≤ 100000 := by rw [hdr, List.length_append] at hll; exact hll
    rcases posV_cases L cur with ⟨hp, hv⟩ | ⟨k, y, hp, hk, hy, hv⟩
    · have RN := Troupe.hid (hch.none hv)
      have CU := Troupe.hid (own_cells ho)
      have hbu := hb.size
      rw [hp]
      obtain ⟨m0, hm0⟩ : ∃ m0, m0 = dn.length := ⟨_, rfl⟩
      have DN : dn.length = m0 := hm0.symm
      rw [DN] at hll ⊢
      have DNH := Troupe.hid DN
      clear hch ho hb hdr hp hv hm0 DN
      obtain ⟨wu, hwu⟩ : ∃ wu, wu = wr := ⟨_, rfl⟩
      rw [← hwu] at CU BE OW hbu ⊢
      clear hwu
      go_wp2_with fail
      go_loopw [7, 8] (fun v7 v8 wr => ∃ m : Nat, v8 = .int .i64 ((m : Int) - 1) ∧ m ≤ m0 ∧ wr.ownsRow wu.heap.size 3 1 v7 (dn.drop m).reverse.length (wordsI (dn.drop m).reverse) ∧ Below wu.heap.size wu wr) (fun _ v8 _ => (intOf v8 + 1).toNat)
      case atStart => exact ⟨m0, by go_num, Nat.le_refl _, by rw [List.drop_of_length_le (by rw [DNH.out]; exact Nat.le_refl _)]; exact World.ownsRow_nil _ _ _ _, Below.refl _ _⟩
      case round =>
        obtain ⟨m, rfl, hm, ho, hb⟩ := hrel
        obtain ⟨A7, c7, rfl, -⟩ := own_form ho
        have O7 := Troupe.hid ho
        have B7 := Troupe.hid hb
        have hbs := hb.size
        clear ho
        cases m with
        | zero =>
          clear hb
          have hneg : ¬ (0 : Int) ≤ ((0 : Nat) : Int) - 1 := by omega
          go_wp2_with fail
          go_ret
          have e : l = dn := by rw [DR.out, RN.out, List.append_nil]
          subst e
          refine ⟨A7, c7, ?_, ?_, BE.out.trans (B7.out.mono hbu)⟩
          · simp
          · exact Go.Joins.ownsRow_le O7.out hbu
        | succ k =>
          rw [show ((k + 1 : Nat) : Int) - 1 = (k : Int) by omega]
          obtain ⟨x, hx⟩ : ∃ x, dn[k]? = some x := ⟨_, List.getElem?_eq_getElem (by rw [DNH.out]; omega)⟩
          have hxw := wordsI_at dn k x hx
          obtain ⟨b5, o5, hA5, hb5, g5⟩ := (CU.out.below hb).at_ (by intro e; rw [e] at hxw; simp at hxw)
          subst hA5
          have d5 := g5 _ _ hxw
          have RV : Hid ((dn.drop k).reverse = (dn.drop (k + 1)).reverse ++ [x]) := by
            unfold Hid
            rw [List.drop_eq_getElem?_toList_append, hx]
            simp
          have hrl : ((dn.drop (k + 1)).reverse).length ≤ 100000 := by rw [List.length_reverse, List.length_drop, DNH.out]; omega
          obtain ⟨q, hq⟩ : ∃ q, q = ((dn.drop (k + 1)).reverse).length := ⟨_, rfl⟩
          rw [← hq] at O7 hrl ⊢
          have HQ := Troupe.hid hq
          have F1 : Frm (fun _ => False) wr (wr.alloc (.cells #[.int .i64 x] 3)) := (Frm.refl _ wr).alloc _
          have V1 := Troupe.hid (own_frm O7.out F1 (fun _ _ h => h))
          have B1 := Troupe.hid (B7.out.trans (F1.below hbs (fun _ h => h.elim)))
          have C1 := Troupe.hid (show Cells (wr.alloc (.cells #[.int .i64 x] 3)) (wr.heap.size + 1) (some ⟨wr.heap.size, 0, none⟩) [.int .i64 x] from Cells.blk (n := 1) (Blk.new wr 3 [.int .i64 x]) (Nat.lt_succ_self wr.heap.size))
          have hw1 : (wr.alloc (.cells #[.int .i64 x] 3)).heap.size = wr.heap.size + 1 := by simp
          have hkm : k < m0 := by omega
          clear F1 hb hx hxw g5 hq hm
          go_wp2_with (at_builtin; refine wpList_app rfl (.tmp 36) (.tmp 41) 25 rfl wu.heap.size 3 info3 Try.underlying25 rfl (by decide) (.slice A7 q c7) q _ rfl V1.out (wr.heap.size + 1) (some ⟨wr.heap.size, 0, none⟩) 1 1 [.int .i64 x] rfl rfl C1.out (fun h => by cases h) (by simp [Value.oneCell']) (by omega) (by unfold maxLen; omega) (by omega) ?_; intro v2 w5 h5; have H5 := Troupe.hid h5; clear h5)
          go_roundw
          case rel =>
            refine ⟨k, by go_num, by omega, ?_, B1.out.trans (H5.out.frm.below B1.out.size (fun k hk => (V1.out.lt k hk).1))⟩
            rw [RV.out, List.length_append, List.length_singleton, ← HQ.out]
            have e : wordsI ((dn.drop (k + 1)).reverse ++ [x]) = wordsI (dn.drop (k + 1)).reverse ++ [.int .i64 x] := by simp [wordsI]
            rw [e]; exact H5.out.own
          case measure => simp [intOf]
    · obtain ⟨rest', rfl, hch2⟩ := hch.some VD.out (List.mem_of_getElem? hk) hy
      obtain ⟨b, o, hA, d0, d1⟩ := mb_at C0.out (Nat.le_refl _) hb hk
      subst hA
      rw [hp]
      have hkn : k < n := by have := (List.getElem?_eq_some_iff.1 hk).1; omega
      obtain ⟨q, hq⟩ : ∃ q, q = dn.length := ⟨_, rfl⟩
      rw [← hq] at ho hll ⊢
      have HQ := Troupe.hid hq
      have F1 : Frm (fun _ => False) wr (wr.alloc (.cells #[.int .i64 y.1] 3)) := (Frm.refl _ wr).alloc _
      have V1 := Troupe.hid (own_frm ho F1 (fun _ _ h => h))
      have B1 := Troupe.hid (BE.out.trans (F1.below BE.out.size (fun _ h => h.elim)))
      have C1 := Troupe.hid (show Cells (wr.alloc (.cells #[.int .i64 y.1] 3)) (wr.heap.size + 1) (some ⟨wr.heap.size, 0, none⟩) [.int .i64 y.1] from Cells.blk (n := 1) (Blk.new wr 3 [.int .i64 y.1]) (Nat.lt_succ_self wr.heap.size))
      have hw1 : (wr.alloc (.cells #[.int .i64 y.1] 3)).heap.size = wr.heap.size + 1 := by simp
      have hbs := BE.out.size
      have CH2 := Troupe.hid hch2
      have HK := Troupe.hid hk
      have HY := Troupe.hid hy
      rw [List.length_cons] at hll
      clear F1 ho hb hdr hch hch2 hk hy hv hp hq
      go_wp2_with (at_builtin
                   refine wpList_app rfl (.tmp 21) (.tmp 27) 25 rfl w1.heap.size 3 info3 Try.underlying25 rfl (by decide) (.slice A5 q c5) q _ rfl V1.out (wr.heap.size + 1) (some ⟨wr.heap.size, 0, none⟩) 1 1 [.int .i64 y.1] rfl rfl C1.out (fun h => by cases h) (by simp [Value.oneCell']) (by omega) (by unfold maxLen; omega) (by omega) ?_
                   intro v2 w5 h5
                   have B5 := Troupe.hid (B1.out.trans (h5.frm.below B1.out.size (fun k hk => (V1.out.lt k hk).1)))
                   obtain ⟨b', o', hA', d2, d3⟩ := mb_at C0.out (Nat.le_refl _) B5.out HK.out
                   obtain ⟨A4, c4, rfl, -⟩ := own_form h5.own
                   have he' : b = b' ∧ o = o' := by simpa using hA'
                   obtain ⟨rfl, rfl⟩ := he'
                   have H5 := Troupe.hid h5
                   clear h5 hA')
      refine (AT.out y.2 w5 B5.out).mono ?_
      rintro e w6 ⟨rfl, rfl⟩
      go_wp2_with fail
      go_roundw
      case rel =>
        refine ⟨y.2, dn ++ [cur], rest', rfl, CH2.out, by rw [DR.out]; simp, ?_, B5.out⟩
        have e : wordsI (dn ++ [cur]) = wordsI dn ++ [.int .i64 cur] := by simp [wordsI]
        rw [e, List.length_append, List.length_singleton, ← HQ.out]
        have := H5.out.own
        rw [HY.out] at this; exact this
      case measure => have := congrArg List.length DR.out; rw [List.length_append, List.length_cons] at this; have hq' := HQ.out; simp only [lenOf]; omega
end Go.Proofs.Ytmdiagcmfcjleaa
