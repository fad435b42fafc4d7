/- The document's Below, by contract. -/
import Derived.Test.YtmdiagcmfcjleaaRefC
namespace Go.Proofs.Ytmdiagcmfcjleaa
open Go.RowKit Go.Maps Go.Troupe

theorem wordsI_one' (l : List Int) : ∀ u ∈ wordsI l, u.oneCell' = true := by
  intro u hu
  obtain ⟨x, _, rfl⟩ := List.mem_map.1 hu
  rfl
set_option maxRecDepth 100000 in
set_option maxHeartbeats 2000000 in
theorem rpost_any (A : Option Addr) (n c : Nat) (L : List Mb) (hl : L.length = n) (hn : n ≤ 1000) : ∀ (f : Nat) (id : Int) (w : World), Hgt L f id → hasV L id = true → (post L f id).length ≤ 1000000000 → Cells w w.heap.size A (flatM L) →
    Calls Try.prog 28 #[.slice A n c, .int .i64 id] w (Row w (post L f id))
  | 0, id, w, hh, _, _, _ => hh.elim
  | f + 1, id, w, hh, hv, hsz, hc => by
    have IH := Troupe.hid (rpost_any A n c L hl hn f)
    have C0 := Troupe.hid hc
    have AI := Troupe.hid (at_any id A n c L w hl (by omega) hc)
    have KD := Troupe.hid (rkids_any id A n c L w hl (by omega) hc)
    have hka : kidsA L id = kidsV L id := by unfold kidsA; rw [if_pos hv]
    rw [hka] at KD
    have HH := Troupe.hid (show ∀ k ∈ kidsV L id, Hgt L f k from hh)
    have KM : Hid (∀ k ∈ kidsV L id, hasV L k = true) := fun k hk => hasV_mem (mem_kidsV.1 hk)
    have hkl : (kidsV L id).length ≤ L.length := by unfold kidsV; rw [List.length_map]; exact List.length_filter_le _ _
    have hpost : post L (f + 1) id = (kidsV L id).flatMap (post L f) ++ [id] := rfl
    rw [hpost] at hsz ⊢
    rw [List.length_append, List.length_singleton] at hsz
    rcases posV_cases L id with ⟨_, hv'⟩ | ⟨k0, y0, hp, _, _, _⟩
    · rw [hv] at hv'; cases hv'
    rw [hp] at AI
    clear hc hh hv hka hpost hp
    generalize kidsV L id = K at *
    go_enter Try.func28, Try.ntmps28
    go_wp2_with fail
    refine AI.out.mono ?_
    rintro e w1 ⟨rfl, rfl⟩
    go_wp2_with fail
    refine KD.out.mono ?_
    rintro e wk ⟨Ak, ck, rfl, hko, hkb⟩
    have KC := Troupe.hid (own_cells hko)
    have KB := Troupe.hid hkb
    have hkbs := hkb.size
    clear hko hkb
    go_wp2_with fail
    obtain ⟨kn, hkn⟩ : ∃ kn, kn = K.length := ⟨_, rfl⟩
    rw [← hkn] at hkl ⊢
    have KN := Troupe.hid hkn
    clear hkn
    go_loopw [5, 7] (fun v5 v7 wr => ∃ j : Nat, j ≤ kn ∧ v7 = .int .i64 j ∧ wr.ownsRow wk.heap.size 3 1 v5 ((K.take j).flatMap (post L f)).length (wordsI ((K.take j).flatMap (post L f))) ∧ Below wk.heap.size wk wr) (fun _ v7 _ => kn - (intOf v7).toNat)
    case atStart => exact ⟨0, Nat.zero_le _, rfl, World.ownsRow_nil _ _ _ _, Below.refl _ _⟩
    case round =>
      obtain ⟨j, hj, rfl, ho, hb⟩ := hrel
      obtain ⟨A5, c5, rfl, -⟩ := own_form ho
      have BE := Troupe.hid hb
      have hbs := hb.size
      by_cases hlt : j < kn
      · obtain ⟨k, hk⟩ : ∃ k, K[j]? = some k := ⟨_, List.getElem?_eq_getElem (by rw [← KN.out]; exact hlt)⟩
        have hxw := wordsI_at K j k hk
        obtain ⟨b1, o1, hA1, _, g1⟩ := (KC.out.below hb).at_ (by intro e; rw [e] at hxw; simp at hxw)
        subst hA1
        have d1 : wr.cell? ⟨b1, o1 + j, none⟩ = some (.int .i64 k) := g1 j _ hxw
        have hft := flatMap_take (post L f) K j k hk
        have hle := flatMap_take_le (post L f) K (j + 1)
        rw [hft, List.length_append] at hle
        have hmem := List.mem_of_getElem? hk
        have B1 : Below w1.heap.size w1 wr := KB.out.trans (hb.mono hkbs)
        have CL := Troupe.hid (IH.out k wr (HH.out k hmem) (KM.out k hmem) (by omega) ((C0.out.below B1).mono B1.size))
        have FT := Troupe.hid hft
        obtain ⟨q, hq⟩ : ∃ q, q = ((K.take j).flatMap (post L f)).length := ⟨_, rfl⟩
        obtain ⟨q2, hq2⟩ : ∃ q2, q2 = (post L f k).length := ⟨_, rfl⟩
        rw [← hq] at ho hle ⊢
        rw [← hq2] at hle
        have HO := Troupe.hid ho
        have HQ := Troupe.hid hq
        have HQ2 := Troupe.hid hq2
        clear g1 hxw hk hft hmem hb ho B1 hq hq2
        go_wp2_with fail
        refine CL.out.mono ?_
        rintro e w2 ⟨A2, c2, rfl, ho2, hb2⟩
        rw [← HQ2.out] at ho2 ⊢
        have V1 := Troupe.hid (own_below HO.out hb2)
        have C1 := Troupe.hid (own_cells ho2)
        have N1 := Troupe.hid (show A2 = none → c2 = 0 from by obtain ⟨_, _, he, _, _, _, hA, _⟩ := own_form ho2; cases he; exact fun h => (hA h).2)
        have B2 := Troupe.hid (BE.out.trans (hb2.mono hbs))
        have hbs2 := hb2.size
        clear ho2 hb2 d1
        go_wp2_with (at_builtin; refine wpList_app rfl (.tmp 21) (.tmp 27) 25 rfl wk.heap.size 3 info3 Try.underlying25 rfl (by decide) (.slice A5 q c5) q _ rfl V1.out w2.heap.size A2 q2 c2 (wordsI (post L f k)) rfl (by rw [HQ2.out]; simp [wordsI]) C1.out N1.out (wordsI_one' _) (by omega) (by unfold maxLen; omega) (by omega) ?_; intro v2 w5 h5; have H5 := Troupe.hid h5; clear h5)
        go_roundw
        case rel =>
          refine ⟨j + 1, by omega, by go_num, ?_, B2.out.trans (H5.out.frm.below B2.out.size (fun k hk => (V1.out.lt k hk).1))⟩
          rw [FT.out, List.length_append, ← HQ.out, ← HQ2.out]
          have e : ∀ a b : List Int, wordsI (a ++ b) = wordsI a ++ wordsI b := fun a b => by simp [wordsI]
          rw [e]; exact H5.out.own
        case measure => simp [intOf]; omega
      · have hle := flatMap_take_le (post L f) K j
        have e : K.take j = K := List.take_of_length_le (by rw [← KN.out]; omega)
        rw [e] at ho hle ⊢
        obtain ⟨q, hq⟩ : ∃ q, q = (K.flatMap (post L f)).length := ⟨_, rfl⟩
        rw [← hq] at ho hle hsz ⊢
        have HQ := Troupe.hid hq
        have F1 : Frm (fun _ => False) wr (wr.alloc (.cells #[.int .i64 id] 3)) := (Frm.refl _ wr).alloc _
        have V1 := Troupe.hid (own_frm ho F1 (fun _ _ h => h))
        have B1 := Troupe.hid (BE.out.trans (F1.below hbs (fun _ h => h.elim)))
        have C1 := Troupe.hid (show Cells (wr.alloc (.cells #[.int .i64 id] 3)) (wr.heap.size + 1) (some ⟨wr.heap.size, 0, none⟩) [.int .i64 id] from Cells.blk (n := 1) (Blk.new wr 3 [.int .i64 id]) (Nat.lt_succ_self wr.heap.size))
        have hw1 : (wr.alloc (.cells #[.int .i64 id] 3)).heap.size = wr.heap.size + 1 := by simp
        clear F1 hb e ho hq
        go_wp2_with (at_builtin; refine wpList_app rfl (.tmp 29) (.tmp 31) 25 rfl wk.heap.size 3 info3 Try.underlying25 rfl (by decide) (.slice A5 q c5) q _ rfl V1.out (wr.heap.size + 1) (some ⟨wr.heap.size, 0, none⟩) 1 1 [.int .i64 id] rfl rfl C1.out (fun h => by cases h) (by simp [Value.oneCell']) (by omega) (by unfold maxLen; omega) (by omega) ?_; intro v2 w5 h5; obtain ⟨A4, c4, rfl, -⟩ := own_form h5.own; have H5 := Troupe.hid h5; clear h5)
        go_ret
        have hlen : (K.flatMap (post L f) ++ [id]).length = q + 1 := by rw [List.length_append, List.length_singleton, ← HQ.out]
        refine ⟨A4, c4, by rw [hlen]; rfl, ?_, KB.out.trans ((B1.out.trans (H5.out.frm.below B1.out.size (fun k hk => (V1.out.lt k hk).1))).mono hkbs)⟩
        rw [List.length_append, List.length_singleton, ← HQ.out]
        have e : wordsI (K.flatMap (post L f) ++ [id]) = wordsI (K.flatMap (post L f)) ++ [.int .i64 id] := by simp [wordsI]
        rw [e]; exact Go.Joins.ownsRow_le H5.out.own hkbs
set_option maxRecDepth 100000 in
theorem rbelow_any (A : Option Addr) (n c : Nat) (L : List Mb) (hl : L.length = n) (hn : n ≤ 1000) (f : Nat) (id : Int) (w : World) (hh : hasV L id = true → Hgt L f id) (hsz : (post L f id).length ≤ 1000000000) (hc : Cells w w.heap.size A (flatM L)) :
    Calls Try.prog 28 #[.slice A n c, .int .i64 id] w (Row w (belowV L f id)) := by
  cases hv : hasV L id with
  | true =>
    have e : belowV L f id = post L f id := by unfold belowV; rw [if_pos hv]
    rw [e]
    exact rpost_any A n c L hl hn f id w (hh hv) hv hsz hc
  | false =>
    have e : belowV L f id = [] := by unfold belowV; rw [if_neg (by rw [hv]; decide)]
    rw [e]
    have AI := Troupe.hid (at_any id A n c L w hl (by omega) hc)
    rcases posV_cases L id with ⟨hp, _⟩ | ⟨_, _, _, _, _, hv'⟩
    · rw [hp] at AI
      clear hv hh hsz hc hp e
      go_enter Try.func28, Try.ntmps28
      go_wp2_with fail
      refine AI.out.mono ?_
      rintro e w1 ⟨rfl, rfl⟩
      go_wp2_with fail
      go_ret
      exact ⟨none, 0, rfl, World.ownsRow_nil _ _ _ _, Below.refl _ _⟩
    · rw [hv] at hv'; cases hv'
end Go.Proofs.Ytmdiagcmfcjleaa
