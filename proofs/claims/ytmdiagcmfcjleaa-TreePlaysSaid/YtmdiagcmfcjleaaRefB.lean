/- The document's Add and Cut, by contracts. -/
import Derived.Test.YtmdiagcmfcjleaaRefA
namespace Go.Proofs.Ytmdiagcmfcjleaa
open Go.RowKit Go.Maps Go.Troupe

theorem info44 : (Try.prog.info? 44).map (fun i => (i.zero, i.size, i.bytes)) = some (some (.agg #[.int .i64 0, .int .i64 0]), 2, 16) := by kernel_rfl
/-- What the document's Add and Cut leave: a row that was there, or a new one. -/
def RStep (B : Nat) (A : Option Addr) (n c : Nat) (r : List Mb × Int) (w : World) (e : Ending) (w' : World) : Prop :=
  ∃ A' c', e = .returned (.tuple #[.slice A' r.1.length c', .int .i64 r.2]) ∧ w'.ownsRow B 44 2 (.slice A' r.1.length c') r.1.length (flatM r.1) ∧ Below w.heap.size w w' ∧
    ∀ b, (Value.slice A' r.1.length c').ownBlock = some b → (Value.slice A n c).ownBlock = some b ∨ w.heap.size ≤ b
section
variable {B : Nat} {A : Option Addr} {n c : Nat} {L : List Mb} {w : World}
set_option maxRecDepth 100000 in
set_option maxHeartbeats 2000000 in
theorem radd_any (par id : Int) (hl : L.length = n) (hn : n ≤ 1000) (ho : w.ownsRow B 44 2 (.slice A n c) n (flatM L)) (hB : B ≤ w.heap.size) :
    Calls Try.prog 15 #[.slice A n c, .int .i64 par, .int .i64 id] w (RStep B A n c (addV L par id) w) := by
  have C0 := Troupe.hid (own_cells ho)
  obtain ⟨_, _, he, _, _, _, hA, _⟩ := own_form ho
  cases he
  have A1 := Troupe.hid (fun k => at_any k A n c L w hl (by omega) C0.out)
  have OW := Troupe.hid ho
  have same : ∀ e0 : Int, addV L par id = (L, e0) → RStep B A n c (addV L par id) w (.returned (.tuple #[.slice A n c, .int .i64 e0])) w := fun e0 h => by
    rw [h]
    refine ⟨A, c, by rw [hl], ?_, Below.refl _ _, fun b hb => .inl (by rw [hl] at hb; exact hb)⟩
    rw [hl]; exact ho
  have SAME := Troupe.hid same
  clear ho same
  by_cases h1 : id < 1
  · have RES : Hid (addV L par id = (L, 1)) := by unfold Hid addV; rw [if_pos h1]
    go_enter Try.func15, Try.ntmps15
    go_wp2_with fail
    go_ret2
    exact SAME.out _ RES.out
  have AI := Troupe.hid (A1.out id)
  rcases posV_cases L id with ⟨hp, hv⟩ | ⟨k, y, hp, _, _, hv⟩
  · rw [hp] at AI
    by_cases h3 : par = 0 ∧ L ≠ []
    · have RES : Hid (addV L par id = (L, 4)) := by unfold Hid addV; rw [if_neg h1, if_neg (by rw [hv]; decide), if_pos h3]
      have hpos : (0 : Int) < (n : Int) := by
        have : L.length ≠ 0 := fun e => h3.2 (List.eq_nil_of_length_eq_zero e)
        omega
      obtain ⟨rfl, _⟩ := h3
      clear hp hv
      go_enter Try.func15, Try.ntmps15
      go_wp2_with fail
      refine AI.out.mono ?_
      rintro e w2 ⟨rfl, rfl⟩
      go_wp2_with fail
      go_ret2
      exact SAME.out _ RES.out
    have AP := Troupe.hid (A1.out par)
    have good : (par = 0 ∧ n = 0) ∨ (par ≠ 0 ∧ hasV L par = true) → addV L par id = (L ++ [(id, par)], 0) := fun hg => by
      unfold addV
      rw [if_neg h1, if_neg (by rw [hv]; decide), if_neg h3, if_neg (fun h => by rcases hg with ⟨h', _⟩ | ⟨_, h'⟩; exact h.1 h'; rw [h.2] at h'; cases h')]
    have GOOD := Troupe.hid good
    clear good
    have APP : Hid (addV L par id = (L ++ [(id, par)], 0) → ∀ (v1 : Value) (w1 : World), Appended w w1 w.heap.size 44 2 (.slice none 0 0) v1 n (flatM L) → ∀ (v2 : Value) (w2 : World), Appended (w1.alloc (.cells #[.int .i64 id, .int .i64 par] 44)) w2 w.heap.size 44 2 v1 v2 (n + 1) (flatM L ++ [.int .i64 id, .int .i64 par]) → RStep B A n c (addV L par id) w (.returned (.tuple #[v2, .int .i64 0])) w2) := by
      intro hr v1 w1 h1 v2 w2 h2
      rw [hr]
      have e1 : (L ++ [(id, par)]).length = n + 1 := by simp [hl]
      obtain ⟨A2, c2, rfl, -⟩ := own_form h2.own
      have b1 : Below w.heap.size w w1 := h1.frm.below (Nat.le_refl _) (fun k hk => by simp [Value.ownBlock] at hk)
      have b2 : Below w.heap.size w (w1.alloc (.cells #[.int .i64 id, .int .i64 par] 44)) := b1.alloc b1.size _
      have e2 : flatM (L ++ [(id, par)]) = flatM L ++ [.int .i64 id, .int .i64 par] := by rw [flatM_app]; rfl
      refine ⟨A2, c2, by rw [e1], ?_, b2.trans (h2.frm.below b2.size (fun k hk => (h1.own.lt k hk).1)), fun b hb => .inr ?_⟩
      · rw [e1, e2]; exact Go.Joins.ownsRow_le h2.own hB
      · rw [e1] at hb; exact (h2.own.lt b hb).1
    by_cases h4 : par = 0
    · have hn0 : n = 0 := by
        have : L = [] := Classical.byContradiction fun h => h3 ⟨h4, h⟩
        rw [← hl, this]; rfl
      subst hn0
      have RES := Troupe.hid (GOOD.out (.inl ⟨h4, rfl⟩))
      subst h4
      have LEN : Hid ((flatM L).length = 0 * 2) := by unfold Hid; rw [flatM_len, hl]
      have CZ : Hid (A = none → c = 0) := fun h => (hA h).2
      clear hA hp hv h3
      go_enter Try.func15, Try.ntmps15
      go_wp2_with fail
      refine AI.out.mono ?_
      rintro e w0 ⟨rfl, rfl⟩
      go_wp2_with (first
        | (at_builtin
           refine wpList_app rfl (.tmp 34) (.tmp 35) 35 rfl w0.heap.size 44 info44 Try.underlying35 rfl (by decide) (.slice none 0 0) 0 [] rfl (World.ownsRow_nil _ _ _ _) w0.heap.size A 0 c (flatM L) rfl LEN.out C0.out CZ.out (flatM_one L) (by omega) (by unfold maxLen; omega) (Nat.le_refl _) ?_
           intro v1 w1 h1
           rw [Nat.zero_add, List.nil_append] at h1
           obtain ⟨A1', c1', rfl, -⟩ := own_form h1.own
           have F1 : Frm (fun _ => False) w1 (w1.alloc (.cells #[.int .i64 id, .int .i64 0] 44)) := (Frm.refl _ w1).alloc _
           have V1 := Troupe.hid (own_frm h1.own F1 (fun _ _ h => h))
           have C1 := Troupe.hid (show Cells (w1.alloc (.cells #[.int .i64 id, .int .i64 0] 44)) (w1.heap.size + 1) (some ⟨w1.heap.size, 0, none⟩) [.int .i64 id, .int .i64 0] from Cells.blk (n := 2) (Blk.new w1 44 [.int .i64 id, .int .i64 0]) (Nat.lt_succ_self w1.heap.size))
           have hw1 : (w1.alloc (.cells #[.int .i64 id, .int .i64 0] 44)).heap.size = w1.heap.size + 1 := by simp
           have hbs := h1.frm.size
           have H1 := Troupe.hid h1
           clear h1 F1)
        | (at_builtin
           refine wpList_app rfl (.tmp 37) (.tmp 41) 35 rfl w0.heap.size 44 info44 Try.underlying35 rfl (by decide) (.slice A1' 0 c1') 0 _ rfl V1.out (w1.heap.size + 1) (some ⟨w1.heap.size, 0, none⟩) 1 1 [.int .i64 id, .int .i64 0] rfl rfl C1.out (fun h => by cases h) (by simp [Value.oneCell']) (by omega) (by unfold maxLen; omega) (by omega) ?_
           intro v2 w2 h2
           have H2 := Troupe.hid h2
           clear h2))
      go_ret2
      exact APP.out RES.out _ _ H1.out _ _ H2.out
    · have LEN : Hid ((flatM L).length = n * 2) := by unfold Hid; rw [flatM_len, hl]
      have CZ : Hid (A = none → c = 0) := fun h => (hA h).2
      have hb0 : (par == 0) = false := beq_eq_false_iff_ne.2 h4
      have hb1 : (par != 0) = true := bne_iff_ne.2 h4
      rcases posV_cases L par with ⟨hp2, hv2⟩ | ⟨k2, y2, hp2, _, _, hv2⟩
      · have RES : Hid (addV L par id = (L, 2)) := by unfold Hid addV; rw [if_neg h1, if_neg (by rw [hv]; decide), if_neg h3, if_pos ⟨h4, hv2⟩]
        rw [hp2] at AP
        clear hA hp hv h3 h4 hp2 hv2
        go_enter Try.func15, Try.ntmps15
        go_wp2_with fail
        refine AI.out.mono ?_
        rintro e w0 ⟨rfl, rfl⟩
        go_wp2_with fail
        refine AP.out.mono ?_
        rintro e w3 ⟨rfl, rfl⟩
        go_wp2_with fail
        go_ret2
        exact SAME.out _ RES.out
      · have RES := Troupe.hid (GOOD.out (.inr ⟨h4, hv2⟩))
        rw [hp2] at AP
        clear hA hp hv h3 h4 hp2 hv2
        go_enter Try.func15, Try.ntmps15
        go_wp2_with fail
        refine AI.out.mono ?_
        rintro e w0 ⟨rfl, rfl⟩
        go_wp2_with fail
        refine AP.out.mono ?_
        rintro e w3 ⟨rfl, rfl⟩
        go_wp2_with (first
          | (at_builtin
             refine wpList_app rfl (.tmp 34) (.tmp 35) 35 rfl w3.heap.size 44 info44 Try.underlying35 rfl (by decide) (.slice none 0 0) 0 [] rfl (World.ownsRow_nil _ _ _ _) w3.heap.size A n c (flatM L) rfl LEN.out C0.out CZ.out (flatM_one L) (by omega) (by unfold maxLen; omega) (Nat.le_refl _) ?_
             intro v1 w1 h1
             rw [Nat.zero_add, List.nil_append] at h1
             obtain ⟨A1', c1', rfl, -⟩ := own_form h1.own
             have F1 : Frm (fun _ => False) w1 (w1.alloc (.cells #[.int .i64 id, .int .i64 par] 44)) := (Frm.refl _ w1).alloc _
             have V1 := Troupe.hid (own_frm h1.own F1 (fun _ _ h => h))
             have C1 := Troupe.hid (show Cells (w1.alloc (.cells #[.int .i64 id, .int .i64 par] 44)) (w1.heap.size + 1) (some ⟨w1.heap.size, 0, none⟩) [.int .i64 id, .int .i64 par] from Cells.blk (n := 2) (Blk.new w1 44 [.int .i64 id, .int .i64 par]) (Nat.lt_succ_self w1.heap.size))
             have hw1 : (w1.alloc (.cells #[.int .i64 id, .int .i64 par] 44)).heap.size = w1.heap.size + 1 := by simp
             have hbs := h1.frm.size
             have H1 := Troupe.hid h1
             clear h1 F1)
          | (at_builtin
             refine wpList_app rfl (.tmp 37) (.tmp 41) 35 rfl w3.heap.size 44 info44 Try.underlying35 rfl (by decide) (.slice A1' n c1') n _ rfl V1.out (w1.heap.size + 1) (some ⟨w1.heap.size, 0, none⟩) 1 1 [.int .i64 id, .int .i64 par] rfl rfl C1.out (fun h => by cases h) (by simp [Value.oneCell']) (by omega) (by unfold maxLen; omega) (by omega) ?_
             intro v2 w2 h2
             have H2 := Troupe.hid h2
             clear h2))
        go_ret2
        exact APP.out RES.out _ _ H1.out _ _ H2.out
  · have RES : Hid (addV L par id = (L, 3)) := by unfold Hid addV; rw [if_neg h1, if_pos hv]
    rw [hp] at AI
    clear hp hv
    go_enter Try.func15, Try.ntmps15
    go_wp2_with fail
    refine AI.out.mono ?_
    rintro e w2 ⟨rfl, rfl⟩
    go_wp2_with fail
    go_ret2
    exact SAME.out _ RES.out

theorem filter_take (L : List Mb) (id : Int) (i : Nat) (x : Mb) (h : L[i]? = some x) : (L.take (i + 1)).filter (fun y => y.1 != id) = if x.1 = id then (L.take i).filter (fun y => y.1 != id) else (L.take i).filter (fun y => y.1 != id) ++ [x] := by
  rw [List.take_add_one, h, List.filter_append]
  by_cases h : x.1 = id <;> simp [h]
set_option maxRecDepth 100000 in
set_option maxHeartbeats 2000000 in
theorem rcut_any (id : Int) (hl : L.length = n) (hn : n ≤ 1000) (ho : w.ownsRow B 44 2 (.slice A n c) n (flatM L)) (hB : B ≤ w.heap.size) :
    Calls Try.prog 14 #[.slice A n c, .int .i64 id] w (RStep B A n c (cutV L id) w) := by
  have C0 := Troupe.hid (own_cells ho)
  have AI := Troupe.hid (at_any id A n c L w hl (by omega) C0.out)
  have KD := Troupe.hid (rkids_any id A n c L w hl (by omega) C0.out)
  have OW := Troupe.hid ho
  have same : ∀ (e0 : Int) (w' : World), Below w.heap.size w w' → cutV L id = (L, e0) → RStep B A n c (cutV L id) w (.returned (.tuple #[.slice A n c, .int .i64 e0])) w' := fun e0 w' hb h => by
    rw [h]
    refine ⟨A, c, by rw [hl], ?_, hb, fun b hb => .inl (by rw [hl] at hb; exact hb)⟩
    rw [hl]; exact own_below OW.out hb
  have SAME := Troupe.hid same
  clear ho same
  rcases posV_cases L id with ⟨hp, hv⟩ | ⟨k, y, hp, _, _, hv⟩
  · have RES : Hid (cutV L id = (L, 2)) := by unfold Hid cutV; rw [if_pos hv]
    rw [hp] at AI
    clear hp hv
    go_enter Try.func14, Try.ntmps14
    go_wp2_with fail
    refine AI.out.mono ?_
    rintro e w0 ⟨rfl, rfl⟩
    go_wp2_with fail
    go_ret2
    exact SAME.out _ _ (Below.refl _ _) RES.out
  rw [hp] at AI
  have hka : kidsA L id = kidsV L id := by unfold kidsA; rw [if_pos hv]
  rw [hka] at KD
  have hv' := Troupe.hid hv
  clear hp hv hka
  by_cases hk : 0 < (kidsV L id).length
  · have RES : Hid (cutV L id = (L, 6)) := by
      unfold Hid cutV
      rw [if_neg (by rw [hv'.out]; decide), if_pos (fun e => by rw [e] at hk; simp at hk)]
    go_enter Try.func14, Try.ntmps14
    go_wp2_with fail
    refine AI.out.mono ?_
    rintro e w0 ⟨rfl, rfl⟩
    go_wp2_with fail
    refine KD.out.mono ?_
    rintro e w1 ⟨A1, c1, rfl, _, hb⟩
    have HB := Troupe.hid hb
    clear hb
    go_wp2_with fail
    go_ret2
    exact SAME.out _ _ HB.out RES.out
  have hk0 : kidsV L id = [] := List.eq_nil_of_length_eq_zero (by omega)
  have RES : Hid (cutV L id = (L.filter (fun y => y.1 != id), 0)) := by
    unfold Hid cutV
    rw [if_neg (by rw [hv'.out]; decide), if_neg (fun e => e hk0)]
  rw [hk0] at KD
  clear hk hk0
  go_enter Try.func14, Try.ntmps14
  go_wp2_with fail
  refine AI.out.mono ?_
  rintro e w0 ⟨rfl, rfl⟩
  go_wp2_with fail
  refine KD.out.mono ?_
  rintro e w1 ⟨A1, c1, rfl, _, hb⟩
  have HB1 := Troupe.hid hb
  clear hb
  go_wp2_with fail
  go_loopw [6, 7] (fun v6 v7 wr => ∃ i : Nat, v7 = .int .i64 i ∧ i ≤ n ∧ wr.ownsRow w0.heap.size 44 2 v6 ((L.take i).filter (fun y => y.1 != id)).length (flatM ((L.take i).filter (fun y => y.1 != id))) ∧ Below w0.heap.size w0 wr) (fun _ v7 _ => n - (intOf v7).toNat)
  case atStart => exact ⟨0, rfl, Nat.zero_le _, World.ownsRow_nil _ _ _ _, HB1.out⟩
  case round =>
    obtain ⟨i, rfl, hi, ho, hb⟩ := hrel
    obtain ⟨A6, c6, rfl, -⟩ := own_form ho
    have O6 := Troupe.hid ho
    have HB := Troupe.hid hb
    clear ho hb
    by_cases hlt : i < n
    · obtain ⟨x, hx⟩ : ∃ x, L[i]? = some x := ⟨_, List.getElem?_eq_getElem (by omega)⟩
      obtain ⟨b, o, hA, d0, d1⟩ := mb_at C0.out (Nat.le_refl _) HB.out hx
      subst hA
      have FT := Troupe.hid (filter_take L id i x hx)
      have hfl := List.length_filter_le (fun y : Mb => y.1 != id) (L.take i)
      rw [List.length_take] at hfl
      clear hx
      by_cases he : x.1 = id
      · have heb : (x.1 != id) = false := by simp [he]
        rw [if_pos he] at FT
        clear he
        go_wp2_with fail
        go_roundw
        case rel => exact ⟨i + 1, by go_num, by omega, by rw [FT.out]; exact O6.out, HB.out⟩
        case measure => simp [intOf]; omega
      · have heb : (x.1 != id) = true := bne_iff_ne.2 he
        rw [if_neg he] at FT
        clear he
        obtain ⟨q, hq⟩ : ∃ q, q = ((L.take i).filter (fun y => y.1 != id)).length := ⟨_, rfl⟩
        rw [← hq] at O6 hfl ⊢
        have HQ := Troupe.hid hq
        clear hq
        have F1 : Frm (fun _ => False) wr (wr.alloc (.cells #[.int .i64 x.1, .int .i64 x.2] 44)) := (Frm.refl _ wr).alloc _
        have V1 := Troupe.hid (own_frm O6.out F1 (fun _ _ h => h))
        have B1 := Troupe.hid (HB.out.trans (F1.below HB.out.size (fun _ h => h.elim)))
        have C1 := Troupe.hid (show Cells (wr.alloc (.cells #[.int .i64 x.1, .int .i64 x.2] 44)) (wr.heap.size + 1) (some ⟨wr.heap.size, 0, none⟩) [.int .i64 x.1, .int .i64 x.2] from Cells.blk (n := 2) (Blk.new wr 44 [.int .i64 x.1, .int .i64 x.2]) (Nat.lt_succ_self wr.heap.size))
        have hw1 : (wr.alloc (.cells #[.int .i64 x.1, .int .i64 x.2] 44)).heap.size = wr.heap.size + 1 := by simp
        have hbs := HB.out.size
        clear F1
        go_wp2_with (at_builtin; refine wpList_app rfl (.tmp 32) (.tmp 37) 35 rfl w0.heap.size 44 info44 Try.underlying35 rfl (by decide) (.slice A6 q c6) q _ rfl V1.out (wr.heap.size + 1) (some ⟨wr.heap.size, 0, none⟩) 1 1 [.int .i64 x.1, .int .i64 x.2] rfl rfl C1.out (fun h => by cases h) (by simp [Value.oneCell']) (by omega) (by unfold maxLen; omega) (by omega) ?_; intro v2 w5 h5; have H5 := Troupe.hid h5; clear h5)
        go_roundw
        case rel =>
          refine ⟨i + 1, by go_num, by omega, ?_, B1.out.trans (H5.out.frm.below B1.out.size (fun k hk => (V1.out.lt k hk).1))⟩
          rw [FT.out, List.length_append, List.length_singleton, ← HQ.out, flatM_app]
          exact H5.out.own
        case measure => simp [intOf]; omega
    · have e : (L.take i).filter (fun y => y.1 != id) = L.filter (fun y => y.1 != id) := by rw [List.take_of_length_le (by omega)]
      rw [e] at O6 ⊢
      go_wp2_with fail
      go_ret2
      rw [RES.out]
      exact ⟨A6, c6, rfl, Go.Joins.ownsRow_le O6.out hB, HB.out, fun b hb => .inr (O6.out.lt b hb).1⟩
end
end Go.Proofs.Ytmdiagcmfcjleaa
