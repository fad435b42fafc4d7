/- The document's tree: a row of members; At, Kids, Add and Cut by contracts. -/
import Derived.Test.YtmdiagcmfcjleaaPaths
namespace Go.Proofs.Ytmdiagcmfcjleaa
open Go.RowKit Go.Maps Go.Troupe

def flatM (l : List Mb) : List Value := l.flatMap fun x => [.int .i64 x.1, .int .i64 x.2]
theorem flatM_len (l : List Mb) : (flatM l).length = l.length * 2 := by
  induction l with
  | nil => rfl
  | cons x l ih => simp [flatM] at ih ⊢; omega
theorem flatM_app (a b : List Mb) : flatM (a ++ b) = flatM a ++ flatM b := by simp [flatM]
theorem flatM_at : ∀ (l : List Mb) (i : Nat) (x : Mb), l[i]? = some x → (flatM l)[i * 2]? = some (.int .i64 x.1) ∧ (flatM l)[i * 2 + 1]? = some (.int .i64 x.2)
  | [], i, x, h => by simp at h
  | y :: l, 0, x, h => by
    simp at h; subst h
    simp [flatM]
  | y :: l, i + 1, x, h => by
    obtain ⟨h0, h1⟩ := flatM_at l i x (by simpa using h)
    have e : flatM (y :: l) = [.int .i64 y.1, .int .i64 y.2] ++ flatM l := rfl
    refine ⟨?_, ?_⟩
    · rw [e, List.getElem?_append_right (by simp; omega)]
      simpa [show (i + 1) * 2 - 2 = i * 2 by omega] using h0
    · rw [e, List.getElem?_append_right (by simp; omega)]
      simpa [show (i + 1) * 2 + 1 - 2 = i * 2 + 1 by omega] using h1
theorem flatM_one (l : List Mb) : ∀ u ∈ flatM l, u.oneCell' = true := by
  intro u hu
  unfold flatM at hu
  obtain ⟨x, _, hx⟩ := List.mem_flatMap.1 hu
  simp at hx
  rcases hx with rfl | rfl <;> rfl
theorem mb_at {w w' : World} {B : Nat} {A : Option Addr} {L : List Mb} (h : Cells w B A (flatM L)) (hB : B ≤ w.heap.size) (hb : Below w.heap.size w w') {i : Nat} {x : Mb} (hx : L[i]? = some x) :
    ∃ b o, A = some ⟨b, o, none⟩ ∧ w'.cell? ⟨b, o + i * 2, none⟩ = some (.int .i64 x.1) ∧ w'.cell? ⟨b, o + i * 2 + 1, none⟩ = some (.int .i64 x.2) := by
  obtain ⟨h0, h1⟩ := flatM_at L i x hx
  obtain ⟨b, o, hA, hbB, hc⟩ := h.at_ (by intro e; rw [e] at h0; simp at h0)
  exact ⟨b, o, hA, (hb.cell (by show b < _; omega)).trans (hc _ _ h0), by rw [Nat.add_assoc]; exact (hb.cell (by show b < _; omega)).trans (hc _ _ h1)⟩
def posV (L : List Mb) (id : Int) : Int := match L.findIdx? (fun x => x.1 == id) with | some i => i | none => -1
theorem posV_none {L : List Mb} {id : Int} (h : ∀ x ∈ L, (x.1 == id) = false) : posV L id = -1 := by
  have : L.findIdx? (fun x => x.1 == id) = none := List.findIdx?_eq_none_iff.2 h
  simp [posV, this]
theorem posV_some {L : List Mb} {id : Int} {i : Nat} {x : Mb} (hx : L[i]? = some x) (h : x.1 = id) (hl : ∀ y ∈ L.take i, (y.1 == id) = false) : posV L id = i := by
  have : L.findIdx? (fun x => x.1 == id) = some i := by
    have hi := (List.getElem?_eq_some_iff.1 hx).1
    rw [List.findIdx?_eq_some_iff_getElem]
    refine ⟨hi, by rw [(List.getElem?_eq_some_iff.1 hx).2]; simp [h], fun j hj => ?_⟩
    have := hl (L[j]'(by omega)) (by
      rw [List.mem_iff_getElem?]
      exact ⟨j, by rw [List.getElem?_take, if_pos hj]; simp⟩)
    simpa using this
  simp [posV, this]
theorem posV_cases (L : List Mb) (id : Int) : (posV L id = -1 ∧ hasV L id = false) ∨ ∃ (i : Nat) (x : Mb), posV L id = i ∧ L[i]? = some x ∧ x.1 = id ∧ hasV L id = true := by
  unfold posV
  cases h : L.findIdx? (fun x => x.1 == id) with
  | none => exact .inl ⟨rfl, hasV_not.2 fun x hx e => by have := List.findIdx?_eq_none_iff.1 h x hx; simp [e] at this⟩
  | some i =>
    obtain ⟨hi, h1, _⟩ := List.findIdx?_eq_some_iff_getElem.1 h
    exact .inr ⟨i, L[i], rfl, List.getElem?_eq_getElem hi, by simpa using h1, hasV_iff.2 ⟨L[i], List.getElem_mem hi, by simpa using h1⟩⟩
set_option maxRecDepth 100000 in
theorem at_any (id : Int) (A : Option Addr) (n c : Nat) (L : List Mb) (w : World) (hl : L.length = n) (hn : n ≤ 65536) (hc : Cells w w.heap.size A (flatM L)) :
    Calls Try.prog 25 #[.slice A n c, .int .i64 id] w fun e w' => e = .returned (.int .i64 (posV L id)) ∧ w' = w := by
  have C0 := Troupe.hid hc
  clear hc
  go_enter Try.func25, Try.ntmps25
  go_wp2_with fail
  go_loopw [5] (fun v5 wr => ∃ i : Nat, v5 = .int .i64 i ∧ i ≤ n ∧ (∀ y ∈ L.take i, (y.1 == id) = false) ∧ wr = w) (fun v5 _ => n - (intOf v5).toNat)
  case atStart => exact ⟨0, rfl, Nat.zero_le _, by simp, rfl⟩
  case round =>
    obtain ⟨i, rfl, hi, hno, hw⟩ := hrel
    subst hw
    have NO := Troupe.hid hno
    clear hno
    by_cases hlt : i < n
    · obtain ⟨x, hx⟩ : ∃ x, L[i]? = some x := ⟨_, List.getElem?_eq_getElem (by omega)⟩
      obtain ⟨b, o, hA, d0, d1⟩ := mb_at C0.out (Nat.le_refl _) (Below.refl _ _) hx
      subst hA
      have X := Troupe.hid hx
      clear hx d1
      by_cases he : x.1 = id
      · have P := Troupe.hid (posV_some X.out he NO.out)
        have heb : (x.1 == id) = true := by simp [he]
        clear he
        go_wp2_with fail
        go_ret
        exact ⟨by rw [P.out]; rfl, rfl⟩
      · have heb : (x.1 == id) = false := beq_eq_false_iff_ne.2 he
        have NO2 : Hid (∀ y ∈ L.take (i + 1), (y.1 == id) = false) := by
          intro y hy
          rw [List.take_add_one, X.out] at hy
          rcases List.mem_append.1 hy with h | h
          · exact NO.out y h
          · simp at h; subst h; exact heb
        clear he
        go_wp2_with fail
        go_roundw
        case rel => exact ⟨i + 1, by go_num, by omega, NO2.out, by trivial⟩
        case measure => simp [intOf]; omega
    · have P := Troupe.hid (posV_none (L := L) (id := id) (by have h := NO.out; rwa [List.take_of_length_le (by omega)] at h))
      go_wp2_with fail
      go_ret
      exact ⟨by rw [P.out]; rfl, rfl⟩
theorem kidsV_take (L : List Mb) (id : Int) (i : Nat) (x : Mb) (h : L[i]? = some x) : kidsV (L.take (i + 1)) id = if x.2 = id then kidsV (L.take i) id ++ [x.1] else kidsV (L.take i) id := by
  unfold kidsV
  rw [List.take_add_one, h, List.filter_append, List.map_append]
  by_cases h : x.2 = id <;> simp [h]
theorem kidsV_take_le (L : List Mb) (id : Int) (i : Nat) : (kidsV (L.take i) id).length ≤ L.length := by
  unfold kidsV
  rw [List.length_map]
  exact Nat.le_trans (List.length_filter_le _ _) (by rw [List.length_take]; omega)
set_option maxRecDepth 100000 in
set_option maxHeartbeats 2000000 in
theorem rkids_any (id : Int) (A : Option Addr) (n c : Nat) (L : List Mb) (w : World) (hl : L.length = n) (hn : n ≤ 65536) (hc : Cells w w.heap.size A (flatM L)) :
    Calls Try.prog 26 #[.slice A n c, .int .i64 id] w (Row w (kidsA L id)) := by
  have C0 := Troupe.hid hc
  clear hc
  go_enter Try.func26, Try.ntmps26
  go_wp2_with fail
  go_loopw [5, 6] (fun v5 v6 wr => ∃ i : Nat, v6 = .int .i64 i ∧ i ≤ n ∧ wr.ownsRow w.heap.size 3 1 v5 (if hasV L id = true then kidsV (L.take i) id else []).length (wordsI (if hasV L id = true then kidsV (L.take i) id else [])) ∧ Below w.heap.size w wr) (fun _ v6 _ => n - (intOf v6).toNat)
  case atStart => exact ⟨0, rfl, Nat.zero_le _, by simp [kidsV, wordsI]; exact World.ownsRow_nil _ _ _ _, Below.refl _ _⟩
  case round =>
    obtain ⟨i, rfl, hi, ho, hb⟩ := hrel
    obtain ⟨A5, c5, rfl, -⟩ := own_form ho
    have OW := Troupe.hid ho
    have HB := Troupe.hid hb
    clear ho hb
    by_cases hlt : i < n
    · obtain ⟨x, hx⟩ : ∃ x, L[i]? = some x := ⟨_, List.getElem?_eq_getElem (by omega)⟩
      obtain ⟨b, o, hA, d0, d1⟩ := mb_at C0.out (Nat.le_refl _) HB.out hx
      subst hA
      have KT := Troupe.hid (kidsV_take L id i x hx)
      have hkl := kidsV_take_le L id i
      clear hx
      by_cases he : x.2 = id
      · have heb : (x.2 == id) = true := by simp [he]
        rw [if_pos he] at KT
        have AT := Troupe.hid (at_any id (some ⟨b, o, none⟩) n c L wr hl hn ((C0.out.below HB.out).mono HB.out.size))
        clear he
        rcases posV_cases L id with ⟨hp, hv⟩ | ⟨k, y, hp, _, _, hv⟩
        · rw [hp] at AT
          rw [if_neg (by rw [hv]; decide)] at OW ⊢
          have e : (if hasV L id = true then kidsV (L.take (i + 1)) id else []) = [] := if_neg (by rw [hv]; decide)
          have EE := Troupe.hid e
          clear e hp hv
          go_wp2_with fail
          refine AT.out.mono ?_
          rintro e w5 ⟨rfl, rfl⟩
          go_wp2_with fail
          go_roundw
          case rel => exact ⟨i + 1, by go_num, by omega, by rw [EE.out]; exact OW.out, HB.out⟩
          case measure => simp [intOf]; omega
        · rw [hp] at AT
          rw [if_pos hv] at OW ⊢
          have e : (if hasV L id = true then kidsV (L.take (i + 1)) id else []) = kidsV (L.take i) id ++ [x.1] := by rw [if_pos hv]; exact KT.out
          have EE := Troupe.hid e
          clear e hp hv
          obtain ⟨q, hq⟩ : ∃ q, q = (kidsV (L.take i) id).length := ⟨_, rfl⟩
          rw [← hq] at OW hkl ⊢
          have HQ := Troupe.hid hq
          clear hq
          have F1 : Frm (fun _ => False) wr (wr.alloc (.cells #[.int .i64 x.1] 3)) := (Frm.refl _ wr).alloc _
          have V1 := Troupe.hid (own_frm OW.out F1 (fun _ _ h => h))
          have B1 := Troupe.hid (HB.out.trans (F1.below HB.out.size (fun _ h => h.elim)))
          have C1 := Troupe.hid (show Cells (wr.alloc (.cells #[.int .i64 x.1] 3)) (wr.heap.size + 1) (some ⟨wr.heap.size, 0, none⟩) [.int .i64 x.1] from Cells.blk (n := 1) (Blk.new wr 3 [.int .i64 x.1]) (Nat.lt_succ_self wr.heap.size))
          have hw1 : (wr.alloc (.cells #[.int .i64 x.1] 3)).heap.size = wr.heap.size + 1 := by simp
          have hbs := HB.out.size
          clear F1
          go_wp2_with fail
          refine AT.out.mono ?_
          rintro e w5 ⟨rfl, rfl⟩
          go_wp2_with (at_builtin; refine wpList_app rfl (.tmp 26) (.tmp 32) 25 rfl w.heap.size 3 info3 Try.underlying25 rfl (by decide) (.slice A5 q c5) q _ rfl V1.out (w5.heap.size + 1) (some ⟨w5.heap.size, 0, none⟩) 1 1 [.int .i64 x.1] rfl rfl C1.out (fun h => by cases h) (by simp [Value.oneCell']) (by omega) (by unfold maxLen; omega) (by omega) ?_; intro v2 w6 h6; have H6 := Troupe.hid h6; clear h6)
          go_roundw
          case rel =>
            refine ⟨i + 1, by go_num, by omega, ?_, B1.out.trans (H6.out.frm.below B1.out.size (fun k hk => (V1.out.lt k hk).1))⟩
            rw [EE.out, List.length_append, List.length_singleton, ← HQ.out]
            have e : wordsI (kidsV (L.take i) id ++ [x.1]) = wordsI (kidsV (L.take i) id) ++ [.int .i64 x.1] := by simp [wordsI]
            rw [e]; exact H6.out.own
          case measure => simp [intOf]; omega
      · have heb : (x.2 == id) = false := beq_eq_false_iff_ne.2 he
        rw [if_neg he] at KT
        clear he
        go_wp2_with fail
        go_roundw
        case rel => exact ⟨i + 1, by go_num, by omega, by rw [KT.out]; exact OW.out, HB.out⟩
        case measure => simp [intOf]; omega
    · have e : (if hasV L id = true then kidsV (L.take i) id else []) = kidsA L id := by unfold kidsA; rw [List.take_of_length_le (by omega)]
      rw [e] at OW ⊢
      go_wp2_with fail
      go_ret
      exact ⟨A5, c5, rfl, OW.out, HB.out⟩
end Go.Proofs.Ytmdiagcmfcjleaa
