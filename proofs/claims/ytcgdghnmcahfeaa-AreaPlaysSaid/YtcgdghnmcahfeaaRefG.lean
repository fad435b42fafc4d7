/- The document's Give and Free, by contracts. -/
import Derived.Test.YtcgdghnmcahfeaaRefT
namespace Go.Proofs.Ytcgdghnmcahfeaa
open Go.RowKit Go.Maps Go.Troupe

def RGave (p : Nat) (T : Nat → Prop) (O' : List Int) (e0 : Int) (w : World) (e : Ending) (w' : World) : Prop :=
  e = .returned (.int .i64 e0) ∧ Rf w' p T O' ∧ Frm T w w'
set_option maxRecDepth 100000 in
set_option maxHeartbeats 2000000 in
theorem refgive_miss {p : Nat} {T : Nat → Prop} {O : List Int} (t : Int) (w : World) (h : Rf w p T O) (hO : O.length ≤ 65536) (hno : 0 ≤ t → ∀ x, O[t.toNat]? = some x → x ≠ t) :
    Calls Try.prog 12 #[.pointer (some ⟨p, 0, none⟩), .int .i64 t] w (RGave p T O 2 w) := by
  obtain ⟨v, g1, g2, g3⟩ := h.ex
  obtain ⟨A, c, rfl, -⟩ := own_form g2
  have c0 : w.cell? ⟨p, 0, none⟩ = some (.slice A O.length c) := g1.cell 0
  have H := Troupe.hid h
  have C := Troupe.hid (own_cells g2)
  clear h g1 g2 g3
  by_cases h1 : t < 0
  · go_enter Try.func12, Try.ntmps12
    go_wp2_with fail
    go_ret
    exact ⟨rfl, H.out, Frm.refl _ _⟩
  obtain ⟨q, rfl⟩ : ∃ q : Nat, t = q := ⟨t.toNat, by omega⟩
  rw [Int.toNat_natCast] at hno
  by_cases h2 : q < O.length
  · obtain ⟨x, hx⟩ : ∃ x, O[q]? = some x := ⟨_, List.getElem?_eq_getElem h2⟩
    have hxw := wordsI_at O q x hx
    obtain ⟨g, off, hA, _, hcc⟩ := C.out.at_ (by intro e; rw [e] at hxw; simp at hxw)
    subst hA
    have d0 : w.cell? ⟨g, off + q, none⟩ = some (.int .i64 x) := hcc _ _ hxw
    have hxt : (x != (q : Int)) = true := bne_iff_ne.2 (hno (by omega) x hx)
    clear hcc hxw hx hno
    go_enter Try.func12, Try.ntmps12
    go_wp2_with fail
    go_ret
    exact ⟨rfl, H.out, Frm.refl _ _⟩
  · clear hno
    go_enter Try.func12, Try.ntmps12
    go_wp2_with fail
    go_ret
    exact ⟨rfl, H.out, Frm.refl _ _⟩
set_option maxRecDepth 100000 in
set_option maxHeartbeats 4000000 in
theorem refgive_hit {p : Nat} {T : Nat → Prop} {O : List Int} (b k : Nat) (w : World) (h : Rf w p T O) (hO : O.length ≤ 65536) (hk : 1 ≤ k) (hfit : b + k ≤ O.length) (hin : ∀ j, b ≤ j → j < b + k → O[j]? = some (b : Int)) (hout : O[b + k]? ≠ some (b : Int)) :
    Calls Try.prog 12 #[.pointer (some ⟨p, 0, none⟩), .int .i64 b] w (RGave p T (putO O b k (-1)) 0 w) := by
  obtain ⟨v, g1, g2, g3⟩ := h.ex
  obtain ⟨A, c, rfl, -⟩ := own_form g2
  have hA : ∃ g, A = some ⟨g, 0, none⟩ := by
    rcases own_blk g2 with ⟨_, h0, _⟩ | ⟨g, cs, rfl, _⟩
    · omega
    · exact ⟨g, rfl⟩
  obtain ⟨g, rfl⟩ := hA
  have hgp : p ≠ g := by
    obtain ⟨cs, hbk⟩ := own_at g2 rfl
    exact fun e => hbk.ne g1 (by decide) e.symm
  have c0 : w.cell? ⟨p, 0, none⟩ = some (.slice (some ⟨g, 0, none⟩) O.length c) := g1.cell 0
  have hb0 : b < O.length := by omega
  have d0 : w.cell? ⟨g, b, none⟩ = some (.int .i64 b) := by
    rw [(own_set1 g2 hb0 (.bool false)).1]
    exact wordsI_at O b _ (hin b (Nat.le_refl _) (by omega))
  have H := Troupe.hid h
  have G1 := Troupe.hid g1
  have G2 := Troupe.hid g2
  have G3 := Troupe.hid g3
  have IN := Troupe.hid hin
  have OUT := Troupe.hid hout
  clear h g1 g2 g3 hin hout
  go_enter Try.func12, Try.ntmps12
  go_wp2_with fail
  clear c0 d0
  go_loopw [5] (fun v5 wr => ∃ t : Nat, v5 = .int .i64 (b + t : Nat) ∧ t ≤ k ∧ wr.ownsRow 0 3 1 (.slice (some ⟨g, 0, none⟩) O.length c) O.length (wordsI (putO O b t (-1))) ∧ Frm (fun j => j = g) w wr) (fun v5 _ => b + k - (intOf v5).toNat)
  case atStart => exact ⟨0, by simp, Nat.zero_le _, by rw [putO_zero]; exact G2.out, Frm.refl _ _⟩
  case round =>
    obtain ⟨t, rfl, ht, ho, hf⟩ := hrel
    have d0 : wr.cell? ⟨p, 0, none⟩ = some (.slice (some ⟨g, 0, none⟩) O.length c) := (G1.out.frm hf hgp).cell 0
    have F := Troupe.hid hf
    have OW := Troupe.hid ho
    clear hf ho
    obtain ⟨j, hj⟩ : ∃ j, j = b + t := ⟨_, rfl⟩
    rw [← hj]
    have HJ := Troupe.hid hj
    by_cases htk : t < k
    · have hbt : b + t < O.length := by omega
      have hjl : j < O.length := by omega
      obtain ⟨e1, e2, e3, e4⟩ := own_set1 OW.out hbt (.int .i64 (-1))
      rw [putO_next _ _ _ _ hbt, show (⟨g, b + t, none⟩ : Addr) = ⟨g, j, none⟩ by rw [hj]] at e4
      have E4 := Troupe.hid e4
      have e5 : wr.cell? ⟨g, j, none⟩ = some (.int .i64 b) := by
        rw [hj, e1]
        refine wordsI_at _ _ _ ?_
        rw [putO_get _ _ _ (by omega), if_neg (by omega)]
        exact IN.out _ (by omega) (by omega)
      rw [← hj] at e3
      clear e1 e2 e4 hj
      go_wp2_with fail
      go_roundw
      case rel => exact ⟨t + 1, by have := HJ.out; go_num, by omega, E4.out, by have := F.out.trans (Frm.one wr ⟨g, j, none⟩ (.int .i64 (-1))) (fun _ _ h => h); exact this⟩
      case measure => have := HJ.out; simp [intOf]; omega
    · have htk' : t = k := by omega
      subst htk'
      have hl : (putO O b t (-1)).length = O.length := putO_len _ _ _ hfit
      have FIN : Hid (RGave p T (putO O b t (-1)) 0 w (.returned (.int .i64 0)) wr) :=
        ⟨rfl, ⟨⟨_, G1.out.frm F.out hgp, by rw [hl]; exact OW.out, fun q hq => ⟨(G3.out q hq).1, Nat.lt_of_lt_of_le (G3.out q hq).2 F.out.size⟩⟩, H.out.tT⟩, F.out.mono (fun q _ hq => by rw [hq]; exact (G3.out g rfl).1)⟩
      by_cases hjl : j < O.length
      · obtain ⟨x, hx⟩ : ∃ x, O[j]? = some x := ⟨_, List.getElem?_eq_getElem hjl⟩
        have hxb : (x == (b : Int)) = false := by
          refine beq_eq_false_iff_ne.2 ?_
          rintro rfl
          exact OUT.out (by rw [← hj]; exact hx)
        have e5 : wr.cell? ⟨g, j, none⟩ = some (.int .i64 x) := by
          rw [(own_set1 OW.out hjl (.bool false)).1]
          refine wordsI_at _ _ _ ?_
          rw [putO_get _ _ _ (by omega), if_neg (by omega)]
          exact hx
        clear hj hx
        go_wp2_with fail
        go_ret
        exact FIN.out
      · clear hj
        go_wp2_with fail
        go_ret
        exact FIN.out
set_option maxRecDepth 100000 in
set_option maxHeartbeats 2000000 in
theorem reffree_any {p : Nat} {T : Nat → Prop} {O : List Int} (w : World) (h : Rf w p T O) (hO : O.length ≤ 65536) :
    Calls Try.prog 16 #[.pointer (some ⟨p, 0, none⟩)] w fun e w' => e = .returned (.int .i64 (O.countP fun x => decide (x < 0) : Nat)) ∧ w' = w := by
  obtain ⟨v, g1, g2, g3⟩ := h.ex
  obtain ⟨A, c, rfl, -⟩ := own_form g2
  have c0 : w.cell? ⟨p, 0, none⟩ = some (.slice A O.length c) := g1.cell 0
  have C := Troupe.hid (own_cells g2)
  clear h g1 g2 g3
  go_enter Try.func16, Try.ntmps16
  go_wp2_with fail
  go_loopw [3, 4] (fun v3 v4 wr => ∃ i : Nat, v4 = .int .i64 i ∧ i ≤ O.length ∧ v3 = .int .i64 ((O.take i).countP fun x => decide (x < 0) : Nat) ∧ wr = w) (fun _ v4 _ => O.length - (intOf v4).toNat)
  case atStart => exact ⟨0, rfl, Nat.zero_le _, by simp, rfl⟩
  case round =>
    obtain ⟨i, rfl, hi, rfl, hw⟩ := hrel
    subst hw
    by_cases hlt : i < O.length
    · obtain ⟨x, hx⟩ : ∃ x, O[i]? = some x := ⟨_, List.getElem?_eq_getElem hlt⟩
      have hxw := wordsI_at O i x hx
      obtain ⟨g, off, hA, _, hcc⟩ := C.out.at_ (by intro e; rw [e] at hxw; simp at hxw)
      subst hA
      have d0 : wr.cell? ⟨g, off + i, none⟩ = some (.int .i64 x) := hcc _ _ hxw
      have hcnt : (O.take (i + 1)).countP (fun x => decide (x < 0)) = (O.take i).countP (fun x => decide (x < 0)) + if x < 0 then 1 else 0 := by
        rw [List.take_add_one, hx, List.countP_append]
        by_cases h : x < 0 <;> simp [h]
      have hle := List.countP_le_length (p := fun x => decide (x < 0)) (l := O.take i)
      rw [List.length_take] at hle
      have CN := Troupe.hid hcnt
      clear hcc hxw hx hcnt
      generalize (O.take i).countP (fun x => decide (x < 0)) = m at *
      by_cases hx0 : x < 0
      · go_wp2_with fail
        go_roundw
        case rel => exact ⟨i + 1, by go_num, by omega, by rw [CN.out, if_pos hx0]; go_num, by trivial⟩
        case measure => simp [intOf]; omega
      · go_wp2_with fail
        go_roundw
        case rel => exact ⟨i + 1, by go_num, by omega, by rw [CN.out, if_neg (by omega)]; go_num, by trivial⟩
        case measure => simp [intOf]; omega
    · obtain rfl : i = O.length := by omega
      go_wp2_with fail
      go_ret
      exact ⟨by simp, rfl⟩
end Go.Proofs.Ytcgdghnmcahfeaa
