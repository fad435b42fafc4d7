/- AreaApart: the walk. -/
import Derived.Test.YtcgdghnmcahfeaaKept
namespace Go.Proofs.Ytcgdghnmcahfeaa
open Go.RowKit Go.Maps Go.Troupe

theorem quiet_left {f : FuncId} {args : Array Value} {v : Value} {w : World} {q : Nat} (h : Calls Try.prog f args (w.drewN q) fun e w' => e = .returned v ∧ w' = w.drewN q) :
    Calls Try.prog f args (w.drewN q) fun e w'' => e = .returned v ∧ ∃ m, w'' = w.drewN m := h.mono fun _ _ ⟨h1, h2⟩ => ⟨h1, q, h2⟩
set_option maxRecDepth 100000 in
set_option maxHeartbeats 4000000 in
theorem apart_walk (n : Int) (Ad : Option Addr) (len cap : Nat) (s : List Opn) (w : World) (hl : s.length = len) (hm : len ≤ maxLen) (hc : Cells w w.heap.size Ad (flatO s)) :
    Calls Try.prog 4 #[.int .i64 n, .slice Ad len cap] w fun e w' => e = .returned (.bool true) ∧ Below w.heap.size w w' := by
  have C0 := Troupe.hid hc
  have HM := Troupe.hid hm
  clear hc hm
  by_cases hn : 2000 < n
  · go_enter Try.func4, Try.ntmps4
    go_wp2_with fail
    refine (alive_any w).mono ?_
    rintro e w1 ⟨rfl, hb⟩
    have B1 := Troupe.hid hb
    clear hb
    go_wp2_with fail
    go_ret
    exact ⟨rfl, B1.out⟩
  go_enter Try.func4, Try.ntmps4
  go_wp2_with fail
  refine (alive_any w).mono ?_
  rintro e w1 ⟨rfl, hb⟩
  have B1 := Troupe.hid hb
  clear hb
  go_wp2_with fail
  refine (play_any n Ad len cap s w1 hl HM.out ((C0.out.below B1.out).mono B1.out.size)).mono ?_
  rintro e w2 ⟨p, rfl, h2⟩
  generalize playV (areaN n) [] s = L at h2
  obtain ⟨M, hMe⟩ : ∃ M, M = areaN n := ⟨_, rfl⟩
  rw [← hMe] at h2
  have CN := Troupe.hid (fun W => hMe ▸ count_any n W)
  clear hMe
  have hle := h2.ok.length
  have hNN := h2.hN
  have OK := Troupe.hid h2.ok
  have A2 : Hid (Ar w w2 p M L) := by
    obtain ⟨S, h⟩ := h2
    exact ⟨S, h.ar, fun k hk => Nat.le_trans B1.out.size (h.lo k hk), B1.out.trans (h.be.mono B1.out.size)⟩
  clear h2
  go_wp2_with fail
  refine (regions_any w2 A2.out.choose_spec.ar).mono ?_
  rintro e w4 ⟨v, rfl, ho, hb⟩
  obtain ⟨A4, c4, rfl, -⟩ := own_form ho
  have C4 := Troupe.hid (own_cells ho)
  have A4' := Troupe.hid (A2.out.below hb)
  clear ho hb
  go_wp2_with fail
  go_loopw [7, 8, 9] (fun v7 v8 v9 wr => ∃ i e : Nat, i ≤ L.length ∧ v9 = .int .i64 i ∧ v7 = .int .i64 e ∧ v8 = .int .i64 (((L.take i).map (fun r => (r.2 : Int))).sum) ∧ e ≤ M ∧ Ok e M (L.drop i) ∧ Below w4.heap.size w4 wr) (fun _ _ v9 _ => L.length - (intOf v9).toNat)
  case atStart => exact ⟨0, 0, Nat.zero_le _, rfl, rfl, by simp, Nat.zero_le _, OK.out, Below.refl _ _⟩
  case round =>
    obtain ⟨i, e, hi, rfl, rfl, rfl, heM, hok, hb⟩ := hrel
    have HB := Troupe.hid hb
    have C1 := Troupe.hid (C4.out.below hb)
    clear hb
    by_cases hlt : i < L.length
    · obtain ⟨x, hx⟩ : ∃ x, L[i]? = some x := ⟨_, List.getElem?_eq_getElem hlt⟩
      obtain ⟨b, off, rfl, _, d0, d1⟩ := C1.out.rg hx
      have hdr : L.drop i = x :: L.drop (i + 1) := by
        rw [List.drop_eq_getElem_cons hlt, (List.getElem?_eq_some_iff.1 hx).2]
      rw [hdr] at hok
      obtain ⟨g1, g2, g3, g4⟩ := hok
      have OK4 := Troupe.hid g4
      have hs := sum_take L i x hx
      have t1 := sum_le (OK.out.take i)
      have t2 := sum_le (OK.out.take (i + 1))
      obtain ⟨s1, hs1⟩ : ∃ s1, s1 = ((L.take i).map (fun r => (r.2 : Int))).sum := ⟨_, rfl⟩
      have HS : Hid (((L.take (i + 1)).map (fun r => (r.2 : Int))).sum = s1 + x.2) := by rw [hs1]; exact hs
      rw [hs, ← hs1] at t2
      rw [← hs1] at t1 ⊢
      obtain ⟨bs, ln⟩ := x
      simp only at d0 d1 g1 g2 g3 t2
      have e1 : IntKind.i64.wrap ((M : Int) - bs) = (M : Int) - bs := by rw [IntKind.wrap_i64]; omega
      have e2 : IntKind.i64.wrap ((bs : Int) + ln) = ((bs + ln : Nat) : Int) := by rw [IntKind.wrap_i64]; omega
      have e3 : IntKind.i64.wrap (s1 + (ln : Int)) = s1 + ln := by rw [IntKind.wrap_i64]; omega
      have l1 : ¬ ((bs : Int) < (e : Int)) := by omega
      have l2 : ¬ ((ln : Int) < 1) := by omega
      have l3 : ¬ ((M : Int) - bs < (ln : Int)) := by omega
      have K1 : Hid (∀ q, Calls Try.prog 22 #[.int .i64 n] (wr.drewN q) fun e w'' => e = .returned (.int .i64 M) ∧ ∃ m, w'' = wr.drewN m) := fun q => quiet_left (CN.out _)
      clear hs hx hs1 hdr g4
      go_wp2_with fail
      go_quiet ((go_at_call 22; exact K1.out _))
      go_wp2_with fail
      go_quiet (fail)
      go_wp2_with fail
      go_roundw
      case rel => exact ⟨i + 1, bs + ln, by omega, by go_num, rfl, by rw [HS.out], g3, OK4.out, HB.out.trans ((Frm.refl (fun _ => False) wr).drewN _ |>.below HB.out.size (fun _ h => h.elim))⟩
      case measure => simp [intOf]; omega
    · obtain rfl : i = L.length := by omega
      have AF := Troupe.hid (A4'.out.below HB.out)
      clear hok
      have t1 := sum_le OK.out
      have e3 : IntKind.i64.wrap ((M : Int) - ((L.take L.length).map (fun r => (r.2 : Int))).sum) = freeV M L := by
        rw [List.take_length, IntKind.wrap_i64]; unfold freeV; omega
      go_wp2_with fail
      refine (free_any wr AF.out.choose_spec.ar).mono ?_
      rintro e2 w5 ⟨rfl, hb⟩
      have AG := Troupe.hid (AF.out.below hb)
      clear hb
      go_wp2_with fail
      refine (CN.out w5).mono ?_
      rintro e2 w6 ⟨rfl, rfl⟩
      go_wp2_with fail
      go_ret
      refine ⟨by simp [freeV], AG.out.be⟩
end Go.Proofs.Ytcgdghnmcahfeaa
