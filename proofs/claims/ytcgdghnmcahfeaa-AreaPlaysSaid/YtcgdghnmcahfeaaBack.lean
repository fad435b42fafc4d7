/- AreaBack: the plain law and the walk. -/
import Derived.Test.YtcgdghnmcahfeaaApart
namespace Go.Proofs.Ytcgdghnmcahfeaa
open Go.RowKit Go.Maps Go.Troupe

/-! ### the plain law -/
theorem Ok.inj {l : List Rg} {e n : Nat} (h : Ok e n l) {i j : Nat} {r s : Rg} (hi : l[i]? = some r) (hj : l[j]? = some s) (hrs : r.1 = s.1) : i = j := by
  rcases Nat.lt_trichotomy i j with h' | h' | h'
  · have h1 := h.lt h' hi hj
    have h2 := h.mem r (List.mem_of_getElem? hi)
    omega
  · exact h'
  · have h1 := h.lt h' hj hi
    have h2 := h.mem s (List.mem_of_getElem? hj)
    omega
theorem mem_erase {l : List Rg} {e n : Nat} (h : Ok e n l) {i : Nat} {r : Rg} (hi : l[i]? = some r) (x : Rg) : x ∈ l.eraseIdx i ↔ x ∈ l ∧ x.1 ≠ r.1 := by
  rw [List.mem_eraseIdx_iff_getElem?]
  constructor
  · rintro ⟨j, hne, hj⟩
    exact ⟨List.mem_of_getElem? hj, fun e => hne (h.inj hj hi e)⟩
  · rintro ⟨hx, hne⟩
    obtain ⟨j, hj⟩ := List.mem_iff_getElem?.1 hx
    refine ⟨j, ?_, hj⟩
    rintro rfl
    rw [hi] at hj; cases hj; exact hne rfl
/-- What is left of L behind i givings, from the m-th region on. -/
def Rest (L cur : List Rg) (m i : Nat) : Prop := ∀ x, x ∈ cur ↔ x ∈ L ∧ ∀ t, t < i → ∀ y, L[(t + m) % L.length]? = some y → x.1 ≠ y.1
theorem Rest.zero (L : List Rg) (m : Nat) : Rest L L m 0 := fun x => ⟨fun h => ⟨h, fun t ht => absurd ht (Nat.not_lt_zero _)⟩, fun h => h.1⟩
theorem mod_ne {t i m q : Nat} (hti : t < i) (hi : i < q) : (t + m) % q ≠ (i + m) % q := by
  intro h
  have e1 := Nat.div_add_mod (t + m) q
  have e2 := Nat.div_add_mod (i + m) q
  rw [h] at e1
  have hle : (t + m) / q ≤ (i + m) / q := Nat.div_le_div_right (by omega)
  rcases Nat.eq_or_lt_of_le hle with h' | h'
  · rw [h'] at e1; omega
  · have := Nat.mul_le_mul_left q (show (t + m) / q + 1 ≤ (i + m) / q by omega)
    rw [Nat.mul_add, Nat.mul_one] at this
    omega
theorem Rest.step {L cur : List Rg} {m i N : Nat} (h : Rest L cur m i) (hL : Ok 0 N L) (hc : Ok 0 N cur) (hi : i < L.length) {r : Rg} (hr : L[(i + m) % L.length]? = some r) :
    ∃ cur', giveV cur r.1 = (cur', 0) ∧ giveV cur' r.1 = (cur', 2) ∧ Rest L cur' m (i + 1) := by
  have hmem : r ∈ cur := by
    rw [h r]
    refine ⟨List.mem_of_getElem? hr, fun t ht y hy e => ?_⟩
    exact mod_ne ht hi (hL.inj hy hr e.symm)
  obtain ⟨j, hj⟩ := List.mem_iff_getElem?.1 hmem
  have hm := mem_erase hc hj
  refine ⟨cur.eraseIdx j, giveV_hit hc hj rfl, giveV_miss (fun x hx e => ((hm x).1 hx).2 (by omega)), fun x => ?_⟩
  rw [hm x, h x]
  constructor
  · rintro ⟨⟨h1, h2⟩, h3⟩
    refine ⟨h1, fun t ht y hy => ?_⟩
    rcases Nat.lt_or_eq_of_le (Nat.le_of_lt_succ ht) with h' | rfl
    · exact h2 t h' y hy
    · rw [hr] at hy; cases hy; exact h3
  · rintro ⟨h1, h2⟩
    exact ⟨⟨h1, fun t ht => h2 t (by omega)⟩, h2 i (by omega) r hr⟩
theorem Rest.all {L cur : List Rg} {m : Nat} (h : Rest L cur m L.length) : cur = [] := by
  refine List.eq_nil_iff_forall_not_mem.2 fun x hx => ?_
  obtain ⟨hxL, hall⟩ := (h x).1 hx
  obtain ⟨j, hj⟩ := List.mem_iff_getElem?.1 hxL
  have hjl := (List.getElem?_eq_some_iff.1 hj).1
  have hq : 0 < L.length := by omega
  obtain ⟨t, ht, e⟩ : ∃ t, t < L.length ∧ (t + m) % L.length = j := by
    refine ⟨(j + (L.length - m % L.length)) % L.length, Nat.mod_lt _ hq, ?_⟩
    have h1 : m % L.length < L.length := Nat.mod_lt _ hq
    rw [Nat.mod_add_mod]
    have h2 : j + (L.length - m % L.length) + m = j + (L.length * (m / L.length + 1)) := by
      have := Nat.div_add_mod m L.length
      rw [Nat.mul_add, Nat.mul_one]
      omega
    rw [h2, Nat.add_mul_mod_self_left, Nat.mod_eq_of_lt hjl]
  exact hall t ht x (by rw [e]; exact hj) rfl
theorem whole_take (N : Nat) (h : 1 ≤ N) : takeV N [] N = ([(0, N)], 0, 0) := by
  have h1 : ¬ ((N : Int) < 1) := by omega
  simp [takeV, scan, h1]
theorem whole_full (N : Nat) (h : 1 ≤ N) : takeV N [(0, N)] 1 = ([(0, N)], 0, 4) := by
  simp [takeV, scan]

/-! ### Mod -/
set_option maxRecDepth 100000 in
theorem mod_any (a : Int) (q : Nat) (hq : 0 < q) (hq2 : q ≤ 65536) : ∃ m : Nat, m < q ∧ ∀ W, Calls Try.prog 23 #[.int .i64 a, .int .i64 q] W fun e w' => e = .returned (.int .i64 m) ∧ w' = W := by
  have h1 := Int.tmod_lt_of_pos a (show (0 : Int) < q by omega)
  have h2 : -(q : Int) < Int.tmod a q := by
    rcases Int.le_total 0 a with h | h
    · have := Int.tmod_nonneg (q : Int) h; omega
    · have := Int.tmod_lt_of_pos (-a) (show (0 : Int) < q by omega)
      rw [Int.neg_tmod] at this; omega
  have hq0 : ¬ ((q : Int) = 0) := by omega
  have hq1 : ¬ ((q : Int) = -1) := by omega
  have hq3 : ¬ (q = 0) := by omega
  by_cases hneg : Int.tmod a q < 0
  · have hq4 : 0 ≤ Int.tmod a q + q := by omega
    refine ⟨(Int.tmod a q + q).toNat, by omega, fun W => ?_⟩
    have hm := Troupe.hid (Int.toNat_of_nonneg hq4)
    clear hq4
    rw [hm.out]
    go_enter Try.func23, Try.ntmps23
    go_wp2_with fail
    go_ret
    exact ⟨rfl, rfl⟩
  · have hq4 : 0 ≤ Int.tmod a q := by omega
    refine ⟨(Int.tmod a q).toNat, by omega, fun W => ?_⟩
    have hm := Troupe.hid (Int.toNat_of_nonneg hq4)
    clear hq4
    rw [hm.out]
    go_enter Try.func23, Try.ntmps23
    go_wp2_with fail
    go_ret
    exact ⟨rfl, rfl⟩

/-! ### the walk -/
/-- An area, and a row that is not its own. -/
def Wr (w0 wk : World) (p N : Nat) (l : List Rg) (B : Nat) (v : Value) (q : Nat) (xs : List Value) : Prop :=
  ∃ S, ArS w0 wk p S N l ∧ wk.ownsRow B 47 2 v q xs ∧ ∀ b, v.ownBlock = some b → ¬ S b
theorem Wr.give {w0 wk : World} {p N B q : Nat} {l l' : List Rg} {v : Value} {xs : List Value} (h : Wr w0 wk p N l B v q xs) (t : Int) {e : Int} (hv : giveV l t = (l', e)) :
    Calls Try.prog 11 #[.pointer (some ⟨p, 0, none⟩), .int .i64 t] wk fun en w' => en = .returned (.int .i64 e) ∧ Wr w0 w' p N l' B v q xs := by
  obtain ⟨S, h1, h2, h3⟩ := h
  refine (give_any t wk h1.ar).mono ?_
  rintro en w' ⟨rfl, hl⟩
  rw [hv] at hl ⊢
  obtain ⟨S', h', hG, hF⟩ := h1.left hl
  refine ⟨rfl, S', h', own_frm h2 hF h3, fun b hb hS => ?_⟩
  rcases hG b hS with h4 | h4
  · exact h3 b hb h4
  · have := (h2.lt b hb).2; omega
theorem Wr.ar {w0 wk : World} {p N B q : Nat} {l : List Rg} {v : Value} {xs : List Value} (h : Wr w0 wk p N l B v q xs) : Ar w0 wk p N l := by
  obtain ⟨S, h1, _⟩ := h; exact ⟨S, h1⟩
theorem Wr.own {w0 wk : World} {p N B q : Nat} {l : List Rg} {v : Value} {xs : List Value} (h : Wr w0 wk p N l B v q xs) : wk.ownsRow B 47 2 v q xs := by
  obtain ⟨S, _, h1, _⟩ := h; exact h1
set_option maxRecDepth 100000 in
set_option maxHeartbeats 8000000 in
theorem back_walk (n : Int) (Ad : Option Addr) (len cap : Nat) (s : List Opn) (kk : Int) (w : World) (hl : s.length = len) (hm : len ≤ maxLen) (hc : Cells w w.heap.size Ad (flatO s)) :
    Calls Try.prog 6 #[.int .i64 n, .slice Ad len cap, .int .i64 kk] w fun e w' => e = .returned (.bool true) ∧ Below w.heap.size w w' := by
  have C0 := Troupe.hid hc
  have HM := Troupe.hid hm
  clear hc hm
  by_cases hn : n < 1
  · go_enter Try.func6, Try.ntmps6
    go_wp2_with fail
    refine (alive_any w).mono ?_
    rintro e w1 ⟨rfl, hb⟩
    have B1 := Troupe.hid hb
    clear hb
    go_wp2_with fail
    go_ret
    exact ⟨rfl, B1.out⟩
  by_cases hk1 : 2000 < n
  · go_enter Try.func6, Try.ntmps6
    go_wp2_with fail
    refine (alive_any w).mono ?_
    rintro e w1 ⟨rfl, hb⟩
    have B1 := Troupe.hid hb
    clear hb
    go_wp2_with fail
    go_ret
    exact ⟨rfl, B1.out⟩
  obtain ⟨M, rfl⟩ : ∃ M : Nat, n = M := ⟨n.toNat, by omega⟩
  have hM1 : 1 ≤ M := by omega
  have hM2 : M ≤ 2000 := by omega
  have hMe : areaN M = M := by unfold areaN; rw [if_neg (by omega), if_neg (by omega)]; omega
  go_enter Try.func6, Try.ntmps6
  go_wp2_with fail
  refine (alive_any w).mono ?_
  rintro e w1 ⟨rfl, hb⟩
  have B1 := Troupe.hid hb
  clear hb
  go_wp2_with fail
  refine (play_any M Ad len cap s w1 hl HM.out ((C0.out.below B1.out).mono B1.out.size)).mono ?_
  rintro e w2 ⟨p, rfl, h2⟩
  rw [hMe] at h2
  generalize playV M [] s = L at h2
  clear hMe
  have hle := h2.ok.length
  have OK := Troupe.hid h2.ok
  obtain ⟨S, hS, hSl⟩ := h2.trim
  have A2 : Hid (ArS w w2 p S M L) := ⟨hS.ar, fun k hk => Nat.le_trans B1.out.size (hS.lo k hk), B1.out.trans (hS.be.mono B1.out.size)⟩
  have SL := Troupe.hid hSl
  clear h2 hS hSl
  go_wp2_with fail
  refine (regions_any w2 A2.out.ar).mono ?_
  rintro e w4 ⟨v, rfl, ho, hb⟩
  obtain ⟨A4, c4, rfl, -⟩ := own_form ho
  have W4 : Hid (Wr w w4 p M L w2.heap.size (.slice A4 L.length c4) L.length (flatG L)) := ⟨S, A2.out.below hb, ho, fun b hb hSb => by have := SL.out b hSb; have := (ho.lt b hb).1; omega⟩
  clear ho hb
  have MD : ∃ m : Nat, 0 < L.length → m < L.length ∧ ∀ W, Calls Try.prog 23 #[.int .i64 kk, .int .i64 L.length] W fun e w' => e = .returned (.int .i64 m) ∧ w' = W := by
    by_cases h0 : 0 < L.length
    · obtain ⟨m, h1, h2⟩ := mod_any kk L.length h0 (by omega)
      exact ⟨m, fun _ => ⟨h1, h2⟩⟩
    · exact ⟨0, fun h => absurd h h0⟩
  obtain ⟨m, hmd⟩ := MD
  have HMD := Troupe.hid hmd
  clear hmd
  go_wp2_with fail
  go_loopw [9] (fun v9 wr => ∃ (i : Nat) (cur : List Rg), v9 = .int .i64 i ∧ i ≤ L.length ∧ Wr w wr p M cur w2.heap.size (.slice A4 L.length c4) L.length (flatG L) ∧ Rest L cur m i) (fun v9 _ => L.length - (intOf v9).toNat)
  case atStart => exact ⟨0, L, rfl, Nat.zero_le _, W4.out, Rest.zero L m⟩
  case round =>
    obtain ⟨i, cur, rfl, hi, hw, hr⟩ := hrel
    have W5 := Troupe.hid hw
    have R5 := Troupe.hid hr
    clear hw hr
    by_cases hlt : i < L.length
    · obtain ⟨hmL, hmc⟩ := HMD.out (by omega)
      have MC := Troupe.hid hmc
      have hjl : (i + m) % L.length < L.length := Nat.mod_lt _ (by omega)
      have hrem : Int.tmod ((i : Int) + (m : Int)) (L.length : Int) = (((i + m) % L.length : Nat) : Int) := by
        rw [← Int.natCast_add]; exact (Int.ofNat_tmod _ _).symm ▸ rfl
      have hq0 : ¬ ((L.length : Int) = 0) := by omega
      have hq1 : ¬ ((L.length : Int) = -1) := by omega
      have hq3 : ¬ (L.length = 0) := by omega
      have u1 : IntKind.i64.wrap ((i : Int) + m) = (i : Int) + m := by rw [IntKind.wrap_i64]; omega
      clear hmc
      obtain ⟨j, hj⟩ : ∃ j, j = (i + m) % L.length := ⟨_, rfl⟩
      rw [← hj] at hrem hjl
      have HJ := Troupe.hid hj
      obtain ⟨x, hx⟩ : ∃ x, L[j]? = some x := ⟨_, List.getElem?_eq_getElem hjl⟩
      obtain ⟨b, off, hA, _, d0, d1⟩ := (own_cells W5.out.own).rg hx
      subst hA
      obtain ⟨cur', hg1, hg2, hr2⟩ := R5.out.step OK.out W5.out.ar.ok hlt (r := x) (by rw [← hj]; exact hx)
      have G1 := Troupe.hid hg1
      have G2 := Troupe.hid hg2
      have R6 := Troupe.hid hr2
      have X := Troupe.hid hx
      clear hj hx hg1 hg2 hr2
      go_wp2_with fail
      refine (MC.out wr).mono ?_
      rintro e w6 ⟨rfl, rfl⟩
      go_wp2_with fail
      refine (W5.out.give x.1 G1.out).mono ?_
      rintro e w7 ⟨rfl, hw7⟩
      have W7 := Troupe.hid hw7
      obtain ⟨b', off', hA', _, d0', d1'⟩ := (own_cells hw7.own).rg X.out
      obtain ⟨rfl, rfl⟩ : b = b' ∧ off = off' := by simpa using hA'
      clear hw7 hA' d0 d1 d1'
      go_wp2_with fail
      refine (W7.out.give x.1 G2.out).mono ?_
      rintro e w8 ⟨rfl, hw8⟩
      have W8 := Troupe.hid hw8
      clear hw8 d0'
      go_wp2_with fail
      go_roundw
      case rel => exact ⟨i + 1, cur', by go_num, by omega, W8.out, R6.out⟩
      case measure => simp [intOf]; omega
    · obtain rfl : i = L.length := by omega
      obtain rfl : cur = [] := R5.out.all
      have AR := Troupe.hid W5.out.ar
      have T1 := Troupe.hid (whole_take M hM1)
      have T2 := Troupe.hid (whole_full M hM1)
      clear R5 W5
      go_wp2_with fail
      refine (AR.out.free (x := M) (by simp [freeV])).mono ?_
      rintro e w7 ⟨rfl, h7⟩
      have A7 := Troupe.hid h7
      clear h7
      go_wp2_with fail
      refine (regions_any w7 A7.out.choose_spec.ar).mono ?_
      rintro e w8 ⟨v8, rfl, ho8, hb⟩
      obtain ⟨A8', c8, rfl, -⟩ := own_form ho8
      have A8 := Troupe.hid (A7.out.below hb)
      clear ho8 hb
      go_wp2_with fail
      refine (A8.out.take M T1.out).mono ?_
      rintro e w9 ⟨rfl, h9⟩
      have A9 := Troupe.hid h9
      clear h9
      go_wp2_with fail
      refine (A9.out.take 1 T2.out).mono ?_
      rintro e wa ⟨rfl, ha⟩
      have AA := Troupe.hid ha
      clear ha
      go_wp2_with fail
      refine (AA.out.free (x := 0) (by simp [freeV])).mono ?_
      rintro e wb ⟨rfl, hb⟩
      have AB := Troupe.hid hb
      clear hb
      go_wp2_with fail
      go_ret
      exact ⟨rfl, AB.out.be⟩
end Go.Proofs.Ytcgdghnmcahfeaa
