/- TreePaths: the plain law and the walk (printed by genpaths.py). -/
import Derived.Test.YtmdiagcmfcjleaaKids
import Derived.Test.YtmdiagcmfcjleaaFalls
namespace Go.Proofs.Ytmdiagcmfcjleaa
open Go.RowKit Go.Maps Go.Troupe

theorem has_zero {M : List Mb} (hM : Vd [] M) : hasV M 0 = false := hasV_not.2 fun x hx e => by have := hM.pos x hx; omega
theorem chain_ex {M : List Mb} (hM : Vd [] M) : ∀ (n i : Nat) (x : Mb), i ≤ n → M[i]? = some x → ∃ l, Chain M x.1 l ∧ l.length ≤ i + 1
  | n, i, x, hn, hx => by
    have hxm := List.mem_of_getElem? hx
    rcases hM.paridx hx with ⟨_, h0⟩ | h0 | ⟨j, y, hj, hy, e⟩
    · refine ⟨[x.1], ⟨rfl, x.2, hxm, ?_⟩, by simp⟩
      rw [h0]; exact has_zero hM
    · simp at h0
    · cases n with
      | zero => omega
      | succ n =>
        obtain ⟨l, hl, hll⟩ := chain_ex hM n j y (by omega) hy
        refine ⟨x.1 :: l, ⟨rfl, x.2, hxm, by rw [← e]; exact hl⟩, by simp; omega⟩
theorem chain_any {M : List Mb} (hM : Vd [] M) (id : Int) : ∃ l, Chain M id l ∧ l.length ≤ M.length := by
  cases h : hasV M id with
  | false => exact ⟨[], h, Nat.zero_le _⟩
  | true =>
    obtain ⟨x, hx, rfl⟩ := hasV_iff.1 h
    obtain ⟨i, hi⟩ := List.mem_iff_getElem?.1 hx
    obtain ⟨l, h1, h2⟩ := chain_ex hM i i x (Nat.le_refl _) hi
    exact ⟨l, h1, by have := (List.getElem?_eq_some_iff.1 hi).1; omega⟩
theorem chain_mem {M : List Mb} (hM : Vd [] M) : ∀ {l : List Int} {id : Int}, Chain M id l → ∀ a, a ∈ l ↔ Up M a id ∧ hasV M a = true
  | [], id, h, a => by
    have h' : hasV M id = false := h
    constructor
    · intro h; simp at h
    · rintro ⟨hu, hv⟩
      cases hu with
      | refl => rw [h'] at hv; cases hv
      | step hm _ => have := hasV_mem hm; simp only at this; rw [h'] at this; cases this
  | k :: l, id, ⟨hk, par, hm, hc⟩, a => by
    subst hk
    have ih := chain_mem hM hc a
    constructor
    · intro h
      rcases List.mem_cons.1 h with rfl | h
      · exact ⟨.refl, hasV_mem hm⟩
      · obtain ⟨h1, h2⟩ := ih.1 h
        exact ⟨.step hm h1, h2⟩
    · rintro ⟨hu, hv⟩
      cases hu with
      | refl => exact List.mem_cons_self
      | @step _ c hm' hu =>
        have := hM.inj _ hm _ hm' rfl
        have hc' : par = c := by cases this; rfl
        subst hc'
        exact List.mem_cons_of_mem _ (ih.2 ⟨hu, hv⟩)
theorem up_post {M : List Mb} {f : Nat} {id y : Int} (hh : Hgt M f id) (hu : Up M id y) : y ∈ post M f id := by
  induction hu with
  | refl => exact post_last hh
  | @step b c hm hu ih =>
    obtain ⟨i, hi⟩ := List.mem_iff_getElem?.1 ih
    exact List.mem_of_mem_take (post_good hh i c hi b (mem_kidsV.2 hm))
/-- A member is below another one just if that stands on its path. -/
theorem below_path {M : List Mb} (hM : Vd [] M) {q : Int} {l : List Int} (hc : Chain M q l) (hq : hasV M q = true) (other : Int) : (belowV M (M.length + 1) other).any (· == q) = l.reverse.any (· == other) := by
  rw [Bool.eq_iff_iff, List.any_eq_true, List.any_eq_true]
  have hm := chain_mem hM hc other
  constructor
  · rintro ⟨y, hy, e⟩
    have e' : y = q := by simpa using e
    subst e'
    unfold belowV at hy
    split at hy
    · rename_i hv
      exact ⟨other, List.mem_reverse.2 (hm.2 ⟨post_up hy, hv⟩), by simp⟩
    · simp at hy
  · rintro ⟨y, hy, e⟩
    have e' : y = other := by simpa using e
    subst e'
    obtain ⟨hu, hv⟩ := hm.1 (List.mem_reverse.1 hy)
    refine ⟨q, ?_, by simp⟩
    unfold belowV
    rw [if_pos hv]
    exact up_post (hgt_ex hM hv) hu
theorem any_take {α : Type} (p : α → Bool) (l : List α) (i : Nat) (x : α) (h : l[i]? = some x) : (l.take (i + 1)).any p = ((l.take i).any p || p x) := by
  rw [List.take_add_one, h]
  simp
set_option maxRecDepth 100000 in
set_option maxHeartbeats 16000000 in
theorem paths_walk (Ad : Option Addr) (len cap : Nat) (s : List Opt) (other : Int) (w : World) (hl : s.length = len) (hc : Cells w w.heap.size Ad (flatO s)) :
    Calls Try.prog 5 #[.slice Ad len cap, .int .i64 other] w fun e w' => e = .returned (.bool true) ∧ Below w.heap.size w w' := by
  have C0 := Troupe.hid hc
  clear hc
  go_enter Try.func5, Try.ntmps5
  go_wp2_with fail
  refine (alive_any w).mono ?_
  rintro e w1 ⟨rfl, hb⟩
  have B1 := Troupe.hid hb
  clear hb
  go_wp2_with fail
  refine (grown_any Ad len cap s w1 hl ((C0.out.below B1.out).mono B1.out.size)).mono ?_
  rintro e w2 ⟨p, A2, c2, ids, rfl, hg, hidE⟩
  clear hidE
  have hML := growV_len (s.take 100) []
  rw [List.length_take, List.length_nil] at hML
  generalize growV [] (s.take 100) = M at hg hML
  have hML2 : M.length ≤ 100 := by omega
  clear hML
  obtain ⟨S, hT, hS, hbe, hid0, hds⟩ := hg
  have hbw : Below w.heap.size w w2 := B1.out.trans (hbe.mono B1.out.size)
  have hidm := (own_form hid0)
  have VD := Troupe.hid hT.vd
  have T2 := Troupe.hid hT
  have I2 := Troupe.hid hid0
  have BW := Troupe.hid hbw
  have hq : ids.length ≤ 9223372036854775807 := by
    obtain ⟨_, _, he, h1, h2, _⟩ := hidm
    have : ids.length ≤ maxLen := Nat.le_trans h1 h2
    exact this
  clear hT hS hbe hid0 hds hbw hidm
  go_wp2_with fail
  go_loopw [7, 8, 9, 10, 11, 12, 13, 14, 15, 16, 17] (fun v7 _ _ _ _ _ _ _ _ _ _ wr => ∃ i : Nat, v7 = .int .i64 i ∧ i ≤ ids.length ∧ Below w2.heap.size w2 wr) (fun v7 _ _ _ _ _ _ _ _ _ _ _ => ids.length - (intOf v7).toNat)
  case atStart => exact ⟨0, rfl, Nat.zero_le _, Below.refl _ _⟩
  case round =>
    obtain ⟨i, rfl, hi, hb⟩ := hrel
    have HB := Troupe.hid hb
    clear hb
    by_cases hlt : i < ids.length
    · obtain ⟨q, hqx⟩ : ∃ q, ids[i]? = some q := ⟨_, List.getElem?_eq_getElem hlt⟩
      obtain ⟨b3, o3, hA3, d3⟩ := row_at I2.out HB.out hqx
      subst hA3
      have QX := Troupe.hid hqx
      obtain ⟨l, hch, hll⟩ := chain_any VD.out q
      have PT := Troupe.hid (path_any q l wr (T2.out.below HB.out) hch (by omega))
      have CH := Troupe.hid hch
      clear hqx hch
      cases hv : hasV M q with
      | false =>
        have hl0 : l = [] := by
          cases l with
          | nil => rfl
          | cons k l =>
            obtain ⟨rfl, par, hm, _⟩ := CH.out
            have := hasV_mem hm; simp only at this; rw [hv] at this; cases this
        subst hl0
        go_wp2_with fail
        refine PT.out.mono ?_
        rintro e w5 ⟨A5, c5, rfl, ho5, hb5⟩
        have HB5 := Troupe.hid (HB.out.trans (hb5.mono HB.out.size))
        obtain ⟨b4, o4, hA4, d4⟩ := row_at I2.out HB5.out QX.out
        obtain ⟨rfl, rfl⟩ : b3 = b4 ∧ o3 = o4 := by simpa using hA4
        have PA := Troupe.hid (parent_not q w5 (T2.out.below HB5.out) hv)
        have HA := Troupe.hid (has_any q w5 (T2.out.below HB5.out))
        rw [hv] at HA
        clear hA4 ho5 hb5 hv d3
        go_wp2_with fail
        refine PA.out.mono ?_
        rintro e w6 ⟨rfl, rfl⟩
        go_wp2_with fail
        refine HA.out.mono ?_
        rintro e w6 ⟨rfl, rfl⟩
        go_wp2_with fail
        go_roundw
        case rel => exact ⟨i + 1, by go_num, by omega, HB5.out⟩
        case measure => simp [intOf]; omega
      | true =>
        obtain ⟨k0, l', hl'⟩ : ∃ k0 l', l = k0 :: l' := by
          cases l with
          | nil => have h : hasV M q = false := CH.out; rw [hv] at h; cases h
          | cons k l => exact ⟨k, l, rfl⟩
        subst hl'
        obtain ⟨hk0, par, hm, hch'⟩ := CH.out
        subst hk0
        have CH' := Troupe.hid hch'
        have HM := Troupe.hid hm
        have LAW := Troupe.hid (below_path VD.out CH.out hv other)
        have hll' : l'.length ≤ 100 := by rw [List.length_cons] at hll; omega
        obtain ⟨P, hP⟩ : ∃ P, P = (k0 :: l').reverse := ⟨_, rfl⟩
        obtain ⟨Q, hQ⟩ : ∃ Q, Q = l'.reverse := ⟨_, rfl⟩
        have hPQ : P = Q ++ [k0] := by rw [hP, hQ]; simp
        have hPl : P.length = Q.length + 1 := by rw [hPQ]; simp
        have hQl : Q.length ≤ 100 := by rw [hQ]; simpa using hll'
        have hPlast : P[Q.length]? = some k0 := by rw [hPQ]; simp
        have hpre : ∀ j, j < Q.length → P[j]? = Q[j]? := fun j hj => by rw [hPQ]; exact List.getElem?_append_left hj
        have hpar : Q.length = 0 → par = 0 := by
          intro h0
          have e0 : l' = [] := by
            rw [hQ, List.length_reverse] at h0; exact List.eq_nil_of_length_eq_zero h0
          subst e0
          have h1 : hasV M par = false := hch'
          rcases VD.out.par _ hm with ⟨_, h2⟩ | h2 | ⟨y, hy, e⟩
          · exact h2
          · simp at h2
          · have := hasV_mem hy; rw [e] at this; simp only at this; rw [h1] at this; cases this
        rw [← hP] at PT LAW
        have HPL := Troupe.hid hPlast
        have PRE := Troupe.hid hpre
        have HPQ := Troupe.hid hPl
        have HPAR := Troupe.hid hpar
        have HQE := Troupe.hid hQ
        have HV := Troupe.hid hv
        clear hP hQ hPQ hPl hPlast hpre hpar hch' hm hll hll' CH hv
        have hPl1 : Q.length + 1 ≤ P.length := by have := HPQ.out; omega
        have hPl2 : P.length ≤ Q.length + 1 := by have := HPQ.out; omega
        go_wp2_with fail
        refine PT.out.mono ?_
        rintro e w5 ⟨A5, c5, rfl, ho5, hb5⟩
        have HB5 := Troupe.hid (HB.out.trans (hb5.mono HB.out.size))
        obtain ⟨b4, o4, hA4, d4⟩ := row_at I2.out HB5.out QX.out
        obtain ⟨rfl, rfl⟩ : b3 = b4 ∧ o3 = o4 := by simpa using hA4
        have O5 := Troupe.hid ho5
        have PA := Troupe.hid (parent_any (k0, par) w5 (T2.out.below HB5.out) HM.out)
        have HA := Troupe.hid (has_any k0 w5 (T2.out.below HB5.out))
        rw [HV.out] at HA
        have PP := Troupe.hid (path_any par l' w5 (T2.out.below HB5.out) CH'.out (by have := HQE.out; have := congrArg List.length this; rw [List.length_reverse] at this; omega))
        rw [← HQE.out] at PP
        have hpos : (0 : Int) < (P.length : Int) := by omega
        clear hA4 ho5 hb5 d3
        go_wp2_with fail
        refine PA.out.mono ?_
        rintro e w6 ⟨rfl, rfl⟩
        go_wp2_with fail
        refine HA.out.mono ?_
        rintro e w6 ⟨rfl, rfl⟩
        go_wp2_with fail
        refine PP.out.mono ?_
        rintro e w7 ⟨A7, c7, rfl, ho7, hb7⟩
        have HB7 := Troupe.hid (HB5.out.trans (hb7.mono HB5.out.size))
        have O7 := Troupe.hid ho7
        have P7 := Troupe.hid (own_below O5.out hb7)
        obtain ⟨b5, o5, hA5, d5⟩ := row_at P7.out (Below.refl _ _) HPL.out
        subst hA5
        obtain ⟨b4, o4, hA4, d6⟩ := row_at I2.out HB7.out QX.out
        obtain ⟨rfl, rfl⟩ : b3 = b4 ∧ o3 = o4 := by simpa using hA4
        clear hA4 ho7 hb7 d4
        have n1 : ((P.length : Int) != (Q.length : Int) + 1) = false := by
          have := HPQ.out; rw [this]; simp
        have n2 : IntKind.i64.wrap ((P.length : Int) - 1) = (Q.length : Int) := by rw [IntKind.wrap_i64]; omega
        have n3 : (P.length : Int) - 1 = (Q.length : Int) := by omega
        have n4 : Q.length < P.length := by omega
        have BLW := Troupe.hid (fun W (hW : Below w2.heap.size w2 W) => (show Calls Try.prog 10 #[.pointer (some ⟨p, 0, none⟩), .int .i64 other] W (Row W (belowV M (M.length + 1) other)) from (by
          by_cases h : hasV M other = true
          · refine below_any (M.length + 1) other W (T2.out.below hW) (fun h => hgt_ex VD.out h) ?_
            obtain ⟨f1, f2, f3, _⟩ := below_facts VD.out other
            have f4 := (Vd.rm VD.out f1 f2 f3 (belowV M (M.length + 1) other).length (Nat.le_refl _)).2
            have e : belowV M (M.length + 1) other = post M (M.length + 1) other := by unfold belowV; rw [if_pos h]
            rw [← e]; omega
          · have h' : hasV M other = false := by simpa using h
            have := below_any (p := p) (S := S) 0 other W (T2.out.below hW) (fun hh => absurd hh h) (by simp [post])
            rw [post_not h'] at this
            rw [post_not h']; exact this)))
        have hBl : (belowV M (M.length + 1) other).length ≤ 100 := by
          obtain ⟨f1, f2, f3, _⟩ := below_facts VD.out other
          have f4 := (Vd.rm VD.out f1 f2 f3 (belowV M (M.length + 1) other).length (Nat.le_refl _)).2
          omega
        generalize belowV M (M.length + 1) other = Lb at *
        by_cases hQ0 : Q.length = 0
        · have hp0 := HPAR.out hQ0
          have m1 : ((Q.length : Int) == 0) = true := by simp [hQ0]
          have m2 : (par != 0) = false := by simp [hp0]
          clear hp0 hQ0
          go_wp2_with fail
          go_quiet (fail)
          go_wp2_with fail
          have DR : ∀ n, Below w7.heap.size w7 (w7.drewN n) := fun n => (Frm.refl (fun _ => False) w7).drewN n |>.below (Nat.le_refl _) (fun _ h => h.elim)
          go_loopw [13] (fun v13 wr => ∃ j : Nat, v13 = .int .i64 j ∧ j ≤ Q.length ∧ Below w7.heap.size w7 wr) (fun v13 _ => Q.length - (intOf v13).toNat)
          case atStart => exact ⟨0, rfl, Nat.zero_le _, DR _⟩
          case round =>
            obtain ⟨j, rfl, hj, hb⟩ := hrel
            have HC := Troupe.hid hb
            clear hb
            by_cases hjl : j < Q.length
            · obtain ⟨x, hx⟩ : ∃ x, Q[j]? = some x := ⟨_, List.getElem?_eq_getElem hjl⟩
              obtain ⟨b6, o6, hA6, e1⟩ := row_at P7.out HC.out ((PRE.out j hjl).trans hx)
              obtain ⟨rfl, rfl⟩ : b5 = b6 ∧ o5 = o6 := by simpa using hA6
              obtain ⟨b8, o8, hA8, e2⟩ := row_at O7.out HC.out hx
              subst hA8
              have hjp : j < P.length := by omega
              clear hx hA6
              go_wp2_with fail
              go_quiet (fail)
              go_wp2_with fail
              go_roundw
              case rel => exact ⟨j + 1, by go_num, by omega, HC.out.trans ((Frm.refl (fun _ => False) wr).drewN _ |>.below HC.out.size (fun _ h => h.elim))⟩
              case measure => simp [intOf]; omega
            · go_wp2_with fail
              go_loopw [12, 14] (fun v12 v14 wr => ∃ j : Nat, v14 = .int .i64 j ∧ j ≤ P.length ∧ v12 = .bool ((P.take j).any (· == other)) ∧ Below w7.heap.size w7 wr) (fun _ v14 _ => P.length - (intOf v14).toNat)
              case atStart => exact ⟨0, rfl, Nat.zero_le _, rfl, HC.out⟩
              case round =>
                obtain ⟨k, rfl, hk, rfl, hb⟩ := hrel
                have HD := Troupe.hid hb
                clear hb
                by_cases hkl : k < P.length
                · obtain ⟨x, hx⟩ : ∃ x, P[k]? = some x := ⟨_, List.getElem?_eq_getElem hkl⟩
                  obtain ⟨b6, o6, hA6, e1⟩ := row_at P7.out HD.out hx
                  obtain ⟨rfl, rfl⟩ : b5 = b6 ∧ o5 = o6 := by simpa using hA6
                  have AT := Troupe.hid (any_take (· == other) P k x hx)
                  clear hx hA6
                  cases hcur : (P.take k).any (· == other) with
                  | true =>
                    have AT2 : Hid ((P.take (k + 1)).any (· == other) = true) := by unfold Hid; rw [AT.out, hcur]; rfl
                    clear hcur
                    go_wp2_with fail
                    go_roundw
                    case rel => exact ⟨k + 1, by go_num, by omega, by rw [AT2.out], HD.out⟩
                    case measure => simp [intOf]; omega
                  | false =>
                    have AT2 : Hid ((P.take (k + 1)).any (· == other) = (x == other)) := by unfold Hid; rw [AT.out, hcur]; rfl
                    clear hcur
                    go_wp2_with fail
                    go_roundw
                    case rel => exact ⟨k + 1, by go_num, by omega, by rw [AT2.out], HD.out⟩
                    case measure => simp [intOf]; omega
                · have hT : Hid (P.take k = P) := List.take_of_length_le (by omega)
                  rw [hT.out]
                  obtain ⟨β, hβ⟩ : ∃ β, β = P.any (· == other) := ⟨_, rfl⟩
                  rw [← hβ] at LAW ⊢
                  have BC := Troupe.hid (BLW.out wr (HB7.out.trans (HD.out.mono HB7.out.size)))
                  clear hβ
                  go_wp2_with fail
                  refine BC.out.mono ?_
                  rintro e w8 ⟨A9, c9, rfl, ho9, hb9⟩
                  have HB9 := Troupe.hid ((HB7.out.trans (HD.out.mono HB7.out.size)).trans (hb9.mono (HB7.out.trans (HD.out.mono HB7.out.size)).size))
                  have O9 := Troupe.hid ho9
                  clear ho9 hb9
                  go_wp2_with fail
                  go_loopw [15, 17] (fun v15 v17 wr => ∃ j : Nat, v17 = .int .i64 j ∧ j ≤ Lb.length ∧ v15 = .bool ((Lb.take j).any (· == k0)) ∧ Below w8.heap.size w8 wr) (fun _ v17 _ => Lb.length - (intOf v17).toNat)
                  case atStart => exact ⟨0, rfl, Nat.zero_le _, rfl, Below.refl _ _⟩
                  case round =>
                    obtain ⟨m, rfl, hm, rfl, hb⟩ := hrel
                    have HE := Troupe.hid hb
                    have HF := Troupe.hid (HB9.out.trans (hb.mono HB9.out.size))
                    clear hb
                    by_cases hml : m < Lb.length
                    · obtain ⟨x, hx⟩ : ∃ x, Lb[m]? = some x := ⟨_, List.getElem?_eq_getElem hml⟩
                      obtain ⟨b6, o6, hA6, e1⟩ := row_at O9.out HE.out hx
                      subst hA6
                      obtain ⟨b8, o8, hA8, e2⟩ := row_at I2.out HF.out QX.out
                      obtain ⟨rfl, rfl⟩ : b3 = b8 ∧ o3 = o8 := by simpa using hA8
                      have AT := Troupe.hid (any_take (· == k0) Lb m x hx)
                      clear hx hA8
                      cases hcur : (Lb.take m).any (· == k0) with
                      | true =>
                        have AT2 : Hid ((Lb.take (m + 1)).any (· == k0) = true) := by unfold Hid; rw [AT.out, hcur]; rfl
                        clear hcur
                        go_wp2_with fail
                        go_quiet (fail)
                        go_wp2_with fail
                        go_roundw
                        case rel => exact ⟨m + 1, by go_num, by omega, by rw [AT2.out], HE.out.trans ((Frm.refl (fun _ => False) wr).drewN _ |>.below HE.out.size (fun _ h => h.elim))⟩
                        case measure => simp [intOf]; omega
                      | false =>
                        have AT2 : Hid ((Lb.take (m + 1)).any (· == k0) = (x == k0)) := by unfold Hid; rw [AT.out, hcur]; rfl
                        clear hcur
                        go_wp2_with fail
                        go_quiet (fail)
                        go_wp2_with fail
                        go_roundw
                        case rel => exact ⟨m + 1, by go_num, by omega, by rw [AT2.out], HE.out.trans ((Frm.refl (fun _ => False) wr).drewN _ |>.below HE.out.size (fun _ h => h.elim))⟩
                        case measure => simp [intOf]; omega
                    · have hT2 : Hid (Lb.take m = Lb) := List.take_of_length_le (by omega)
                      rw [hT2.out, LAW.out]
                      go_wp2_with fail
                      go_roundw
                      case rel => exact ⟨i + 1, by go_num, by omega, HF.out⟩
                      case measure => simp [intOf]; omega
        · have m1 : ((Q.length : Int) == 0) = false := by simp; exact fun e => hQ0 (by rw [e]; rfl)
          clear hQ0
          go_wp2_with fail
          go_quiet (fail)
          go_wp2_with fail
          have DR : ∀ n, Below w7.heap.size w7 (w7.drewN n) := fun n => (Frm.refl (fun _ => False) w7).drewN n |>.below (Nat.le_refl _) (fun _ h => h.elim)
          go_loopw [13] (fun v13 wr => ∃ j : Nat, v13 = .int .i64 j ∧ j ≤ Q.length ∧ Below w7.heap.size w7 wr) (fun v13 _ => Q.length - (intOf v13).toNat)
          case atStart => exact ⟨0, rfl, Nat.zero_le _, DR _⟩
          case round =>
            obtain ⟨j, rfl, hj, hb⟩ := hrel
            have HC := Troupe.hid hb
            clear hb
            by_cases hjl : j < Q.length
            · obtain ⟨x, hx⟩ : ∃ x, Q[j]? = some x := ⟨_, List.getElem?_eq_getElem hjl⟩
              obtain ⟨b6, o6, hA6, e1⟩ := row_at P7.out HC.out ((PRE.out j hjl).trans hx)
              obtain ⟨rfl, rfl⟩ : b5 = b6 ∧ o5 = o6 := by simpa using hA6
              obtain ⟨b8, o8, hA8, e2⟩ := row_at O7.out HC.out hx
              subst hA8
              have hjp : j < P.length := by omega
              clear hx hA6
              go_wp2_with fail
              go_quiet (fail)
              go_wp2_with fail
              go_roundw
              case rel => exact ⟨j + 1, by go_num, by omega, HC.out.trans ((Frm.refl (fun _ => False) wr).drewN _ |>.below HC.out.size (fun _ h => h.elim))⟩
              case measure => simp [intOf]; omega
            · go_wp2_with fail
              go_loopw [12, 14] (fun v12 v14 wr => ∃ j : Nat, v14 = .int .i64 j ∧ j ≤ P.length ∧ v12 = .bool ((P.take j).any (· == other)) ∧ Below w7.heap.size w7 wr) (fun _ v14 _ => P.length - (intOf v14).toNat)
              case atStart => exact ⟨0, rfl, Nat.zero_le _, rfl, HC.out⟩
              case round =>
                obtain ⟨k, rfl, hk, rfl, hb⟩ := hrel
                have HD := Troupe.hid hb
                clear hb
                by_cases hkl : k < P.length
                · obtain ⟨x, hx⟩ : ∃ x, P[k]? = some x := ⟨_, List.getElem?_eq_getElem hkl⟩
                  obtain ⟨b6, o6, hA6, e1⟩ := row_at P7.out HD.out hx
                  obtain ⟨rfl, rfl⟩ : b5 = b6 ∧ o5 = o6 := by simpa using hA6
                  have AT := Troupe.hid (any_take (· == other) P k x hx)
                  clear hx hA6
                  cases hcur : (P.take k).any (· == other) with
                  | true =>
                    have AT2 : Hid ((P.take (k + 1)).any (· == other) = true) := by unfold Hid; rw [AT.out, hcur]; rfl
                    clear hcur
                    go_wp2_with fail
                    go_roundw
                    case rel => exact ⟨k + 1, by go_num, by omega, by rw [AT2.out], HD.out⟩
                    case measure => simp [intOf]; omega
                  | false =>
                    have AT2 : Hid ((P.take (k + 1)).any (· == other) = (x == other)) := by unfold Hid; rw [AT.out, hcur]; rfl
                    clear hcur
                    go_wp2_with fail
                    go_roundw
                    case rel => exact ⟨k + 1, by go_num, by omega, by rw [AT2.out], HD.out⟩
                    case measure => simp [intOf]; omega
                · have hT : Hid (P.take k = P) := List.take_of_length_le (by omega)
                  rw [hT.out]
                  obtain ⟨β, hβ⟩ : ∃ β, β = P.any (· == other) := ⟨_, rfl⟩
                  rw [← hβ] at LAW ⊢
                  have BC := Troupe.hid (BLW.out wr (HB7.out.trans (HD.out.mono HB7.out.size)))
                  clear hβ
                  go_wp2_with fail
                  refine BC.out.mono ?_
                  rintro e w8 ⟨A9, c9, rfl, ho9, hb9⟩
                  have HB9 := Troupe.hid ((HB7.out.trans (HD.out.mono HB7.out.size)).trans (hb9.mono (HB7.out.trans (HD.out.mono HB7.out.size)).size))
                  have O9 := Troupe.hid ho9
                  clear ho9 hb9
                  go_wp2_with fail
                  go_loopw [15, 17] (fun v15 v17 wr => ∃ j : Nat, v17 = .int .i64 j ∧ j ≤ Lb.length ∧ v15 = .bool ((Lb.take j).any (· == k0)) ∧ Below w8.heap.size w8 wr) (fun _ v17 _ => Lb.length - (intOf v17).toNat)
                  case atStart => exact ⟨0, rfl, Nat.zero_le _, rfl, Below.refl _ _⟩
                  case round =>
                    obtain ⟨m, rfl, hm, rfl, hb⟩ := hrel
                    have HE := Troupe.hid hb
                    have HF := Troupe.hid (HB9.out.trans (hb.mono HB9.out.size))
                    clear hb
                    by_cases hml : m < Lb.length
                    · obtain ⟨x, hx⟩ : ∃ x, Lb[m]? = some x := ⟨_, List.getElem?_eq_getElem hml⟩
                      obtain ⟨b6, o6, hA6, e1⟩ := row_at O9.out HE.out hx
                      subst hA6
                      obtain ⟨b8, o8, hA8, e2⟩ := row_at I2.out HF.out QX.out
                      obtain ⟨rfl, rfl⟩ : b3 = b8 ∧ o3 = o8 := by simpa using hA8
                      have AT := Troupe.hid (any_take (· == k0) Lb m x hx)
                      clear hx hA8
                      cases hcur : (Lb.take m).any (· == k0) with
                      | true =>
                        have AT2 : Hid ((Lb.take (m + 1)).any (· == k0) = true) := by unfold Hid; rw [AT.out, hcur]; rfl
                        clear hcur
                        go_wp2_with fail
                        go_quiet (fail)
                        go_wp2_with fail
                        go_roundw
                        case rel => exact ⟨m + 1, by go_num, by omega, by rw [AT2.out], HE.out.trans ((Frm.refl (fun _ => False) wr).drewN _ |>.below HE.out.size (fun _ h => h.elim))⟩
                        case measure => simp [intOf]; omega
                      | false =>
                        have AT2 : Hid ((Lb.take (m + 1)).any (· == k0) = (x == k0)) := by unfold Hid; rw [AT.out, hcur]; rfl
                        clear hcur
                        go_wp2_with fail
                        go_quiet (fail)
                        go_wp2_with fail
                        go_roundw
                        case rel => exact ⟨m + 1, by go_num, by omega, by rw [AT2.out], HE.out.trans ((Frm.refl (fun _ => False) wr).drewN _ |>.below HE.out.size (fun _ h => h.elim))⟩
                        case measure => simp [intOf]; omega
                    · have hT2 : Hid (Lb.take m = Lb) := List.take_of_length_le (by omega)
                      rw [hT2.out, LAW.out]
                      go_wp2_with fail
                      go_roundw
                      case rel => exact ⟨i + 1, by go_num, by omega, HF.out⟩
                      case measure => simp [intOf]; omega
    · go_wp2_with fail
      go_ret
      exact ⟨rfl, BW.out.trans (HB.out.mono BW.out.size)⟩
end Go.Proofs.Ytmdiagcmfcjleaa
