/- ActKept: the walk. -/
import Derived.Test.YtfeeajodgcdflaaShape
import Derived.Test.YtfeeajodgcdflaaSame
import Derived.Test.YtfeeajodgcdflaaAlive
namespace Go.Proofs.Ytfeeajodgcdflaa
open Go.RowKit Go.Maps Go.Troupe
attribute [local go_sem] reads readAt readUpon Cls

/-- What stands while the kind is written over. -/
structure KS (w5 wr : World) (a b : Nat) (k : Kf) : Prop where
  fr : Frm (Tw a b) w5 wr
  sh : ShS wr a b k.A k.sts
theorem KS.wrt {w5 wr w' : World} {a b g : Nat} {k : Kf} (h : KS w5 wr a b k) (hg : Tw a b g) (hf : Frm (fun x => x = g) wr w') (hw : Wrt wr w') : KS w5 w' a b k :=
  ⟨h.fr.trans hf (fun _ _ e => e ▸ hg), h.sh.wrt hw⟩
theorem ShS.at_ {w : World} {a b gS i : Nat} {A : Option Addr} {sts : List St} {s : St} (h : ShS w a b A sts) (hi : sts[i]? = some s) (hA : A = some ⟨gS, 0, none⟩) :
    ∃ cs u, Blk w gS 45 cs ∧ Tw a b gS ∧ w.cell? ⟨gS, i * 2 + 1, none⟩ = some (.slice s.A s.rows.length s.cap) ∧ w.cell? ⟨gS, i * 2, none⟩ = some u ∧ ShR w a b s.A s.rows := by
  have hlt := (List.getElem?_eq_some_iff.1 hi).1
  rcases h with rfl | ⟨g, cs, hA', hb, hl, hT, hr⟩
  · simp at hi
  · rw [hA] at hA'
    simp only [Option.some.injEq, Addr.mk.injEq, and_true] at hA'
    subst hA'
    exact ⟨cs, cs[i * 2]'(by omega), hb, hT, (hb.cell _).trans (hr i s hi).1, (hb.cell _).trans (List.getElem?_eq_getElem (by omega)), (hr i s hi).2⟩
theorem ShR.at_ {w : World} {a b gR j : Nat} {A : Option Addr} {rows : List Rw} {r : Rw} (h : ShR w a b A rows) (hj : rows[j]? = some r) (hA : A = some ⟨gR, 0, none⟩) :
    ∃ cs u, Blk w gR 47 cs ∧ Tw a b gR ∧ w.cell? ⟨gR, j * 4 + 3, none⟩ = some (.slice r.A r.effs.length r.cap) ∧ w.cell? ⟨gR, j * 4, none⟩ = some u ∧ ShE w a b r.A r.effs.length := by
  have hlt := (List.getElem?_eq_some_iff.1 hj).1
  rcases h with rfl | ⟨g, cs, hA', hb, hl, hT, hr⟩
  · simp at hj
  · rw [hA] at hA'
    simp only [Option.some.injEq, Addr.mk.injEq, and_true] at hA'
    subst hA'
    exact ⟨cs, cs[j * 4]'(by omega), hb, hT, (hb.cell _).trans (hr j r hj).1, (hb.cell _).trans (List.getElem?_eq_getElem (by omega)), (hr j r hj).2⟩
theorem ShR.addr {w : World} {a b j : Nat} {A : Option Addr} {rows : List Rw} {r : Rw} (h : ShR w a b A rows) (hj : rows[j]? = some r) : ∃ g, A = some ⟨g, 0, none⟩ := by
  rcases h with rfl | ⟨g, cs, hA', -⟩
  · simp at hj
  · exact ⟨g, hA'⟩
theorem ShE.at_ {w : World} {a b m n : Nat} {A : Option Addr} (h : ShE w a b A n) (hm : m < n) :
    ∃ g cs, A = some ⟨g, 0, none⟩ ∧ Blk w g 36 cs ∧ Tw a b g ∧ m * 7 + 7 ≤ cs.length := by
  rcases h with rfl | ⟨g, cs, hA', hb, hl, hT⟩
  · omega
  · exact ⟨g, cs, hA', hb, hT, by omega⟩
set_option maxRecDepth 100000 in
set_option maxHeartbeats 8000000 in
theorem kept_walk (A : Option Addr) (c : Nat) (ks : List Kf) (kind state tag : ByteArray) (w : World) (hc : Cells w w.heap.size A (flatK ks)) (hk : KindsIn w w.heap.size ks) (hl : ks.length ≤ 140737488355328) :
    Calls Try.prog 10 #[.agg #[.slice A ks.length c], .string kind, .string state, .string tag] w fun e w' => e = .returned (.bool true) ∧ Below w.heap.size w w' := by
  have F0 : Below w.heap.size w (w.alloc (.cells #[.slice A ks.length c] 52)) := (Below.refl _ _).alloc (Nat.le_refl _) _
  have K0 : Blk (w.alloc (.cells #[.slice A ks.length c] 52)) w.heap.size 52 [.slice A ks.length c] := Blk.new _ _ _
  have HF := Troupe.hid F0
  have HK0 := Troupe.hid K0
  have HC := Troupe.hid hc
  have HKI := Troupe.hid hk
  have HKF := Troupe.hid (found_in hk kind)
  clear F0 K0 hc hk
  go_enter Try.func10, Try.ntmps10
  go_wp2_with fail
  generalize w.alloc (.cells #[.slice A ks.length c] 52) = w0 at *
  refine (alive_any w0).mono ?_
  rintro e w1 ⟨rfl, hb⟩
  have B1 := Troupe.hid (HF.out.trans (hb.mono HF.out.size))
  have K1 := Troupe.hid (HK0.out.below hb HK0.out.lt)
  have hz1 := B1.out.size
  have hz1' : w.heap.size < w1.heap.size := K1.out.lt
  have e1 := K1.out.cell
  have FD := Troupe.hid (find_any A c ks kind w1 ((HC.out.below B1.out).mono hz1) ((HKI.out.below B1.out).mono hz1) hl)
  clear hb HF HK0
  go_wp2_with fail
  refine FD.out.mono ?_
  rintro e w2 hfd
  obtain ⟨hb2, k1, rfl, hs1, ho1⟩ := found_one hfd
  obtain ⟨okb, hok⟩ : ∃ okb, (findV ks kind).isSome = okb := ⟨_, rfl⟩
  obtain ⟨P, hP⟩ : ∃ P, planV (foundV ks kind).sts state tag 0 = P := ⟨_, rfl⟩
  rw [hok]
  have hp1 := plan_same hs1.sts state tag 0
  rw [hP] at hp1
  have HOK := Troupe.hid hok
  have HP := Troupe.hid hP
  have HP1 := Troupe.hid hp1
  have B2 := Troupe.hid (B1.out.trans (hb2.mono hz1))
  have K2 := Troupe.hid (K1.out.below hb2 K1.out.lt)
  have hz2 := hb2.size
  have HO2 := Troupe.hid ho1
  have HS1 := Troupe.hid hs1
  clear e1 FD hb2 hs1 ho1 hok hP hp1 hfd
  dsimp only [Kf.val]
  have F3 : Below w2.heap.size w2 (w2.alloc (.cells #[.string k1.name, .int .i64 k1.limit, .int .i64 k1.within, .slice k1.Ac k1.cases.length k1.cc, .slice k1.A k1.sts.length k1.cap] 25)) := (Below.refl _ _).alloc (Nat.le_refl _) _
  have B3 := Troupe.hid (B2.out.trans (F3.mono B2.out.size))
  have K3 := Troupe.hid (K2.out.below F3 K2.out.lt)
  have KK3 := Troupe.hid (Blk.new w2 25 [.string k1.name, .int .i64 k1.limit, .int .i64 k1.within, .slice k1.Ac k1.cases.length k1.cc, .slice k1.A k1.sts.length k1.cap])
  have HO3 := Troupe.hid (HO2.out.below F3)
  have SH3 := Troupe.hid (HO2.out.shape.wrt (Wrt.below F3))
  have DO := Troupe.hid (do_any k1.kd state tag 0 (by omega) _ ((HO2.out.below F3).in_ HS1.out HKF.out).kd)
  have hpk : planV k1.kd.sts state tag 0 = P := HP1.out
  rw [hpk] at DO
  dsimp only [Kd.val, Kf.kd] at DO
  clear F3 hpk
  go_wp2_with fail
  generalize w2.alloc (.cells #[.string k1.name, .int .i64 k1.limit, .int .i64 k1.within, .slice k1.Ac k1.cases.length k1.cc, .slice k1.A k1.sts.length k1.cap] 25) = w3 at *
  obtain ⟨g9, hg9⟩ : ∃ g9, g9 = w2.heap.size := ⟨_, rfl⟩
  rw [← hg9] at KK3 SH3 hz2
  rw [← hg9]
  have hw3 : g9 < w3.heap.size := KK3.out.lt
  clear hg9
  refine DO.out.mono ?_
  rintro e w4 ⟨v1, rfl, hov, hb4⟩
  obtain ⟨A1, c1, rfl, hl1, hm1, -, -, -⟩ := own_form hov
  obtain ⟨Ps, Pe, Pst, Pstop, Pf⟩ := P
  dsimp only [Pl.val] at *
  have F5 : Below w4.heap.size w4 (w4.alloc (.cells #[.bool Ps, .slice A1 Pe.length c1, .string Pst, .bool Pstop, .string Pf] 30)) := (Below.refl _ _).alloc (Nat.le_refl _) _
  have b34 := hb4.trans (F5.mono hb4.size)
  have B5 := Troupe.hid (B3.out.trans (b34.mono B3.out.size))
  have K5 := Troupe.hid (K3.out.below b34 K3.out.lt)
  have KK5 := Troupe.hid (KK3.out.below b34 KK3.out.lt)
  have OV5 := Troupe.hid (own_below hov F5)
  have P5 := Troupe.hid (Blk.new w4 30 [.bool Ps, .slice A1 Pe.length c1, .string Pst, .bool Pstop, .string Pf])
  have S5 := Troupe.hid (SH3.out.wrt (Wrt.below b34))
  have hz4 : w3.heap.size ≤ w4.heap.size := hb4.size
  clear hb4 F5 b34 hov DO SH3 K1 K2 K3 KK3 HO2 HO3
  go_wp2_with fail
  generalize w4.alloc (.cells #[.bool Ps, .slice A1 Pe.length c1, .string Pst, .bool Pstop, .string Pf] 30) = w5 at *
  obtain ⟨g11, hg11⟩ : ∃ g11, g11 = w4.heap.size := ⟨_, rfl⟩
  rw [← hg11] at P5 hz4
  rw [← hg11]
  clear hg11
  have hks5 : k1.sts.length * 40 ≤ 140737488355328 := by have := HS1.out.sts.len; rw [this]; exact HKF.out.2.2.2.2
  have hrs5 : ∀ s ∈ k1.sts, s.rows.length * 56 ≤ 140737488355328 ∧ ∀ r ∈ s.rows, r.effs.length * 80 ≤ 140737488355328 := by
    intro s hs
    obtain ⟨s0, hs0, hss⟩ := HS1.out.sts.mem hs
    obtain ⟨-, -, h3, h4⟩ := HKF.out.2.2.2.1 s0 hs0
    refine ⟨by rw [hss.rows.len]; exact h4, fun r hr => ?_⟩
    obtain ⟨r0, hr0, hrr⟩ := hss.rows.mem hr
    rw [hrr.effs]
    exact (h3 r0 hr0).2.2
  have HRS := Troupe.hid hrs5
  clear hrs5
  go_loopw [12] (fun v12 wr => ∃ i : Nat, v12 = .int .i64 i ∧ i ≤ k1.sts.length ∧ KS w5 wr w1.heap.size g9 k1) (fun v12 _ => k1.sts.length - (intOf v12).toNat)
  case atStart => exact ⟨0, rfl, Nat.zero_le _, Frm.refl _ _, S5.out⟩
  case round =>
    obtain ⟨i, rfl, hi, hks⟩ := hrel
    obtain ⟨wa, rfl⟩ : ∃ wa : World, wa = wr := ⟨_, rfl⟩
    have ea := (KK5.out.frm hks.fr (fun h => by have := h.2; omega)).cell
    have HKS := Troupe.hid hks
    clear hks
    by_cases hlt : i < k1.sts.length
    · obtain ⟨s, hx⟩ : ∃ s, k1.sts[i]? = some s := ⟨_, List.getElem?_eq_getElem hlt⟩
      have hi3 : i < 140737488355328 := by omega
      obtain ⟨hrl, hel⟩ := HRS.out s (List.mem_of_getElem? hx)
      have HEL := Troupe.hid hel
      have HX := Troupe.hid hx
      obtain ⟨gS, hAS⟩ : ∃ gS, k1.A = some ⟨gS, 0, none⟩ := by
        rcases HKS.out.sh with h | ⟨g, _, hA, _⟩
        · rw [h] at hx; simp at hx
        · exact ⟨g, hA⟩
      have HAS := Troupe.hid hAS
      rw [hAS] at ea
      clear hx hel hAS
      go_wp2_with fail
      clear ea
      go_loopw [13] (fun v13 wr => ∃ j : Nat, v13 = .int .i64 j ∧ j ≤ s.rows.length ∧ KS w5 wr w1.heap.size g9 k1) (fun v13 _ => s.rows.length - (intOf v13).toNat)
      case atStart => exact ⟨0, rfl, Nat.zero_le _, HKS.out⟩
      case round =>
        obtain ⟨j, rfl, hj, hks⟩ := hrel
        obtain ⟨wb, rfl⟩ : ∃ wb : World, wb = wr := ⟨_, rfl⟩
        have ea := (KK5.out.frm hks.fr (fun h => by have := h.2; omega)).cell
        rw [HAS.out] at ea
        obtain ⟨csS, uS, hbS, hTS, c1, cn, hshR⟩ := hks.sh.at_ HX.out HAS.out
        have HKS2 := Troupe.hid hks
        by_cases hjl : j < s.rows.length
        · obtain ⟨r, hr⟩ : ∃ r, s.rows[j]? = some r := ⟨_, List.getElem?_eq_getElem hjl⟩
          obtain ⟨gR, hAR⟩ := hshR.addr hr
          have hj3 : j < 140737488355328 := by omega
          have her := HEL.out r (List.mem_of_getElem? hr)
          have HR := Troupe.hid hr
          have HAR := Troupe.hid hAR
          rw [hAR] at c1
          clear hks hbS cn hshR hr hAR
          go_wp2_with fail
          clear ea c1
          go_loopw [14] (fun v14 wr => ∃ m : Nat, v14 = .int .i64 m ∧ m ≤ r.effs.length ∧ KS w5 wr w1.heap.size g9 k1) (fun v14 _ => r.effs.length - (intOf v14).toNat)
          case atStart => exact ⟨0, rfl, Nat.zero_le _, HKS2.out⟩
          case round =>
            obtain ⟨m, rfl, hm, hks⟩ := hrel
            obtain ⟨wc, rfl⟩ : ∃ wc : World, wc = wr := ⟨_, rfl⟩
            have ea := (KK5.out.frm hks.fr (fun h => by have := h.2; omega)).cell
            rw [HAS.out] at ea
            obtain ⟨csS', uS', hbS', hTS', c1, cn, hshR⟩ := hks.sh.at_ HX.out HAS.out
            obtain ⟨csR, uR, hbR, hTR, c3, ct, hshE⟩ := hshR.at_ HR.out HAR.out
            rw [HAR.out] at c1
            have HKS3 := Troupe.hid hks
            by_cases hml : m < r.effs.length
            · obtain ⟨gE, csE, hAE, hbE, hTE, hq⟩ := hshE.at_ hml
              rw [hAE] at c3
              have TH := Troupe.hid (there7 hbE hq)
              have hm3 : m < 140737488355328 := by omega
              have NX := Troupe.hid (hks.wrt hTE (Frm.setCells (eff7 5) wc (m * 7)) (Wrt.setCells (eff7 5) (m * 7) hbE))
              clear hks hbS' cn hshR hbR ct hshE hAE hbE hq
              go_wp2_with (refine wpList_store_mid rfl 36 (.tmp 76) (.tmp 75) rfl gE (m * 7) (eff7 5).toArray rfl rfl TH.out size36 (one7 5) ?_; dsimp only; generalize wc.setCells gE (m * 7) (eff7 5) = wz at *)
              go_roundw
              case rel => exact ⟨m + 1, by go_num, by omega, NX.out⟩
              case measure => simp [intOf]; omega
            · obtain rfl : m = r.effs.length := by omega
              have fR := hbR.frozen
              have NX := Troupe.hid (hks.wrt hTR (Frm.one wc ⟨gR, j * 4, none⟩ (.string ⟨#[63]⟩)) (Wrt.set hbR (j * 4) (.string ⟨#[63]⟩) (fun h => absurd h (by decide)) (fun _ => by omega)))
              clear hks hbS' cn hshR hbR hshE
              go_wp2_with fail
              go_roundw
              case rel => exact ⟨j + 1, by go_num, by omega, NX.out⟩
              case measure => simp [intOf]; omega
        · obtain rfl : j = s.rows.length := by omega
          have fS := hbS.frozen
          have NX := Troupe.hid (hks.wrt hTS (Frm.one wb ⟨gS, i * 2, none⟩ (.string ⟨#[63]⟩)) (Wrt.set hbS (i * 2) (.string ⟨#[63]⟩) (fun _ => by omega) (fun h => absurd h (by decide))))
          clear hks hbS hshR
          go_wp2_with fail
          go_roundw
          case rel => exact ⟨i + 1, by go_num, by omega, NX.out⟩
          case measure => simp [intOf]; omega
    · obtain rfl : i = k1.sts.length := by omega
      have fr := HKS.out.fr
      have hba : Below w.heap.size w wa := B5.out.trans (fr.below B5.out.size (fun x hx => by have := hx.1; omega))
      have HBA := Troupe.hid hba
      have hza := hba.size
      have ka := K5.out.frm fr (fun h => by have := h.1; omega)
      have KA := Troupe.hid ka
      have el := ka.cell
      have PA := Troupe.hid (P5.out.frm fr (fun h => by have := h.2; omega))
      have OVA := Troupe.hid (own_frm OV5.out fr (fun x hx h => by have := (OV5.out.lt x hx).1; have := h.2; omega))
      have FD := Troupe.hid (find_any A c ks kind wa ((HC.out.below hba).mono hza) ((HKI.out.below hba).mono hza) hl)
      clear fr hba ka
      go_wp2_with fail
      refine FD.out.mono ?_
      rintro e w6 hfd
      obtain ⟨hb6, k2, rfl, hs2, ho2⟩ := found_one hfd
      rw [HOK.out]
      have hp2 := plan_same hs2.sts state tag 0
      rw [HP.out] at hp2
      have B6 := Troupe.hid (HBA.out.trans (hb6.mono hza))
      have PA6 := Troupe.hid (PA.out.below hb6 PA.out.lt)
      have OVA6 := Troupe.hid (own_below OVA.out hb6)
      have F7 : Below w6.heap.size w6 (w6.alloc (.cells #[.string k2.name, .int .i64 k2.limit, .int .i64 k2.within, .slice k2.Ac k2.cases.length k2.cc, .slice k2.A k2.sts.length k2.cap] 25)) := (Below.refl _ _).alloc (Nat.le_refl _) _
      have B7 := Troupe.hid (B6.out.trans (F7.mono B6.out.size))
      have PA7 := Troupe.hid (PA6.out.below F7 PA6.out.lt)
      have OVA7 := Troupe.hid (own_below OVA6.out F7)
      have HO7 := Troupe.hid ((ho2.base hza).below F7)
      have KB7 := Troupe.hid (Blk.new w6 25 [.string k2.name, .int .i64 k2.limit, .int .i64 k2.within, .slice k2.Ac k2.cases.length k2.cc, .slice k2.A k2.sts.length k2.cap])
      have DO := Troupe.hid (do_any k2.kd state tag 0 (by omega) _ (((ho2.base hza).below F7).in_ hs2 HKF.out).kd)
      have hpk : planV k2.kd.sts state tag 0 = ⟨Ps, Pe, Pst, Pstop, Pf⟩ := hp2
      rw [hpk] at DO
      have HPK := Troupe.hid hpk
      have HS2 := Troupe.hid hs2
      dsimp only [Kd.val, Kf.kd, Kf.val] at DO ⊢
      clear hfd hb6 hs2 ho2 hp2 F7 hpk el FD PA6 OVA6 PA OVA
      go_wp2_with fail
      generalize w6.alloc (.cells #[.string k2.name, .int .i64 k2.limit, .int .i64 k2.within, .slice k2.Ac k2.cases.length k2.cc, .slice k2.A k2.sts.length k2.cap] 25) = w7 at *
      generalize w6.heap.size = g15 at *
      refine DO.out.mono ?_
      rintro e w8 ⟨v2, rfl, hov2, hb8⟩
      obtain ⟨A2, c2, rfl, hl2, hm2, -, -, -⟩ := own_form hov2
      dsimp only [Pl.val]
      have F9 : Below w8.heap.size w8 (w8.alloc (.cells #[.bool Ps, .slice A2 Pe.length c2, .string Pst, .bool Pstop, .string Pf] 30)) := (Below.refl _ _).alloc (Nat.le_refl _) _
      have b79 := hb8.trans (F9.mono hb8.size)
      have B9 := Troupe.hid (B7.out.trans (b79.mono B7.out.size))
      have B79 := Troupe.hid b79
      have LV := Troupe.hid (fun k hk => (hov2.lt k hk).2)
      have OV9 := Troupe.hid (own_below hov2 F9)
      have Q9 := Troupe.hid (Blk.new w8 30 [.bool Ps, .slice A2 Pe.length c2, .string Pst, .bool Pstop, .string Pf])
      have hz7 : w7.heap.size ≤ w8.heap.size := hb8.size
      clear hov2 hb8 F9 b79 DO
      go_wp2_with fail
      generalize w8.alloc (.cells #[.bool Ps, .slice A2 Pe.length c2, .string Pst, .bool Pstop, .string Pf] 30) = w9 at *
      obtain ⟨g17, hg17⟩ : ∃ g17, g17 = w8.heap.size := ⟨_, rfl⟩
      rw [← hg17] at Q9 hz7 LV
      rw [← hg17]
      clear hg17
      go_loopw [18] (fun v18 wr => ∃ m : Nat, v18 = .int .i64 m ∧ m ≤ Pe.length ∧ Frm (Tw w7.heap.size g17) w9 wr ∧ (Pe.length = 0 ∨ ∃ g cs, A2 = some ⟨g, 0, none⟩ ∧ Blk wr g 36 cs ∧ Pe.length * 7 ≤ cs.length ∧ Tw w7.heap.size g17 g)) (fun v18 _ => Pe.length - (intOf v18).toNat)
      case atStart =>
        refine ⟨0, rfl, Nat.zero_le _, Frm.refl _ _, ?_⟩
        rcases Nat.eq_zero_or_pos Pe.length with h0 | h0
        · exact .inl h0
        · obtain ⟨g, cs, hA, hb, hl, hT, -⟩ := own_place OV9.out h0
          exact .inr ⟨g, cs, hA, hb, hl, hT.1, LV.out g (by rw [hA]; rfl)⟩
      case round =>
        obtain ⟨m, rfl, hm, hfr, hsh⟩ := hrel
        obtain ⟨wd, rfl⟩ : ∃ wd : World, wd = wr := ⟨_, rfl⟩
        have HFR := Troupe.hid hfr
        have eq := (Q9.out.frm hfr (fun h => by have := h.2; omega)).cell
        by_cases hml : m < Pe.length
        · obtain ⟨g, cs, hA, hb, hl7, hT⟩ : ∃ g cs, A2 = some ⟨g, 0, none⟩ ∧ Blk wd g 36 cs ∧ Pe.length * 7 ≤ cs.length ∧ Tw w7.heap.size g17 g := by
            rcases hsh with h | h
            · omega
            · exact h
          have TH := Troupe.hid (there7 (o := m * 7) hb (by omega))
          have hm3 : m < 9223372036854775807 := by unfold maxLen at hm2; omega
          have hfr' := hfr.trans (Frm.setCells (g := g) (eff7 99) wd (m * 7)) (fun _ _ h => h ▸ hT)
          obtain ⟨cs', hb', hlc, -⟩ := Blk.setCells (eff7 99) (m * 7) hb
          have NX : Hid (Frm (Tw w7.heap.size g17) w9 (wd.setCells g (m * 7) (eff7 99)) ∧ (Pe.length = 0 ∨ ∃ g' cs, A2 = some ⟨g', 0, none⟩ ∧ Blk (wd.setCells g (m * 7) (eff7 99)) g' 36 cs ∧ Pe.length * 7 ≤ cs.length ∧ Tw w7.heap.size g17 g')) :=
            ⟨hfr', .inr ⟨g, cs', hA, hb', by omega, hT⟩⟩
          subst hA
          clear hfr hsh hb hfr' hb' hlc
          go_wp2_with (refine wpList_store_mid rfl 36 (.tmp 112) (.tmp 111) rfl g (m * 7) (eff7 99).toArray rfl rfl TH.out size36 (one7 99) ?_; dsimp only; generalize wd.setCells g (m * 7) (eff7 99) = wz at *)
          go_roundw
          case rel => exact ⟨m + 1, by go_num, by omega, NX.out.1, NX.out.2⟩
          case measure => simp [intOf]; omega
        · obtain rfl : m = Pe.length := by omega
          have b7d := B79.out.trans (hfr.below B79.out.size (fun x hx => hx.1))
          have BD := Troupe.hid (B7.out.trans (b7d.mono B7.out.size))
          have hod := HO7.out.below b7d
          have HOD := Troupe.hid hod
          have PAD := Troupe.hid (PA7.out.below b7d PA7.out.lt)
          have KBD := Troupe.hid (KB7.out.below b7d KB7.out.lt)
          have OVD := Troupe.hid (own_below OVA7.out b7d)
          clear hfr hsh b7d hod
          let S1 : World → Prop := fun w' => Below wd.heap.size wd w'
          have hne : Nonempty (SW S1) := ⟨⟨wd, Below.refl _ _⟩⟩
          have fp : ∀ (x : SW S1) (i : Nat), x.w.cell? ⟨g11, i, none⟩ = [Value.bool Ps, .slice A1 Pe.length c1, .string Pst, .bool Pstop, .string Pf][i]? := fun x i => (PAD.out.below x.h PAD.out.lt).cell i
          have fk : ∀ (x : SW S1) (i : Nat), x.w.cell? ⟨g15, i, none⟩ = [Value.string k2.name, .int .i64 k2.limit, .int .i64 k2.within, .slice k2.Ac k2.cases.length k2.cc, .slice k2.A k2.sts.length k2.cap][i]? := fun x i => (KBD.out.below x.h KBD.out.lt).cell i
          go_upto_region 23 with (fail)
          refine region_plan (S := Cls S1) (.read 0 (.read 1 (.read 2 (.read 3 (.read 4 (.read 5 (.read 6 (.read 7 (.one 8 .tail))))))))) 9 (by kernel_rfl) (by kernel_rfl) (fun _ _ d _ _ h => by cases d <;> exact h) ?_
          intro wf hh o1' o2' o3'
          have F16 : Below wd.heap.size wd wf := (Frm.of_heap (S := fun _ => False) hh o1' o2' o3').below (Nat.le_refl _) (fun _ h => h.elim)
          clear hh o1' o2' o3'
          refine ⟨Cls.of F16, ?_⟩
          repeat (refine wpPlan_read rfl (fun K hK => ?_); go_simp; refine hK _ ?_; clear hK K)
          clear fp fk eq hne
          have DO3 := Troupe.hid (do_any k2.kd state tag 0 (by omega) wf ((HOD.out.below F16).in_ HS2.out HKF.out).kd)
          have hpk : planV k2.kd.sts state tag 0 = ⟨Ps, Pe, Pst, Pstop, Pf⟩ := HPK.out
          rw [hpk] at DO3
          dsimp only [Kd.val, Kf.kd] at DO3
          have HF16 := Troupe.hid F16
          have OVF := Troupe.hid (own_below OVD.out F16)
          clear F16 hpk
          refine wpPlan_one rfl ?_
          go_wp2_with fail
          refine DO3.out.mono ?_
          rintro e wg ⟨v3, rfl, ho3, hb⟩
          have ho1 := own_below OVF.out hb
          obtain ⟨A3, c3, rfl, -, -, hc3, -, -⟩ := own_form ho3
          have SM := Troupe.hid (same_eq ⟨Ps, Pe, Pst, Pstop, Pf⟩ A1 A3 c1 c3 wg (own_cells ho1) hc3 (by dsimp only; unfold maxLen at hm1; omega))
          have FG := Troupe.hid (HF16.out.trans (hb.mono HF16.out.size))
          clear hb ho1 ho3 hc3 DO3
          dsimp only [Pl.val] at SM ⊢
          go_wp2_with fail
          refine ⟨Cls.of FG.out, ?_⟩
          refine wpPlan_tail ?_
          simp only [List.drop_succ_cons, List.drop_zero]
          go_wp2_with fail
          refine SM.out.mono ?_
          rintro e wh ⟨rfl, hb⟩
          have FH := Troupe.hid (BD.out.trans ((FG.out.trans (hb.mono FG.out.size)).mono BD.out.size))
          clear hb
          go_wp2_with fail
          go_ret
          exact ⟨rfl, FH.out⟩
end Go.Proofs.Ytfeeajodgcdflaa
