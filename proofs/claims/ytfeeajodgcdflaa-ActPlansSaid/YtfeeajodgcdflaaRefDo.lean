/- The reference's Do by contract. -/
import Derived.Test.YtfeeajodgcdflaaRefRow
import Derived.Test.YtfeeajodgcdflaaDo
import Derived.Test.YtfeeajodgcdflaaMixo
namespace Go.Proofs.Ytfeeajodgcdflaa
open Go.RowKit Go.Maps Go.Troupe
attribute [local go_sem] reads readAt readUpon Cls

def failV : List Eff → ByteArray
  | [] => noS
  | e :: es => if e.d = 11 then noS else if e.d = 12 then e.name else failV es
theorem doGo_fail (n : Int) (st0 : ByteArray) : ∀ (l : List Eff) (p : Pl), p.fail = noS → (doGo n st0 false l p).fail = failV l
  | [], p, h => by simp [doGo, failV, h]
  | e :: es, p, h => by
    unfold doGo failV
    by_cases h4 : e.d = 4
    · simp [h4]; exact doGo_fail n st0 es p h
    by_cases h3 : e.d = 3
    · simp [h3]; exact doGo_fail n st0 es _ h
    by_cases h11 : e.d = 11
    · simp [h11, h]
    by_cases h12 : e.d = 12
    · simp [h12]
    rw [if_neg h4, if_neg h3, if_neg h11, if_neg h12, if_neg h11, if_neg h12]
    split
    · exact doGo_fail n st0 es _ h
    · exact doGo_fail n st0 es _ h
theorem doGo_first (n : Int) (st0 : ByteArray) (l : List Eff) (p : Pl) (h : ∀ e, l[0]? = some e → e.d ≠ 4) : doGo n st0 true l p = doGo n st0 false l p := by
  cases l with
  | nil => simp [doGo]
  | cons e es => unfold doGo; rw [if_neg (h e rfl), if_neg (h e rfl)]
set_option maxRecDepth 100000 in
set_option maxHeartbeats 4000000 in
theorem rdo_any (k : Kd) (state tag : ByteArray) (n : Int) (hn : -9223372036854775808 ≤ n ∧ n ≤ 9223372036854775807) (w : World) (hk : KindIn w w.heap.size k) :
    Calls Try.prog 14 #[k.val, .string state, .string tag, .int .i64 n] w (Done (planV k.sts state tag n) w) := by
  obtain ⟨wb, hwb⟩ : ∃ wb, wb = ((w.alloc (.cells #[.string k.name, .int .i64 k.limit, .int .i64 k.within, .slice k.Ac k.nc k.cc, .slice k.A k.sts.length k.cap] 25)).alloc (.cells #[.bool false, .slice none 0 0, .string ⟨#[]⟩, .bool false, .string ⟨#[]⟩] 30)) := ⟨_, rfl⟩
  have b0 : Below w.heap.size w wb := by rw [hwb]; exact (((Below.refl _ w).alloc (Nat.le_refl _) _).alloc (by simp) _)
  have k0 : Blk wb w.heap.size 25 [.string k.name, .int .i64 k.limit, .int .i64 k.within, .slice k.Ac k.nc k.cc, .slice k.A k.sts.length k.cap] := by rw [hwb]; exact ((Blk.new w 25 [.string k.name, .int .i64 k.limit, .int .i64 k.within, .slice k.Ac k.nc k.cc, .slice k.A k.sts.length k.cap]).alloc _)
  have k8 : Blk wb (w.heap.size + 1) 30 [.bool false, .slice none 0 0, .string noS, .bool false, .string noS] := by rw [hwb]; simpa [noS] using (Blk.new (w.alloc (.cells #[.string k.name, .int .i64 k.limit, .int .i64 k.within, .slice k.Ac k.nc k.cc, .slice k.A k.sts.length k.cap] 25)) 30 [.bool false, .slice none 0 0, .string ⟨#[]⟩, .bool false, .string ⟨#[]⟩])
  have hs0 := b0.size
  have RW := Troupe.hid (rrow_any k state tag n wb ((hk.below b0).mono hs0))
  have WB := Troupe.hid hwb
  have HK := Troupe.hid hk
  have B0 := Troupe.hid b0
  have K0 := Troupe.hid k0
  have K8 := Troupe.hid k8
  obtain ⟨PP, hPP⟩ : ∃ PP, planV k.sts state tag n = PP := ⟨_, rfl⟩
  rw [hPP]
  have HP := Troupe.hid hPP
  clear hPP hk b0 k0 k8 hwb
  dsimp only [Kd.val] at RW ⊢
  go_enter Try.func14, Try.ntmps14
  go_wp2_with fail
  rw [← WB.out]
  clear WB
  have hg8 : w.heap.size ≤ w.heap.size + 1 := by omega
  have HG8 := Troupe.hid hg8
  clear hg8
  generalize w.heap.size + 1 = g8 at *
  refine RW.out.mono ?_
  rintro e w1 ⟨⟨i, j, rfl, hat⟩, hb1⟩
  have K1 := Troupe.hid (K8.out.below hb1 K8.out.lt)
  have B1 := Troupe.hid (B0.out.trans (hb1.mono B0.out.size))
  have e0 := (K0.out.below hb1 K0.out.lt).cell
  clear hb1 hs0 RW
  rcases hat with ⟨rfl, hr⟩ | ⟨a, b, s, r, rfl, rfl, hs, hrr, hr⟩
  · have hPP : PP = ⟨false, [], state, false, noS⟩ := by rw [← HP.out]; unfold planV; rw [hr]
    subst hPP
    have d8 := K1.out.cell
    have f8 := K1.out.frozen
    clear hr e0
    go_wp2_with fail
    (try simp only [Exit.inBlock, Exit.then])
    obtain ⟨s1, s2⟩ := set5 K1.out (.bool false) (.slice none 0 0) (.string state) (.bool false) (.string ⟨#[]⟩)
    refine bodyPost_ret (results_cell_row rfl _ _ g8 30 _ (0, 0) _ rfl s1 Try.underlying30 rfl size30) rfl ⟨_, rfl, World.ownsRow_nil _ _ _ _, B1.out.trans (s2.below B1.out.size (fun k hk => by have := HG8.out; omega))⟩
  · have hst := HK.out.2.1 s (List.mem_of_getElem? hs)
    have hrc := hst.2.1 r (List.mem_of_getElem? hrr)
    have ha : a < k.sts.length := (List.getElem?_eq_some_iff.1 hs).1
    have hb : b < s.rows.length := (List.getElem?_eq_some_iff.1 hrr).1
    have hl1 := HK.out.2.2
    have hl2 := hst.2.2
    obtain ⟨b1, o1, hA1, _, hc1⟩ := cells_at (sz := 2) (fun _ => rfl) (by decide) (HK.out.1.below B1.out) hs
    obtain ⟨b2, o2, hA2, _, hc2⟩ := cells_at (sz := 4) (fun _ => rfl) (by decide) (hst.1.below B1.out) hrr
    have hPP : doGo n state true r.effs ⟨false, [], state, false, noS⟩ = PP := by rw [← HP.out]; unfold planV; rw [hr]
    have hle := hrc.2.2
    have SRC := Troupe.hid hrc.1
    have HPP := Troupe.hid hPP
    have c1 : w1.cell? ⟨b1, o1 + a * 2 + 1, none⟩ = some (.slice s.A s.rows.length s.cap) := hc1 1 (by decide) _ rfl
    have c2 : w1.cell? ⟨b2, o2 + b * 4 + 3, none⟩ = some (.slice r.A r.effs.length r.cap) := hc2 3 (by decide) _ rfl
    rw [hA1] at e0 ⊢
    rw [hA2] at c1
    clear hst hrc hc1 hc2 hr hs hrr HP hPP HK hA1 hA2
    obtain ⟨effs, heffs⟩ : ∃ effs, effs = r.effs := ⟨_, rfl⟩
    rw [← heffs] at hle SRC c2 HPP
    clear heffs
    have HLE := Troupe.hid hle
    clear hle
    have hj0 : ¬ (b : Int) < 0 := by omega
    have hnz : effs.length = 0 ∨ ∃ e, effs[0]? = some e := by
      cases effs with
      | nil => exact .inl rfl
      | cons e es => exact .inr ⟨e, rfl⟩
    have hstash : (∃ e b o, effs[0]? = some e ∧ e.d = 4 ∧ r.A = some ⟨b, o, none⟩ ∧ 0 < effs.length ∧ w1.cell? ⟨b, o, none⟩ = some (.int .i64 4)) ∨ ((∀ e, effs[0]? = some e → e.d ≠ 4) ∧ (effs.length = 0 ∨ (0 < effs.length ∧ ∃ b o d, r.A = some ⟨b, o, none⟩ ∧ w1.cell? ⟨b, o, none⟩ = some (.int .i64 d) ∧ (d == 4) = false))) := by
      rcases hnz with h | ⟨e, he⟩
      · refine .inr ⟨fun e he => ?_, .inl h⟩
        have := (List.getElem?_eq_some_iff.1 he).1
        omega
      · have hp : 0 < effs.length := (List.getElem?_eq_some_iff.1 he).1
        obtain ⟨b, o, hA, _, hc⟩ := cells_at (sz := 7) (fun _ => rfl) (by decide) (SRC.out.below B1.out) he
        have hc0 : w1.cell? ⟨b, o, none⟩ = some (.int .i64 e.d) := by simpa using hc 0 (by decide) _ rfl
        by_cases h4 : e.d = 4
        · exact .inl ⟨e, b, o, he, h4, hA, hp, by rw [← h4]; exact hc0⟩
        · refine .inr ⟨fun e' he' => ?_, .inr ⟨hp, b, o, e.d, hA, hc0, by rw [beq_eq_false_iff_ne]; exact h4⟩⟩
          rw [he] at he'; cases he'; exact h4
    clear hnz
    rcases hstash with ⟨e, b3, o3, he, h4, hA3, hp, c3⟩ | ⟨hne4, hcase⟩
    · have hPP : PP = ⟨true, [], state, false, noS⟩ := by
        rw [← HPP.out]
        cases effs with
        | nil => simp at he
        | cons x es => simp at he; subst he; unfold doGo; rw [if_pos h4]; rfl
      subst hPP
      rw [hA3] at c2
      have d8 := K1.out.cell
      have f8 := K1.out.frozen
      clear he h4 HPP
      go_wp2_with fail
      (try simp only [Exit.inBlock, Exit.then])
      obtain ⟨s1, s2⟩ := set5 K1.out (.bool true) (.slice none 0 0) (.string state) (.bool false) (.string ⟨#[]⟩)
      refine bodyPost_ret (results_cell_row rfl _ _ g8 30 _ (0, 0) _ rfl s1 Try.underlying30 rfl size30) rfl ⟨_, rfl, World.ownsRow_nil _ _ _ _, B1.out.trans (s2.below B1.out.size (fun k hk => by have := HG8.out; omega))⟩
    · have hPP := HPP.out
      rw [doGo_first n state effs _ hne4] at hPP
      have FV := Troupe.hid (doGo_fail n state effs ⟨false, [], state, false, noS⟩ rfl)
      rw [hPP] at FV
      have PPH := Troupe.hid hPP
      have D1 : DS w (w1.alloc (.cells #[.bool false, .slice none 0 0, .string state, .bool false, .string ⟨#[]⟩] 30)) g8 w1.heap.size none 0 [] [] state none 0 := by
        have F : Below w1.heap.size w1 (w1.alloc (.cells #[.bool false, .slice none 0 0, .string state, .bool false, .string ⟨#[]⟩] 30)) := (Below.refl _ _).alloc (Nat.le_refl _) _
        exact ⟨K1.out.below F K1.out.lt, Blk.new _ _ _, World.ownsRow_nil _ _ _ _, World.ownsRow_nil _ _ _ _, (fun b hb => by simp [Value.ownBlock] at hb), Nat.ne_of_lt K1.out.lt, HG8.out, B1.out.size, B1.out.trans (F.mono B1.out.size)⟩
      have DH := Troupe.hid D1
      clear D1 hPP HPP hne4
      rcases hcase with h0 | ⟨hp, b3, o3, d3, hA3, c3, hd3⟩
      · have hp : ¬ 0 < effs.length := by omega
        have hen : effs = [] := List.eq_nil_of_length_eq_zero h0
        subst hen
        have hPP : PP = ⟨false, [], state, false, noS⟩ := by rw [← PPH.out]; simp [doGo]
        subst hPP
        clear PPH FV
        go_wp2_with fail
        clear c2 e0 hp h0
        generalize w1.alloc (.cells #[.bool false, .slice none 0 0, .string state, .bool false, .string ⟨#[]⟩] 30) = w2 at *
        generalize w1.heap.size = g9 at *
        have e9 := DH.out.b9.cell
        have e8 := DH.out.b8.cell
        have f8 := DH.out.b8.frozen
        go_loopw [13, 14] (fun v13 _ wr => v13 = .int .i64 0 ∧ wr = w2) (fun _ _ _ => 0)
        case atStart => exact ⟨rfl, rfl⟩
        case round =>
          obtain ⟨rfl, hw2⟩ := hrel
          subst hw2
          go_wp2_with fail
          go_loopw [15] (fun v15 wq => v15 = .int .i64 0 ∧ wq = wr) (fun _ _ => 0)
          case atStart => exact ⟨rfl, rfl⟩
          case round =>
            obtain ⟨rfl, hw2⟩ := hrel
            subst hw2
            go_wp2_with fail
            (try simp only [Exit.inBlock, Exit.then])
            obtain ⟨s1, s2, s3⟩ := DH.out.fin false state false noS
            refine bodyPost_ret (results_cell_row rfl _ _ g8 30 _ (0, 0) _ rfl s1 Try.underlying30 rfl size30) rfl ⟨_, rfl, s2, s3⟩
      · skip
        rw [hA3] at c2 SRC
        go_upto_block 0 with (fail)
        have d0 := hp
        clear c3 hp
        clear c2 e0 d0
        have h9 : ¬ w.heap.size ≤ 0 ∨ True := .inr trivial
        generalize w1.alloc (.cells #[.bool false, .slice none 0 0, .string state, .bool false, .string ⟨#[]⟩] 30) = w2 at *
        generalize w1.heap.size = g9 at *
        go_cut [13, 14] from 52 to 120 (fun _ _ w' => ∃ (es : List Eff) (st : ByteArray) (Av : Option Addr) (cv : Nat) (sp : Bool) (w0 : World), DS w w0 g8 g9 none 0 [] es st Av cv ∧ Frm (fun k => k = g9) w0 w' ∧ Blk w' g9 30 [.bool false, .slice Av es.length cv, .string st, .bool sp, .string noS] ∧ PP = ⟨false, es, st, sp, failV effs⟩)
        case first =>
          go_wp2_with fail
          go_loopw [13, 14] (fun v13 _ wr => ∃ (i : Nat) (es : List Eff) (st : ByteArray) (Av : Option Addr) (cv : Nat), i ≤ effs.length ∧ v13 = .int .i64 i ∧ es.length ≤ i ∧ ((DS w wr g8 g9 none 0 [] es st Av cv ∧ doGo n state false (effs.drop i) ⟨false, es, st, false, noS⟩ = PP) ∨ (∃ w0, DS w w0 g8 g9 none 0 [] es st Av cv ∧ wr = w0.setCell ⟨g9, 3, none⟩ (.bool true) ∧ PP = ⟨false, es, st, true, noS⟩))) (fun v13 _ _ => effs.length - (intOf v13).toNat)
          case atStart => exact ⟨0, [], state, none, 0, Nat.zero_le _, rfl, Nat.zero_le _, .inl ⟨DH.out, by simpa using PPH.out⟩⟩
          case round =>
            obtain ⟨i, es, st, Av, cv, hi, rfl, hel, hcs⟩ := hrel
            have hi3 : i < 9223372036854775807 := by have := HLE.out; omega
            rcases hcs with ⟨hds, hpp⟩ | ⟨w0, hds, rfl, hpp⟩
            · have DQ := Troupe.hid hds
              have PQ := Troupe.hid hpp
              have e9 := hds.b9.cell
              clear hds hpp
              by_cases hlt : i < effs.length
              · obtain ⟨e, hx⟩ : ∃ e, effs[i]? = some e := ⟨_, List.getElem?_eq_getElem hlt⟩
                have hdrop : effs.drop i = e :: effs.drop (i + 1) := by rw [List.drop_eq_getElem_cons hlt, (List.getElem?_eq_some_iff.1 hx).2]
                have hpp := PQ.out
                rw [hdrop] at hpp
                obtain ⟨b, off, hA, hbb, hc⟩ := cells_at (sz := 7) (fun _ => rfl) (by decide) (SRC.out.below DQ.out.be) hx
                obtain ⟨d, ref, slot, name, v, m, delay⟩ := e
                have c0 : wr.cell? ⟨b, off + i * 7, none⟩ = some (.int .i64 d) := hc 0 (by decide) _ rfl
                have c1 : wr.cell? ⟨b, off + i * 7 + 1, none⟩ = some (.string ref) := hc 1 (by decide) _ rfl
                have c2 : wr.cell? ⟨b, off + i * 7 + 2, none⟩ = some (.string slot) := hc 2 (by decide) _ rfl
                have c3 : wr.cell? ⟨b, off + i * 7 + 3, none⟩ = some (.string name) := hc 3 (by decide) _ rfl
                have c4 : wr.cell? ⟨b, off + i * 7 + 4, none⟩ = some (.int .i64 v) := hc 4 (by decide) _ rfl
                have c5 : wr.cell? ⟨b, off + i * 7 + 5, none⟩ = some (.int .i64 m) := hc 5 (by decide) _ rfl
                have c6 : wr.cell? ⟨b, off + i * 7 + 6, none⟩ = some (.int .i64 delay) := hc 6 (by decide) _ rfl
                simp only [Option.some.injEq, Addr.mk.injEq, and_true] at hA
                obtain ⟨rfl, rfl⟩ := hA
                clear hc hx hdrop
                have HPQ := Troupe.hid hpp
                clear hpp PQ
                by_cases k12 : d = 12
                · subst k12
                  have hPP : PP = ⟨false, es, st, false, name⟩ := by rw [← HPQ.out]; simp [doGo]
                  have hP2 : PP = ⟨false, es, st, false, failV effs⟩ := by rw [← FV.out, hPP]
                  have HP2 := Troupe.hid hP2
                  clear hPP hP2 HPQ
                  go_wp2_with fail
                  go_meet
                  case rel => exact ⟨es, st, Av, cv, false, wr, DQ.out, Frm.refl _ _, DQ.out.b9, HP2.out⟩
                have b12 : (d == 12) = false := by rw [beq_eq_false_iff_ne]; exact k12
                have Da : DS w (wr.alloc (.cells #[.int .i64 d, .string ref, .string slot, .string name, .int .i64 v, .int .i64 m, .int .i64 delay] 36)) g8 g9 none 0 [] es st Av cv := DQ.out.below ((Below.refl _ _).alloc (Nat.le_refl _) _)
                have Ba : Blk (wr.alloc (.cells #[.int .i64 d, .string ref, .string slot, .string name, .int .i64 v, .int .i64 m, .int .i64 delay] 36)) wr.heap.size 36 [.int .i64 d, .string ref, .string slot, .string name, .int .i64 v, .int .i64 m, .int .i64 delay] := Blk.new _ _ _
                have lz : (wr.alloc (.cells #[.int .i64 d, .string ref, .string slot, .string name, .int .i64 v, .int .i64 m, .int .i64 delay] 36)).heap.size = wr.heap.size + 1 := by simp
                have lw := DQ.out.be.size
                have DaH := Troupe.hid Da
                have BaH := Troupe.hid Ba
                have LZ := Troupe.hid lz
                clear Da Ba lz
                go_upto_block 1 with (fail)
                go_step
                go_step
                go_cut [14] from 71 to 74 (fun v14 w' => v14 = .pointer (some ⟨wr.heap.size, 0, none⟩) ∧ w' = wr.alloc (.cells #[.int .i64 d, .string ref, .string slot, .string name, .int .i64 v, .int .i64 m, .int .i64 delay] 36))
                case first =>
                  go_wp2_with fail
                  go_meet
                  case rel => exact ⟨rfl, rfl⟩
                case rest =>
                  obtain ⟨rfl, hw⟩ := hcut
                  clear c0 c1 c2 c3 c4 c5 c6 e9
                  obtain ⟨wa, hwa⟩ : ∃ wa : World, wa = wc := ⟨_, rfl⟩
                  rw [← hw] at DaH BaH LZ
                  clear hw
                  subst hwa
                  generalize wr.heap.size = g13 at *
                  have e9 := DaH.out.b9.cell
                  have f9 := DaH.out.b9.frozen
                  have eb := BaH.out.cell
                  by_cases k3 : d = 3
                  · subst k3
                    have P2 := Troupe.hid (show doGo n state false (effs.drop (i + 1)) ⟨false, es, name, false, noS⟩ = PP by have h := HPQ.out; simpa [doGo] using h)
                    clear HPQ k12
                    go_wp2_with fail
                    go_roundw
                    case rel => exact ⟨i + 1, es, name, Av, cv, by omega, by go_num, by omega, .inl ⟨DaH.out.become name, P2.out⟩⟩
                    case measure => simp [intOf]; omega
                  have b3 : (d == 3) = false := by rw [beq_eq_false_iff_ne]; exact k3
                  by_cases k11 : d = 11
                  · subst k11
                    have P2 := Troupe.hid (show PP = ⟨false, es, st, true, noS⟩ by have h := HPQ.out; simpa [doGo] using h.symm)
                    clear HPQ k12 k3
                    go_wp2_with fail
                    go_roundw
                    case rel => exact ⟨i + 1, es, st, Av, cv, by omega, by go_num, by omega, .inr ⟨wa, DaH.out, rfl, P2.out⟩⟩
                    case measure => simp [intOf]; omega
                  have b11 : (d == 11) = false := by rw [beq_eq_false_iff_ne]; exact k11
                  by_cases k4 : d = 4
                  · subst k4
                    have P2 := Troupe.hid (show doGo n state false (effs.drop (i + 1)) ⟨false, es, st, false, noS⟩ = PP by have h := HPQ.out; simpa [doGo] using h)
                    clear HPQ k12 k3 k11
                    go_wp2_with fail
                    go_roundw
                    case rel => exact ⟨i + 1, es, st, Av, cv, by omega, by go_num, by omega, .inl ⟨DaH.out, P2.out⟩⟩
                    case measure => simp [intOf]; omega
                  have b4 : (d == 4) = false := by rw [beq_eq_false_iff_ne]; exact k4
                  have b4' : (d != 4) = true := by rw [bne, b4]; rfl
                  have hroom : (es.length + 1) * 80 ≤ 140737488355328 := by have := HLE.out; omega
                  by_cases k18 : d = 1 ∨ d = 8
                  · have hsend : ((d == 1) = true ∧ ¬ d = 8) ∨ ((d == 1) = false ∧ (d == 8) = true) := by
                      rcases k18 with h | h
                      · exact .inl ⟨by rw [h]; rfl, by omega⟩
                      · exact .inr ⟨by rw [h]; rfl, by rw [h]; rfl⟩
                    obtain ⟨q, hq⟩ : ∃ q, numV ⟨d, ref, slot, name, v, m, delay⟩ n = q := ⟨_, rfl⟩
                    have P2 := Troupe.hid (show doGo n state false (effs.drop (i + 1)) ⟨false, es ++ [⟨d, ref, slot, name, 2, q, delay⟩], st, false, noS⟩ = PP by have h := HPQ.out; rw [← hq]; simpa [doGo, k4, k3, k11, k12, k18] using h)
                    have NM := Troupe.hid (rnumber_any ⟨d, ref, slot, name, v, m, delay⟩ n hn)
                    rw [hq] at NM
                    dsimp only [Eff.cells] at NM
                    let S0 : World → Prop := fun w' => Below wa.heap.size wa w'
                    have hne : Nonempty (SW S0) := ⟨⟨wa, Below.refl _ _⟩⟩
                    have FE : ∀ (x : SW S0) (i : Nat), x.w.cell? ⟨g13, i, none⟩ = [Value.int .i64 d, .string ref, .string slot, .string name, .int .i64 v, .int .i64 m, .int .i64 delay][i]? := fun x i => (BaH.out.below x.h BaH.out.lt).cell i
                    have FG : ∀ (x : SW S0) (i : Nat), x.w.cell? ⟨g9, i, none⟩ = [Value.bool false, .slice Av es.length cv, .string st, .bool false, .string noS][i]? := fun x i => (DaH.out.b9.below x.h DaH.out.b9.lt).cell i
                    clear HPQ k4 k3 k11 k12 k18 hq
                    rcases hsend with ⟨b1, k8⟩ | ⟨b1, b8⟩ <;> (
                      go_wp2_with fail
                      refine region_mixo_any (S := Cls S0) [0, 1, 2, 3, 4, 5, 6, 7, 8, 9, 10, 11, 13, 14] [12, 15, 16] 17 (by kernel_rfl) (by kernel_rfl) (fun _ _ d _ _ h => by cases d <;> exact h) ?_
                      intro w6 hh o1 o2 o3
                      have F6 : Below wa.heap.size wa w6 := (Frm.of_heap (S := fun _ => False) hh o1 o2 o3).below (Nat.le_refl _) (fun _ h => h.elim)
                      clear hh o1 o2 o3
                      refine ⟨Cls.of F6, ?_⟩
                      simp only [pick, List.getElem?_cons_succ, List.getElem?_cons_zero, List.drop_succ_cons, List.drop_zero]
                      repeat (refine wpReads_step (fun K hK => ?_); go_simp; refine hK _ ?_; clear hK K)
                      refine wpReads_nil ?_
                      clear FE FG
                      unfold wpMid
                      go_wp2_with fail
                      refine (NM.out w6).mono ?_
                      rintro en w5 ⟨rfl, hb5⟩
                      have F5 : Below wa.heap.size wa w5 := F6.trans (hb5.mono F6.size)
                      have F7 : Below w5.heap.size w5 (w5.alloc (.cells #[.int .i64 d, .string ref, .string slot, .string name, .int .i64 2, .int .i64 q, .int .i64 delay] 36)) := (Below.refl _ _).alloc (Nat.le_refl _) _
                      have D7 := Troupe.hid ((DaH.out.below F5).below F7)
                      have c7 := (Blk.new w5 36 [.int .i64 d, .string ref, .string slot, .string name, .int .i64 2, .int .i64 q, .int .i64 delay]).blk_cells
                      have O7 := Troupe.hid D7.out.own
                      have C7 := Troupe.hid c7
                      have z7 := D7.out.be.size
                      have hs7 : (w5.alloc (.cells #[.int .i64 d, .string ref, .string slot, .string name, .int .i64 2, .int .i64 q, .int .i64 delay] 36)).heap.size = w5.heap.size + 1 := by simp
                      have HF5 := Troupe.hid F5
                      have F8 := Troupe.hid F7
                      clear hb5 F5 F6 F7 c7
                      go_wp2_with fail
                      refine ⟨Cls.of HF5.out, ?_⟩
                      unfold wpMid
                      go_wp2_with fail
                      refine ⟨Cls.of HF5.out, ?_⟩
                      unfold wpMid
                      go_wp2_with fail
                      refine ⟨Cls.of (HF5.out.trans (F8.out.mono HF5.out.size)), ?_⟩
                      unfold wpMid
                      go_wp2_with (at_builtin; refine wpList_app rfl (.tmp 94) (.tmp 109) 28 rfl w.heap.size 36 info36 Try.underlying28 rfl (by decide) (.slice Av es.length cv) es.length (flatE es) rfl O7.out _ (some ⟨w5.heap.size, 0, none⟩) 1 1 [.int .i64 d, .string ref, .string slot, .string name, .int .i64 2, .int .i64 q, .int .i64 delay] rfl rfl C7.out (fun h => by cases h) (by simp [Value.oneCell']) (by omega) (by unfold maxLen; omega) z7 ?_; intro v0 w8 h'; obtain ⟨Av', cv', rfl, -⟩ := own_form h'.own; have e98 := (D7.out.after h').cell; have f98 := (D7.out.after h').frozen; have DG := Troupe.hid (D7.out.grow ⟨d, ref, slot, name, 2, q, delay⟩ h'); clear h')
                      go_roundw
                      case rel => exact ⟨i + 1, es ++ [⟨d, ref, slot, name, 2, q, delay⟩], st, Av', cv', by omega, by go_num, by simp; omega, .inl ⟨DG.out, P2.out⟩⟩
                      case measure => simp [intOf]; omega)
                  · have k1 : ¬ d = 1 := fun h => k18 (.inl h)
                    have k8 : ¬ d = 8 := fun h => k18 (.inr h)
                    have b1 : (d == 1) = false := by rw [beq_eq_false_iff_ne]; exact k1
                    have b8 : (d == 8) = false := by rw [beq_eq_false_iff_ne]; exact k8
                    have P2 := Troupe.hid (show doGo n state false (effs.drop (i + 1)) ⟨false, es ++ [⟨d, ref, slot, name, v, m, delay⟩], st, false, noS⟩ = PP by have h := HPQ.out; simpa [doGo, k4, k3, k11, k12, k1, k8] using h)
                    have F7 : Below (wa).heap.size (wa) ((wa).alloc (.cells #[.int .i64 d, .string ref, .string slot, .string name, .int .i64 v, .int .i64 m, .int .i64 delay] 36)) := (Below.refl _ _).alloc (Nat.le_refl _) _
                    have D7 := Troupe.hid (DaH.out.below F7)
                    have O7 := Troupe.hid D7.out.own
                    have C7 := Troupe.hid ((Blk.new (wa) 36 [.int .i64 d, .string ref, .string slot, .string name, .int .i64 v, .int .i64 m, .int .i64 delay]).blk_cells)
                    have z7 : w.heap.size ≤ ((wa).alloc (.cells #[.int .i64 d, .string ref, .string slot, .string name, .int .i64 v, .int .i64 m, .int .i64 delay] 36)).heap.size := D7.out.be.size
                    have hs7 : ((wa).alloc (.cells #[.int .i64 d, .string ref, .string slot, .string name, .int .i64 v, .int .i64 m, .int .i64 delay] 36)).heap.size = (wa).heap.size + 1 := by simp
                    clear F7
                    clear HPQ k4 k3 k11 k12 k18 k1 k8
                    go_wp2_with (at_builtin; refine wpList_app rfl (.tmp 116) (.tmp 118) 28 rfl w.heap.size 36 info36 Try.underlying28 rfl (by decide) (.slice Av es.length cv) es.length (flatE es) rfl O7.out _ (some ⟨wa.heap.size, 0, none⟩) 1 1 [.int .i64 d, .string ref, .string slot, .string name, .int .i64 v, .int .i64 m, .int .i64 delay] rfl rfl C7.out (fun h => by cases h) (by simp [Value.oneCell']) (by omega) (by unfold maxLen; omega) z7 ?_; intro v0 w8 h'; obtain ⟨Av', cv', rfl, -⟩ := own_form h'.own; have e98 := (D7.out.after h').cell; have f98 := (D7.out.after h').frozen; have DG := Troupe.hid (D7.out.grow ⟨d, ref, slot, name, v, m, delay⟩ h'); clear h')
                    go_roundw
                    case rel => exact ⟨i + 1, es ++ [⟨d, ref, slot, name, v, m, delay⟩], st, Av', cv', by omega, by go_num, by simp; omega, .inl ⟨DG.out, P2.out⟩⟩
                    case measure => simp [intOf]; omega
              · have hil : i = effs.length := by omega
                subst hil
                have hPP : PP = ⟨false, es, st, false, noS⟩ := by rw [← PQ.out, List.drop_length]; simp [doGo]
                have hP2 : PP = ⟨false, es, st, false, failV effs⟩ := by rw [← FV.out, hPP]
                have HP2 := Troupe.hid hP2
                clear hPP hP2 PQ
                go_wp2_with fail
                go_meet
                case rel => exact ⟨es, st, Av, cv, false, wr, DQ.out, Frm.refl _ _, DQ.out.b9, HP2.out⟩
            · have hP2 : PP = ⟨false, es, st, true, failV effs⟩ := by rw [← FV.out, hpp]
              have HP2 := Troupe.hid hP2
              have DQ := Troupe.hid hds
              have KB : Blk (w0.setCell ⟨g9, 3, none⟩ (.bool true)) g9 30 [.bool false, .slice Av es.length cv, .string st, .bool true, .string noS] := hds.b9.set_ 3 _
              have FF : Frm (fun k => k = g9) w0 (w0.setCell ⟨g9, 3, none⟩ (.bool true)) := Frm.one w0 ⟨g9, 3, none⟩ _
              have e9 := KB.cell
              have KH := Troupe.hid KB
              have FH := Troupe.hid FF
              clear hds KB FF hpp hP2
              generalize w0.setCell ⟨g9, 3, none⟩ (.bool true) = wr at *
              by_cases hlt : i < effs.length
              · go_wp2_with fail
                go_meet
                case rel => exact ⟨es, st, Av, cv, true, w0, DQ.out, FH.out, KH.out, HP2.out⟩
              · go_wp2_with fail
                go_meet
                case rel => exact ⟨es, st, Av, cv, true, w0, DQ.out, FH.out, KH.out, HP2.out⟩
        case rest =>
          obtain ⟨es, st, Av, cv, sp, w0, hds, hfr, hbk, hpp⟩ := hcut
          obtain ⟨w3, rfl⟩ : ∃ w3 : World, w3 = wc := ⟨_, rfl⟩
          have DQ := Troupe.hid hds
          have FH := Troupe.hid hfr
          have KH := Troupe.hid hbk
          have SR := Troupe.hid (SRC.out.below (hds.be.trans (hfr.below hds.be.size (fun k hk => by have := hds.h9; omega))))
          have e9 := hbk.cell
          have f9 := hbk.frozen
          have e8 := (hds.b8.frm hfr hds.ne).cell
          have f8 := (hds.b8.frm hfr hds.ne).frozen
          have n89 := hds.ne
          have n98 : ¬ g9 = g8 := fun h => n89 h.symm
          clear hds hfr hbk
          obtain ⟨fv, hfv⟩ : ∃ fv, failV effs = fv := ⟨_, rfl⟩
          rw [hfv] at hpp
          subst hpp
          have HFV := Troupe.hid hfv
          clear hfv FV PPH DH
          go_upto_block 2 with (fail)
          go_step
          go_loopw [15] (fun v15 wr => ∃ i : Nat, i ≤ effs.length ∧ v15 = .int .i64 i ∧ wr = w3 ∧ failV (effs.drop i) = fv) (fun v15 _ => effs.length - (intOf v15).toNat)
          case atStart => exact ⟨0, Nat.zero_le _, rfl, rfl, HFV.out⟩
          case round =>
            obtain ⟨i, hi, rfl, hw3, hf⟩ := hrel
            subst hw3
            have hi3 : i < 9223372036854775807 := by have := HLE.out; omega
            have HF := Troupe.hid hf
            clear hf
            have hend : ∀ W, Frm (fun k => k = g9) w0 W → True := fun _ _ => trivial
            clear hend
            by_cases hlt : i < effs.length
            · obtain ⟨e, hx⟩ : ∃ e, effs[i]? = some e := ⟨_, List.getElem?_eq_getElem hlt⟩
              have hdrop : effs.drop i = e :: effs.drop (i + 1) := by rw [List.drop_eq_getElem_cons hlt, (List.getElem?_eq_some_iff.1 hx).2]
              have hf := HF.out
              rw [hdrop] at hf
              obtain ⟨b, off, hA, hbb, hc⟩ := cells_at (sz := 7) (fun _ => rfl) (by decide) SR.out hx
              obtain ⟨d, ref, slot, name, v, m, delay⟩ := e
              have c0 : wr.cell? ⟨b, off + i * 7, none⟩ = some (.int .i64 d) := hc 0 (by decide) _ rfl
              have c3 : wr.cell? ⟨b, off + i * 7 + 3, none⟩ = some (.string name) := hc 3 (by decide) _ rfl
              simp only [Option.some.injEq, Addr.mk.injEq, and_true] at hA
              obtain ⟨rfl, rfl⟩ := hA
              clear hc hx hdrop
              by_cases k11 : d = 11
              · subst k11
                have hfe : fv = noS := by rw [← hf]; simp [failV]
                subst hfe
                clear hf HF HFV
                go_wp2_with fail
                (try simp only [Exit.inBlock, Exit.then])
                obtain ⟨s1, s2, s3⟩ := DQ.out.fin2 FH.out false st sp noS
                refine bodyPost_ret (results_cell_row rfl _ _ g8 30 _ (0, 0) _ rfl s1 Try.underlying30 rfl size30) rfl ⟨_, rfl, s2, s3⟩
              have b11 : (d == 11) = false := by rw [beq_eq_false_iff_ne]; exact k11
              by_cases k12 : d = 12
              · subst k12
                have hfe : fv = name := by rw [← hf]; simp [failV]
                subst hfe
                have FW : Frm (fun k => k = g9) w0 (wr.setCell ⟨g9, 4, none⟩ (.string fv)) := FH.out.trans (Frm.one wr ⟨g9, 4, none⟩ _) (fun _ _ h => h)
                have HFW := Troupe.hid FW
                clear hf HF HFV FW k11
                go_wp2_with fail
                (try simp only [Exit.inBlock, Exit.then])
                obtain ⟨s1, s2, s3⟩ := DQ.out.fin2 HFW.out false st sp fv
                refine bodyPost_ret (results_cell_row rfl _ _ g8 30 _ (0, 0) _ rfl s1 Try.underlying30 rfl size30) rfl ⟨_, rfl, s2, s3⟩
              have b12 : (d == 12) = false := by rw [beq_eq_false_iff_ne]; exact k12
              have HF2 := Troupe.hid (show failV (effs.drop (i + 1)) = fv by simpa [failV, k11, k12] using hf)
              clear hf k11 k12 HF
              go_wp2_with fail
              go_roundw
              case rel => exact ⟨i + 1, by omega, by go_num, trivial, HF2.out⟩
              case measure => simp [intOf]; omega
            · have hil : i = effs.length := by omega
              subst hil
              have hfe : fv = noS := by rw [← HF.out, List.drop_length]; rfl
              subst hfe
              clear HF HFV
              go_wp2_with fail
              (try simp only [Exit.inBlock, Exit.then])
              obtain ⟨s1, s2, s3⟩ := DQ.out.fin2 FH.out false st sp noS
              refine bodyPost_ret (results_cell_row rfl _ _ g8 30 _ (0, 0) _ rfl s1 Try.underlying30 rfl size30) rfl ⟨_, rfl, s2, s3⟩
end Go.Proofs.Ytfeeajodgcdflaa
