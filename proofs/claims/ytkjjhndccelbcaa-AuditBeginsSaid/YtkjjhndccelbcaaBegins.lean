/- AuditBegins: its walk. -/
import Derived.Test.YtkjjhndccelbcaaAlive
import Derived.Test.YtkjjhndccelbcaaLawBegins
namespace Go.Proofs.Ytkjjhndccelbcaa
open Go.RowKit Go.Maps Go.Troupe

attribute [local go_sem] quietU

set_option maxRecDepth 100000 in
set_option maxHeartbeats 4000000 in
theorem begins_any (w : World) {Ak Al At : Option Addr} {ck cl ct : Nat} {ks : List Kf} {evs tail : List Ev} (hs : Stands w w.heap.size Ak ck ks) (hl : Cells w w.heap.size Al (flatV evs)) (hlc : evs.length ≤ cl) (hln : Al = none → cl = 0)
    (ht : Cells w w.heap.size At (flatV tail)) (htn : At = none → ct = 0) (hle : ∀ e ∈ evs, EvOk e) (hte : ∀ e ∈ tail, EvOk e) (hll : evs.length < 281474976710656) (htl : tail.length < 281474976710656) :
    Calls Try.prog 3 #[.agg #[.slice Ak ks.length ck], .slice Al evs.length cl, .slice At tail.length ct] w fun e w' => e = .returned (.bool true) ∧ Below w.heap.size w w' := by
  have F0 : Below w.heap.size w (w.alloc (.cells #[.slice Ak ks.length ck] 24)) := (Below.refl _ _).alloc (Nat.le_refl _) _
  have P0 := Troupe.hid (Blk.new w 24 [.slice Ak ks.length ck])
  have S0 := Troupe.hid (hs.later F0)
  have L0 := Troupe.hid (hl.below F0)
  have T0 := Troupe.hid (ht.below F0)
  have AL := Troupe.hid (alive_any (w.alloc (.cells #[.slice Ak ks.length ck] 24)))
  have HN := Troupe.hid (And.intro hln htn)
  have HO := Troupe.hid (And.intro hle hte)
  have B0 := Troupe.hid F0
  clear hs hl ht F0 hln htn hle hte
  go_enter Try.func3, Try.ntmps3
  go_wp2_with fail
  generalize w.alloc (.cells #[.slice Ak ks.length ck] 24) = w0 at *
  refine AL.out.mono ?_
  rintro e w1 ⟨rfl, hb⟩
  have P1 := Troupe.hid (P0.out.below hb P0.out.lt)
  have B1 := Troupe.hid (B0.out.trans (hb.mono B0.out.size))
  have S1 := Troupe.hid (S0.out.later hb)
  have L1 := Troupe.hid (L0.out.below (hb.mono B0.out.size))
  have T1 := Troupe.hid (T0.out.below (hb.mono B0.out.size))
  clear hb P0 B0 S0 L0 T0 AL
  by_cases h3 : evs.length ≤ 300 ∧ tail.length ≤ 300
  · obtain ⟨h3, h4⟩ := h3
    have e1 := P1.out.cell
    go_wp2_with fail
    obtain ⟨q, t, hq, hq1, hq2, hq3, hq4⟩ := begins ks evs
    refine (S1.out.chk (L1.out.mono B1.out.size) (by omega) HO.out.1 hq).mono ?_
    rintro e w2 ⟨rfl, hb⟩
    have P2 := Troupe.hid (P1.out.below hb P1.out.lt)
    have B2 := Troupe.hid (B1.out.trans (hb.mono B1.out.size))
    have S2 := Troupe.hid (S1.out.later hb)
    have L2 := Troupe.hid (L1.out.below (hb.mono B1.out.size))
    have T2 := Troupe.hid (T1.out.below (hb.mono B1.out.size))
    clear hb P1 B1 S1 L1 T1 e1 hq
    dsimp only
    by_cases hz : q = 0
    · have htl := hq2 hz
      subst hz htl
      clear hq1 hq2 hq3 hq4
      go_wp2_with fail
      go_ret
      exact ⟨rfl, B2.out⟩
    · have hw := hq3 hz
      have hk := hq4 hz
      have HK := Troupe.hid hk
      clear hq2 hq3 hq4 hk
      by_cases hn : evs.length = 0
      · have htz : t = 0 := by omega
        subst htz
        clear hw
        go_wp2_with fail
        go_ret
        exact ⟨rfl, B2.out⟩
      · have hlt : t < evs.length := by omega
        clear hw
        obtain ⟨b, o, rfl, hbB, -⟩ := L2.out.at_ (flatV_ne hn)
        obtain ⟨p1, p2, hp⟩ : ∃ p1 p2, checkV ks (evs.take t) = (p1, p2) := ⟨_, _, rfl⟩
        have HP := Troupe.hid hp
        clear hp
        go_wp2_with fail
        have htc : t ≤ cl := by omega
        have CK : Hid (∀ x : UW w2, Calls Try.prog 8 #[.agg #[.slice Ak ks.length ck], .slice (some ⟨b, o, none⟩) t cl] x.w fun en w' => en = .returned (.tuple #[.int .i64 p1, .int .i64 p2]) ∧ Up x.w w') := fun x => by
          have := (S2.out.later x.h).chk (cl := cl) (evs_take ((L2.out.below (x.h.mono B2.out.size)).mono (Nat.le_trans B2.out.size x.h.size)) t) (by rw [List.length_take]; omega) (fun e he => HO.out.1 e (List.mem_of_mem_take he)) HP.out
          rw [List.length_take, Nat.min_eq_left (by omega)] at this
          exact this
        have hne := UW.inh w2
        have fe : ∀ x : UW w2, x.w.cell? ⟨w.heap.size, 0, none⟩ = some (.slice Ak ks.length ck) := fun x => (P2.out.below x.h P2.out.lt).cell 0
        refine region_up (.q 0 (.q 1 (.q 2 (.q 3 (.q 4 (.q 5 (.q 6 (.q 7 (.q 8 (.q 9 .done)))))))))) (by kernel_rfl) (by kernel_rfl) (fun _ _ d _ _ h => by cases d <;> exact h) ?_
        iterate 4 (refine wpUP_q rfl (fun K hK => ?_); go_simp; refine hK _ ?_; clear hK K)
        refine wpUP_q rfl (fun K hK => ?_)
        go_simp
        refine ⟨_, CK.out, hK _ ?_⟩
        clear hK K
        iterate 5 (refine wpUP_q rfl (fun K hK => ?_); go_simp; refine hK _ ?_; clear hK K)
        refine wpUP_done ?_
        intro w4 hb
        clear fe hne CK
        have P4 := Troupe.hid (P2.out.below hb P2.out.lt)
        have B4 := Troupe.hid (B2.out.trans (hb.mono B2.out.size))
        have S4 := Troupe.hid (S2.out.later hb)
        have L4 := Troupe.hid (L2.out.below (hb.mono B2.out.size))
        have T4 := Troupe.hid (T2.out.below (hb.mono B2.out.size))
        have L4t := Troupe.hid (evs_take L4.out (t + 1))
        have LL : Hid ((flatV (evs.take (t + 1))).length = (t + 1) * 9) := by unfold Hid; rw [flatV_length, List.length_take, Nat.min_eq_left (by omega)]
        have htc1 : t + 1 ≤ cl := by omega
        clear hb P2 B2 S2 L2 T2
        go_wp2_with first
          | (at_builtin; refine wpList_app rfl (.tmp 73) (.tmp 77) 25 rfl w4.heap.size 32 info32 Try.underlying25 rfl (by decide) (.slice none 0 0) 0 [] rfl (World.ownsRow_nil _ _ _ _) w.heap.size (some ⟨b, o, none⟩) (t + 1) cl (flatV (evs.take (t + 1))) rfl LL.out L4t.out (fun h => by cases h) (one_evs _) (by omega) (by unfold maxLen; omega) (Nat.le_refl _) ?_; intro v5 w5 h'; rw [Nat.zero_add, List.nil_append] at h'; obtain ⟨A5, k5, rfl, -⟩ := own_form h'.own; have O5 := Troupe.hid h'.own; have F5 := Troupe.hid (h'.frm.below (Nat.le_refl _) (fun k hk => by cases hk)); have P5 := Troupe.hid (P4.out.below F5.out P4.out.lt); have S5 := Troupe.hid (S4.out.later F5.out); have B5 := Troupe.hid (B4.out.trans (F5.out.mono B4.out.size)); have T5 := Troupe.hid (T4.out.below (F5.out.mono B4.out.size)); have z5 := F5.out.size; clear h')
          | (at_builtin; refine wpList_app rfl (.tmp 79) (.tmp 80) 25 rfl w4.heap.size 32 info32 Try.underlying25 rfl (by decide) (.slice A5 (t + 1) k5) (t + 1) (flatV (evs.take (t + 1))) rfl O5.out w.heap.size At tail.length ct (flatV tail) rfl (flatV_length tail) T5.out HN.out.2 (one_evs _) (by omega) (by unfold maxLen; omega) z5 ?_; intro v6 w6 h'; rw [← flatV_app] at h'; obtain ⟨A6, k6, rfl, -⟩ := own_form h'.own; have O6 := Troupe.hid (own_cells h'.own); have F6 := Troupe.hid (F5.out.trans (h'.frm.below z5 (fun k hk => (O5.out.lt k hk).1))); have P6 := Troupe.hid (P4.out.below F6.out P4.out.lt); have S6 := Troupe.hid (S4.out.later F6.out); have B6 := Troupe.hid (B4.out.trans (F6.out.mono B4.out.size)); have e6 := P6.out.cell; clear h')
          | fail
        have CK := Troupe.hid (S6.out.chk (cl := k6) O6.out (by rw [List.length_append, List.length_take]; omega) (fun e he => (List.mem_append.1 he).elim (fun h => HO.out.1 e (List.mem_of_mem_take h)) (HO.out.2 e)) ((HK.out hlt).2 tail))
        rw [List.length_append, List.length_take, Nat.min_eq_left (by omega)] at CK
        refine CK.out.mono ?_
        rintro e w7 ⟨rfl, hb⟩
        have B7 := Troupe.hid (B6.out.trans (hb.mono B6.out.size))
        clear hb e6 CK
        dsimp only
        have hpp : (p1 = 0 ∧ p2 = (t : Int)) ∨ (q = 1 ∧ t = 0) := by
          rcases (HK.out hlt).1 with h | h
          · rw [HP.out] at h; exact .inl ⟨congrArg Prod.fst h, congrArg Prod.snd h⟩
          · exact .inr h
        rcases hpp with ⟨rfl, rfl⟩ | ⟨rfl, rfl⟩
        · go_wp2_with fail
          go_ret
          exact ⟨rfl, B7.out⟩
        · by_cases hp1 : p1 = 0
          · by_cases hp2 : p2 = 0
            · subst hp1 hp2
              go_wp2_with fail
              go_ret
              exact ⟨rfl, B7.out⟩
            · subst hp1
              have hp2' : (p2 == 0) = false := by rw [beq_eq_false_iff_ne]; exact hp2
              go_wp2_with fail
              go_ret
              exact ⟨by simp, B7.out⟩
          · have hp1' : (p1 == 0) = false := by rw [beq_eq_false_iff_ne]; exact hp1
            go_wp2_with fail
            go_ret
            exact ⟨by simp, B7.out⟩
  · by_cases h4 : evs.length ≤ 300
    · have h5 : 300 < tail.length := by omega
      go_wp2_with fail
      go_ret
      exact ⟨rfl, B1.out⟩
    · go_wp2_with fail
      go_ret
      exact ⟨rfl, B1.out⟩
end Go.Proofs.Ytkjjhndccelbcaa
