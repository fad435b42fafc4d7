/- AuditRefused: its walk. -/
import Derived.Test.YtkjjhndccelbcaaAlive
import Derived.Test.YtkjjhndccelbcaaLawBegins
namespace Go.Proofs.Ytkjjhndccelbcaa
open Go.RowKit Go.Maps Go.Troupe

def evRef : Ev := ⟨1, 0, 0, -1, 99, ⟨#[120]⟩, 0, 0, false⟩
/-- The plain law: an event that was refused, laid in anywhere behind the first. -/
theorem refused_law (ks : List Kf) (evs : List Ev) (r : Ev) (hr : r.kd = 1) (a : Nat) (h1 : 1 ≤ a) (ha : a ≤ evs.length) : ∃ (q : Int) (t : Nat), checkV ks evs = (q, (t : Int)) ∧ t ≤ evs.length ∧
    checkV ks (evs.take a ++ r :: evs.drop a) = (q, if q = 1 ∧ t = 0 then 0 else if a ≤ t then (t : Int) + 1 else (t : Int)) := by
  by_cases hp : progB ks = true
  · exact ⟨1, 0, by simp [checkV, hp], Nat.zero_le _, by simp [checkV, hp]⟩
  · obtain ⟨t, h2, h3, -⟩ := runV_spec ks evs bk0 0
    rw [Nat.zero_add] at h3
    refine ⟨(runV ks bk0 0 evs).1, t, by rw [checkV, if_neg hp, ← h3], h2, ?_⟩
    rw [checkV, if_neg hp, runV_refused ks r hr evs bk0 0 a ha (by omega), h3]
    congr 1
    rw [Nat.zero_add]
    by_cases hq : (runV ks bk0 0 evs).1 = 1 ∧ t = 0
    · rw [if_pos hq, if_neg (by omega)]; omega
    · rw [if_neg hq]
      by_cases h : a ≤ t
      · rw [if_pos h, if_pos (by omega)]
      · rw [if_neg h, if_neg (by omega)]
set_option maxRecDepth 100000 in
set_option maxHeartbeats 4000000 in
theorem refusedL_any (w : World) {Ak Al : Option Addr} {ck cl : Nat} {ks : List Kf} {evs : List Ev} {a : Int} (hs : Stands w w.heap.size Ak ck ks) (hl : Cells w w.heap.size Al (flatV evs)) (hlc : evs.length ≤ cl) (hln : Al = none → cl = 0)
    (hle : ∀ e ∈ evs, EvOk e) (hll : evs.length < 281474976710656) :
    Calls Try.prog 4 #[.agg #[.slice Ak ks.length ck], .slice Al evs.length cl, .int .i64 a] w fun e w' => e = .returned (.bool true) ∧ Below w.heap.size w w' := by
  have F0 : Below w.heap.size w (w.alloc (.cells #[.slice Ak ks.length ck] 24)) := (Below.refl _ _).alloc (Nat.le_refl _) _
  have P0 := Troupe.hid (Blk.new w 24 [.slice Ak ks.length ck])
  have S0 := Troupe.hid (hs.later F0)
  have L0 := Troupe.hid (hl.below F0)
  have AL := Troupe.hid (alive_any (w.alloc (.cells #[.slice Ak ks.length ck] 24)))
  have HN := Troupe.hid hln
  have HO := Troupe.hid hle
  have B0 := Troupe.hid F0
  clear hs hl F0 hln hle
  go_enter Try.func4, Try.ntmps4
  go_wp2_with fail
  generalize w.alloc (.cells #[.slice Ak ks.length ck] 24) = w0 at *
  refine AL.out.mono ?_
  rintro e w1 ⟨rfl, hb⟩
  have P1 := Troupe.hid (P0.out.below hb P0.out.lt)
  have B1 := Troupe.hid (B0.out.trans (hb.mono B0.out.size))
  have S1 := Troupe.hid (S0.out.later hb)
  have L1 := Troupe.hid (L0.out.below (hb.mono B0.out.size))
  clear hb P0 B0 S0 L0 AL
  by_cases h3 : 300 < evs.length
  · go_wp2_with fail
    go_ret
    exact ⟨rfl, B1.out⟩
  by_cases h4 : a < 1
  · have h3' : evs.length ≤ 300 := by omega
    clear h3
    go_wp2_with fail
    go_ret
    exact ⟨rfl, B1.out⟩
  by_cases h5 : (evs.length : Int) < a
  · have h3' : evs.length ≤ 300 := by omega
    have h4' : 1 ≤ a := by omega
    clear h3 h4
    go_wp2_with fail
    go_ret
    exact ⟨rfl, B1.out⟩
  obtain ⟨k, rfl⟩ : ∃ k : Nat, a = (k : Int) := ⟨a.toNat, by omega⟩
  have h3' : evs.length ≤ 300 := by omega
  have h4' : 1 ≤ k := by omega
  have h5' : k ≤ evs.length := by omega
  have h6' : k ≤ cl := by omega
  clear h3 h4 h5
  obtain ⟨q, t, hq, hq1, hq2⟩ := refused_law ks evs evRef rfl k h4' h5'
  have e1 := P1.out.cell
  go_wp2_with fail
  refine (S1.out.chk (L1.out.mono B1.out.size) (by omega) HO.out hq).mono ?_
  rintro e w2 ⟨rfl, hb⟩
  have P2 := Troupe.hid (P1.out.below hb P1.out.lt)
  have B2 := Troupe.hid (B1.out.trans (hb.mono B1.out.size))
  have S2 := Troupe.hid (S1.out.later hb)
  have L2 := Troupe.hid (L1.out.below (hb.mono B1.out.size))
  have HQ := Troupe.hid hq2
  clear hb P1 B1 S1 L1 e1 hq hq2
  dsimp only
  obtain ⟨b, o, rfl, hbB, -⟩ := L2.out.at_ (flatV_ne (by omega))
  have L2t := Troupe.hid (evs_take L2.out k)
  have LL : Hid ((flatV (evs.take k)).length = k * 9) := by unfold Hid; rw [flatV_length, List.length_take, Nat.min_eq_left (by omega)]
  have hkl : (evs.drop k).length = evs.length - k := by rw [List.length_drop]
  rcases Nat.lt_or_eq_of_le h6' with hkc | hkc
  · clear h6'
    go_wp2_with first
      | (at_builtin; refine wpList_app rfl (.tmp 33) (.tmp 36) 25 rfl w2.heap.size 32 info32 Try.underlying25 rfl (by decide) (.slice none 0 0) 0 [] rfl (World.ownsRow_nil _ _ _ _) w.heap.size (some ⟨b, o, none⟩) k cl (flatV (evs.take k)) rfl LL.out L2t.out (fun h => by cases h) (one_evs _) (by omega) (by unfold maxLen; omega) (Nat.le_refl _) ?_; intro v5 w5 h'; rw [Nat.zero_add, List.nil_append] at h'; obtain ⟨A5, k5, rfl, -⟩ := own_form h'.own; have O5 := Troupe.hid (h'.own.alloc (.cells #[.int .i64 1, .int .i64 0, .int .u64 0, .int .i64 (-1), .int .i64 99, .string ⟨#[120]⟩, .int .i64 0, .int .i64 0, .bool false] 32)); have F5 := Troupe.hid (h'.frm.below (Nat.le_refl _) (fun k hk => by cases hk)); have F5a : Hid (Below w2.heap.size w2 (w5.alloc (.cells #[.int .i64 1, .int .i64 0, .int .u64 0, .int .i64 (-1), .int .i64 99, .string ⟨#[120]⟩, .int .i64 0, .int .i64 0, .bool false] 32))) := F5.out.alloc F5.out.size _; have N5b : Blk (w5.alloc (.cells #[.int .i64 1, .int .i64 0, .int .u64 0, .int .i64 (-1), .int .i64 99, .string ⟨#[120]⟩, .int .i64 0, .int .i64 0, .bool false] 32)) w5.heap.size 32 (flatV [evRef]) := Blk.new w5 32 (flatV [evRef]); have N5 := Troupe.hid (blk_in N5b N5b.lt); clear N5b; have z5 := F5.out.size; have z5a := F5a.out.size; clear h')
      | (at_builtin; refine wpList_app rfl (.tmp 38) (.tmp 40) 25 rfl w2.heap.size 32 info32 Try.underlying25 rfl (by decide) (.slice A5 k k5) k (flatV (evs.take k)) rfl O5.out _ (some ⟨w5.heap.size, 0, none⟩) 1 1 (flatV [evRef]) rfl rfl N5.out (fun h => by cases h) (one_evs _) (by omega) (by unfold maxLen; omega) z5a ?_; intro v6 w6 h'; rw [← flatV_app] at h'; obtain ⟨A6, k6, rfl, -⟩ := own_form h'.own; have O6 := Troupe.hid h'.own; have F6 := Troupe.hid (F5a.out.trans (h'.frm.below z5a (fun k hk => (O5.out.lt k hk).1))); have L6 := Troupe.hid (evs_drop (L2.out.below (F6.out.mono B2.out.size)) k h5'); have z6 := F6.out.size; clear h')
      | (at_builtin; refine wpList_app rfl (.tmp 42) (.tmp 45) 25 rfl w2.heap.size 32 info32 Try.underlying25 rfl (by decide) (.slice A6 (k + 1) k6) (k + 1) (flatV (evs.take k ++ [evRef])) rfl O6.out _ (some ⟨b, o + k * 9, none⟩) (evs.length - k) (cl - k) (flatV (evs.drop k)) rfl (by rw [flatV_length, hkl]) L6.out (fun h => by cases h) (one_evs _) (by omega) (by unfold maxLen; omega) z6 ?_; intro v7 w7 h'; rw [← flatV_app] at h'; obtain ⟨A7, k7, rfl, -⟩ := own_form h'.own; have O7 := Troupe.hid (own_cells h'.own); have F7 := Troupe.hid (F6.out.trans (h'.frm.below z6 (fun k hk => (O6.out.lt k hk).1))); have P7 := Troupe.hid (P2.out.below F7.out P2.out.lt); have S7 := Troupe.hid (S2.out.later F7.out); have B7 := Troupe.hid (B2.out.trans (F7.out.mono B2.out.size)); have e7 := P7.out.cell; clear h')
      | fail
    have HE : Hid (evs.take k ++ [evRef] ++ evs.drop k = evs.take k ++ evRef :: evs.drop k) := by unfold Hid; rw [List.append_assoc]; rfl
    rw [HE.out] at O7
    have CK := Troupe.hid (S7.out.chk (cl := k7) O7.out (by rw [List.length_append, List.length_take, List.length_cons, List.length_drop]; omega) (fun e he => by
      rcases List.mem_append.1 he with h | h
      · exact HO.out e (List.mem_of_mem_take h)
      · rcases List.mem_cons.1 h with rfl | h
        · exact ok_ev (by decide) (by decide) (by decide) (by decide) (by decide) (by decide)
        · exact HO.out e (List.mem_of_mem_drop h)) HQ.out)
    have hln : (evs.take k ++ evRef :: evs.drop k).length = k + 1 + (evs.length - k) := by rw [List.length_append, List.length_take, List.length_cons, List.length_drop]; omega
    rw [hln] at CK
    clear hln
    refine CK.out.mono ?_
    rintro e w8 ⟨rfl, hb⟩
    have B8 := Troupe.hid (B7.out.trans (hb.mono B7.out.size))
    clear hb e7 CK
    dsimp only
    by_cases hq : q = 1 ∧ t = 0
    · obtain ⟨rfl, rfl⟩ := hq
      go_wp2_with fail
      go_ret
      exact ⟨rfl, B8.out⟩
    · rw [if_neg hq]
      by_cases hq1 : q = 1
      · subst hq1
        have ht0 : ((t : Int) == 0) = false := by rw [beq_eq_false_iff_ne]; omega
        clear hq
        by_cases hkt : k ≤ t
        · rw [if_pos hkt]
          have ht1 : IntKind.i64.wrap ((t : Int) + 1) = (t : Int) + 1 := by rw [IntKind.wrap_i64]; omega
          go_wp2_with fail
          go_ret
          exact ⟨by simp, B8.out⟩
        · rw [if_neg hkt]
          have hkt' : t < k := by omega
          go_wp2_with fail
          go_ret
          exact ⟨by simp, B8.out⟩
      · have hq0 : (q == 1) = false := by rw [beq_eq_false_iff_ne]; exact hq1
        clear hq hq1
        by_cases hkt : k ≤ t
        · rw [if_pos hkt]
          have ht1 : IntKind.i64.wrap ((t : Int) + 1) = (t : Int) + 1 := by rw [IntKind.wrap_i64]; omega
          go_wp2_with fail
          go_ret
          exact ⟨by simp, B8.out⟩
        · rw [if_neg hkt]
          have hkt' : t < k := by omega
          go_wp2_with fail
          go_ret
          exact ⟨by simp, B8.out⟩
  · subst hkc
    clear h6'
    go_wp2_with first
      | (at_builtin; refine wpList_app rfl (.tmp 33) (.tmp 36) 25 rfl w2.heap.size 32 info32 Try.underlying25 rfl (by decide) (.slice none 0 0) 0 [] rfl (World.ownsRow_nil _ _ _ _) w.heap.size (some ⟨b, o, none⟩) k k (flatV (evs.take k)) rfl LL.out L2t.out (fun h => by cases h) (one_evs _) (by omega) (by unfold maxLen; omega) (Nat.le_refl _) ?_; intro v5 w5 h'; rw [Nat.zero_add, List.nil_append] at h'; obtain ⟨A5, k5, rfl, -⟩ := own_form h'.own; have O5 := Troupe.hid (h'.own.alloc (.cells #[.int .i64 1, .int .i64 0, .int .u64 0, .int .i64 (-1), .int .i64 99, .string ⟨#[120]⟩, .int .i64 0, .int .i64 0, .bool false] 32)); have F5 := Troupe.hid (h'.frm.below (Nat.le_refl _) (fun k hk => by cases hk)); have F5a : Hid (Below w2.heap.size w2 (w5.alloc (.cells #[.int .i64 1, .int .i64 0, .int .u64 0, .int .i64 (-1), .int .i64 99, .string ⟨#[120]⟩, .int .i64 0, .int .i64 0, .bool false] 32))) := F5.out.alloc F5.out.size _; have N5b : Blk (w5.alloc (.cells #[.int .i64 1, .int .i64 0, .int .u64 0, .int .i64 (-1), .int .i64 99, .string ⟨#[120]⟩, .int .i64 0, .int .i64 0, .bool false] 32)) w5.heap.size 32 (flatV [evRef]) := Blk.new w5 32 (flatV [evRef]); have N5 := Troupe.hid (blk_in N5b N5b.lt); clear N5b; have z5 := F5.out.size; have z5a := F5a.out.size; clear h')
      | (at_builtin; refine wpList_app rfl (.tmp 38) (.tmp 40) 25 rfl w2.heap.size 32 info32 Try.underlying25 rfl (by decide) (.slice A5 k k5) k (flatV (evs.take k)) rfl O5.out _ (some ⟨w5.heap.size, 0, none⟩) 1 1 (flatV [evRef]) rfl rfl N5.out (fun h => by cases h) (one_evs _) (by omega) (by unfold maxLen; omega) z5a ?_; intro v6 w6 h'; rw [← flatV_app] at h'; obtain ⟨A6, k6, rfl, -⟩ := own_form h'.own; have O6 := Troupe.hid h'.own; have F6 := Troupe.hid (F5a.out.trans (h'.frm.below z5a (fun k hk => (O5.out.lt k hk).1))); have L6 : Hid (Cells w6 w.heap.size (some ⟨b, o, none⟩) (flatV (evs.drop k))) := .inl (by rw [List.drop_of_length_le (by omega)]; rfl); have z6 := F6.out.size; clear h')
      | (at_builtin; refine wpList_app rfl (.tmp 42) (.tmp 45) 25 rfl w2.heap.size 32 info32 Try.underlying25 rfl (by decide) (.slice A6 (k + 1) k6) (k + 1) (flatV (evs.take k ++ [evRef])) rfl O6.out _ (some ⟨b, o, none⟩) 0 0 (flatV (evs.drop k)) rfl (by rw [flatV_length, hkl]; omega) L6.out (fun h => by cases h) (one_evs _) (by omega) (by unfold maxLen; omega) z6 ?_; intro v7 w7 h'; rw [← flatV_app] at h'; obtain ⟨A7, k7, rfl, -⟩ := own_form h'.own; have O7 := Troupe.hid (own_cells h'.own); have F7 := Troupe.hid (F6.out.trans (h'.frm.below z6 (fun k hk => (O6.out.lt k hk).1))); have P7 := Troupe.hid (P2.out.below F7.out P2.out.lt); have S7 := Troupe.hid (S2.out.later F7.out); have B7 := Troupe.hid (B2.out.trans (F7.out.mono B2.out.size)); have e7 := P7.out.cell; clear h')
      | fail
    have HE : Hid (evs.take k ++ [evRef] ++ evs.drop k = evs.take k ++ evRef :: evs.drop k) := by unfold Hid; rw [List.append_assoc]; rfl
    rw [HE.out] at O7
    have CK := Troupe.hid (S7.out.chk (cl := k7) O7.out (by rw [List.length_append, List.length_take, List.length_cons, List.length_drop]; omega) (fun e he => by
      rcases List.mem_append.1 he with h | h
      · exact HO.out e (List.mem_of_mem_take h)
      · rcases List.mem_cons.1 h with rfl | h
        · exact ok_ev (by decide) (by decide) (by decide) (by decide) (by decide) (by decide)
        · exact HO.out e (List.mem_of_mem_drop h)) HQ.out)
    have hln : (evs.take k ++ evRef :: evs.drop k).length = k + 1 := by rw [List.length_append, List.length_take, List.length_cons, List.length_drop]; omega
    rw [hln] at CK
    clear hln
    refine CK.out.mono ?_
    rintro e w8 ⟨rfl, hb⟩
    have B8 := Troupe.hid (B7.out.trans (hb.mono B7.out.size))
    clear hb e7 CK
    dsimp only
    by_cases hq : q = 1 ∧ t = 0
    · obtain ⟨rfl, rfl⟩ := hq
      go_wp2_with fail
      go_ret
      exact ⟨rfl, B8.out⟩
    · rw [if_neg hq]
      by_cases hq1 : q = 1
      · subst hq1
        have ht0 : ((t : Int) == 0) = false := by rw [beq_eq_false_iff_ne]; omega
        clear hq
        by_cases hkt : k ≤ t
        · rw [if_pos hkt]
          have ht1 : IntKind.i64.wrap ((t : Int) + 1) = (t : Int) + 1 := by rw [IntKind.wrap_i64]; omega
          go_wp2_with fail
          go_ret
          exact ⟨by simp, B8.out⟩
        · rw [if_neg hkt]
          have hkt' : t < k := by omega
          go_wp2_with fail
          go_ret
          exact ⟨by simp, B8.out⟩
      · have hq0 : (q == 1) = false := by rw [beq_eq_false_iff_ne]; exact hq1
        clear hq hq1
        by_cases hkt : k ≤ t
        · rw [if_pos hkt]
          have ht1 : IntKind.i64.wrap ((t : Int) + 1) = (t : Int) + 1 := by rw [IntKind.wrap_i64]; omega
          go_wp2_with fail
          go_ret
          exact ⟨by simp, B8.out⟩
        · rw [if_neg hkt]
          have hkt' : t < k := by omega
          go_wp2_with fail
          go_ret
          exact ⟨by simp, B8.out⟩
end Go.Proofs.Ytkjjhndccelbcaa
