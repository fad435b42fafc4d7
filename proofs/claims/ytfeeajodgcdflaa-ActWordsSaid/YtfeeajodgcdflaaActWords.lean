/- ActWords: the walk. -/
import Derived.Test.YtfeeajodgcdflaaRefSlot
import Derived.Test.YtfeeajodgcdflaaRefRow
import Derived.Test.YtfeeajodgcdflaaAlive
namespace Go.Proofs.Ytfeeajodgcdflaa
open Go.RowKit Go.Maps Go.Troupe
attribute [local go_sem] reads readAt readUpon Cls
set_option maxRecDepth 100000 in
set_option maxHeartbeats 2000000 in
theorem words_walk (ref : ByteArray) (x0 x1 x2 : Int) (A : Option Addr) (c : Nat) (l : List Int) (e : Eff) (n : Int) (hn : -9223372036854775808 ≤ n ∧ n ≤ 9223372036854775807) (w : World) (hc : Cells w w.heap.size A (nums l)) :
    Calls Try.prog 4 #[.string ref, .agg #[.int .i64 x0, .int .i64 x1, .int .i64 x2], .slice A l.length c, .agg e.cells.toArray, .int .i64 n] w fun e w' => e = .returned (.bool true) ∧ Below w.heap.size w w' := by
  have C := Troupe.hid hc
  clear hc
  obtain ⟨d, er, slot, name, v, m, delay⟩ := e
  dsimp only [Eff.cells]
  have F0 : Below w.heap.size w ((w.alloc (.cells #[.int .i64 x0, .int .i64 x1, .int .i64 x2] 33)).alloc (.cells #[.int .i64 d, .string er, .string slot, .string name, .int .i64 v, .int .i64 m, .int .i64 delay] 36)) := ((Below.refl _ _).alloc (Nat.le_refl _) _).alloc (by simp) _
  have K0 : Blk ((w.alloc (.cells #[.int .i64 x0, .int .i64 x1, .int .i64 x2] 33)).alloc (.cells #[.int .i64 d, .string er, .string slot, .string name, .int .i64 v, .int .i64 m, .int .i64 delay] 36)) w.heap.size 33 [.int .i64 x0, .int .i64 x1, .int .i64 x2] := (Blk.new _ _ _).alloc _
  have K1 : Blk ((w.alloc (.cells #[.int .i64 x0, .int .i64 x1, .int .i64 x2] 33)).alloc (.cells #[.int .i64 d, .string er, .string slot, .string name, .int .i64 v, .int .i64 m, .int .i64 delay] 36)) (w.heap.size + 1) 36 [.int .i64 d, .string er, .string slot, .string name, .int .i64 v, .int .i64 m, .int .i64 delay] := by simpa using Blk.new (w.alloc (.cells #[.int .i64 x0, .int .i64 x1, .int .i64 x2] 33)) 36 [.int .i64 d, .string er, .string slot, .string name, .int .i64 v, .int .i64 m, .int .i64 delay]
  have HF := Troupe.hid F0
  have HK0 := Troupe.hid K0
  have HK1 := Troupe.hid K1
  have SR := Troupe.hid (slotV_range ref)
  clear F0 K0 K1
  go_enter Try.func4, Try.ntmps4
  go_wp2_with fail
  generalize (w.alloc (.cells #[.int .i64 x0, .int .i64 x1, .int .i64 x2] 33)).alloc (.cells #[.int .i64 d, .string er, .string slot, .string name, .int .i64 v, .int .i64 m, .int .i64 delay] 36) = w0 at *
  refine (alive_any _).mono ?_
  rintro e w1 ⟨rfl, hb⟩
  have HB1 := Troupe.hid hb
  clear hb
  go_wp2_with fail
  have SL := Troupe.hid (slot_any ref w1)
  have RS := Troupe.hid (rslot_any ref w1)
  obtain ⟨sv, hsv⟩ : ∃ sv, slotV ref = sv := ⟨_, rfl⟩
  rw [hsv] at SR SL RS
  clear hsv
  let S0 : World → Prop := fun w' => Below w0.heap.size w0 w'
  have hne : Nonempty (SW S0) := ⟨⟨w0, Below.refl _ _⟩⟩
  have FC : ∀ (x : SW S0) (i : Nat), x.w.cell? ⟨w.heap.size, i, none⟩ = [Value.int .i64 x0, .int .i64 x1, .int .i64 x2][i]? := fun x i => (HK0.out.below x.h HK0.out.lt).cell i
  have FD : ∀ (x : SW S0) (i : Nat), x.w.cell? ⟨w.heap.size + 1, i, none⟩ = [Value.int .i64 d, .string er, .string slot, .string name, .int .i64 v, .int .i64 m, .int .i64 delay][i]? := fun x i => (HK1.out.below x.h HK1.out.lt).cell i
  by_cases hneg : sv < 0
  · have hm : sv = -1 := by have := SR.out; omega
    subst hm
    rw [if_pos hneg] at SL
    have hd : decide ((0 : Int) ≤ -1) = false := by decide
    have hmax : max (-1 : Int) 0 = 0 := by decide
    rw [hd] at SL
    clear hneg hd
    refine SL.out.mono ?_
    rintro e w1' ⟨rfl, hw⟩
    obtain rfl := hw
    go_wp2_with fail
    refine RS.out.mono ?_
    rintro e w2 ⟨rfl, hb⟩
    have HB2 := Troupe.hid (HB1.out.trans (hb.mono HB1.out.size))
    clear hb HB1 SL RS
    go_wp2_with fail
    refine region_plan (S := Cls S0) (.read 0 (.read 1 (.read 2 (.read 3 (.read 4 (.read 5 (.read 6 (.read 7 (.read 9 (.read 10 (.read 11 (.read 12 (.read 13 (.read 14 (.read 15 (.read 16 (.one 8 (.one 17 (.one 18 (.one 19 (.read 20 (.read 21 (.one 22 (.one 23 (.one 24 (.one 25 (.read 26 (.read 27 (.one 28 (.one 29 (.one 30 (.one 31 (.read 32 (.read 33 (.read 35 (.read 36 (.one 34 .tail))))))))))))))))))))))))))))))))))))) 37 (by kernel_rfl) (by kernel_rfl) (fun _ _ d _ _ h => by cases d <;> exact h) ?_
    intro w6 hh o1 o2 o3
    have F6 : Below w0.heap.size w0 w6 := HB2.out.trans ((Frm.of_heap (S := fun _ => False) hh o1 o2 o3).below HB2.out.size (fun _ h => h.elim))
    clear hh o1 o2 o3
    refine ⟨Cls.of F6, ?_⟩
    repeat (refine wpPlan_read rfl (fun K hK => ?_); go_simp; refine hK _ ?_; clear hK K)
    have HF6 := Troupe.hid F6
    have C6 := Troupe.hid (((C.out.below HF.out).below (F6.mono HF.out.size)).mono (HF.out.trans (F6.mono HF.out.size)).size)
    clear F6
    refine wpPlan_one rfl ?_
    go_wp2_with fail
    refine (who_any ref x0 x1 x2 A l.length c l rfl w6 C6.out).mono ?_
    rintro e w7 ⟨rfl, hw⟩
    obtain rfl := hw
    go_wp2_with fail
    refine ⟨Cls.of HF6.out, ?_⟩
    refine wpPlan_one rfl ?_
    go_wp2_with fail
    refine (rwho_any ref x0 x1 x2 A l.length c l rfl w7 C6.out).mono ?_
    rintro e w8 ⟨rfl, hb⟩
    have HF8 := Troupe.hid (HF6.out.trans (hb.mono HF6.out.size))
    clear hb C6 HF6
    generalize whoV ref x0 x1 x2 l = wv at *
    go_wp2_with fail
    refine ⟨Cls.of HF8.out, ?_⟩
    refine wpPlan_one rfl ?_
    go_wp2_with fail
    refine ⟨Cls.of HF8.out, ?_⟩
    refine wpPlan_one rfl ?_
    go_wp2_with fail
    refine ⟨Cls.of HF8.out, ?_⟩
    repeat (refine wpPlan_read rfl (fun K hK => ?_); go_simp; refine hK _ ?_; clear hK K)
    refine wpPlan_one rfl ?_
    go_wp2_with fail
    refine ⟨Cls.of HF8.out, ?_⟩
    refine wpPlan_one rfl ?_
    go_wp2_with fail
    refine ⟨Cls.of HF8.out, ?_⟩
    refine wpPlan_one rfl ?_
    go_wp2_with fail
    refine ⟨Cls.of HF8.out, ?_⟩
    refine wpPlan_one rfl ?_
    go_wp2_with fail
    refine ⟨Cls.of HF8.out, ?_⟩
    repeat (refine wpPlan_read rfl (fun K hK => ?_); go_simp; refine hK _ ?_; clear hK K)
    refine wpPlan_one rfl ?_
    go_wp2_with fail
    refine ⟨Cls.of HF8.out, ?_⟩
    refine wpPlan_one rfl ?_
    go_wp2_with fail
    refine ⟨Cls.of HF8.out, ?_⟩
    refine wpPlan_one rfl ?_
    go_wp2_with fail
    refine ⟨Cls.of HF8.out, ?_⟩
    refine wpPlan_one rfl ?_
    go_wp2_with fail
    refine ⟨Cls.of HF8.out, ?_⟩
    repeat (refine wpPlan_read rfl (fun K hK => ?_); go_simp; refine hK _ ?_; clear hK K)
    refine wpPlan_one rfl ?_
    go_wp2_with fail
    refine (number_any ⟨d, er, slot, name, v, m, delay⟩ n hn w8).mono ?_
    rintro e w9 ⟨rfl, hb⟩
    have HF9 := Troupe.hid (HF8.out.trans (hb.mono HF8.out.size))
    clear hb HF8
    go_wp2_with fail
    refine ⟨Cls.of HF9.out, ?_⟩
    refine wpPlan_tail ?_
    simp only [List.drop_succ_cons, List.drop_zero]
    go_wp2_with fail
    refine (rnumber_any ⟨d, er, slot, name, v, m, delay⟩ n hn w9).mono ?_
    rintro e w10 ⟨rfl, hb⟩
    have HF10 := Troupe.hid (HF.out.trans ((HF9.out.trans (hb.mono HF9.out.size)).mono HF.out.size))
    clear hb HF9
    generalize numV ⟨d, er, slot, name, v, m, delay⟩ n = nv at *
    go_wp2_with fail
    go_ret
    exact ⟨rfl, HF10.out⟩
  · obtain ⟨k, rfl⟩ : ∃ k : Nat, sv = k := ⟨sv.toNat, by omega⟩
    rw [if_neg hneg] at SL
    have hd : decide ((0 : Int) ≤ (k : Int)) = true := decide_eq_true (by omega)
    have hd2 : (0 : Int) ≤ (k : Int) := by omega
    have hmax : max (k : Int) 0 = k := by omega
    rw [hd] at SL
    clear hneg hd
    refine SL.out.mono ?_
    rintro e w1' ⟨rfl, hw⟩
    obtain rfl := hw
    go_wp2_with fail
    refine RS.out.mono ?_
    rintro e w2 ⟨rfl, hb⟩
    have HB2 := Troupe.hid (HB1.out.trans (hb.mono HB1.out.size))
    clear hb HB1 SL RS
    go_wp2_with fail
    refine region_plan (S := Cls S0) (.read 0 (.read 1 (.read 2 (.read 3 (.read 4 (.read 5 (.read 6 (.read 7 (.read 9 (.read 10 (.read 11 (.read 12 (.read 13 (.read 14 (.read 15 (.read 16 (.one 8 (.one 17 (.one 18 (.one 19 (.read 20 (.read 21 (.one 22 (.one 23 (.one 24 (.one 25 (.read 26 (.read 27 (.one 28 (.one 29 (.one 30 (.one 31 (.read 32 (.read 33 (.read 35 (.read 36 (.one 34 .tail))))))))))))))))))))))))))))))))))))) 37 (by kernel_rfl) (by kernel_rfl) (fun _ _ d _ _ h => by cases d <;> exact h) ?_
    intro w6 hh o1 o2 o3
    have F6 : Below w0.heap.size w0 w6 := HB2.out.trans ((Frm.of_heap (S := fun _ => False) hh o1 o2 o3).below HB2.out.size (fun _ h => h.elim))
    clear hh o1 o2 o3
    refine ⟨Cls.of F6, ?_⟩
    repeat (refine wpPlan_read rfl (fun K hK => ?_); go_simp; refine hK _ ?_; clear hK K)
    have HF6 := Troupe.hid F6
    have C6 := Troupe.hid (((C.out.below HF.out).below (F6.mono HF.out.size)).mono (HF.out.trans (F6.mono HF.out.size)).size)
    clear F6
    refine wpPlan_one rfl ?_
    go_wp2_with fail
    refine (who_any ref x0 x1 x2 A l.length c l rfl w6 C6.out).mono ?_
    rintro e w7 ⟨rfl, hw⟩
    obtain rfl := hw
    go_wp2_with fail
    refine ⟨Cls.of HF6.out, ?_⟩
    refine wpPlan_one rfl ?_
    go_wp2_with fail
    refine (rwho_any ref x0 x1 x2 A l.length c l rfl w7 C6.out).mono ?_
    rintro e w8 ⟨rfl, hb⟩
    have HF8 := Troupe.hid (HF6.out.trans (hb.mono HF6.out.size))
    clear hb C6 HF6
    generalize whoV ref x0 x1 x2 l = wv at *
    go_wp2_with fail
    refine ⟨Cls.of HF8.out, ?_⟩
    refine wpPlan_one rfl ?_
    go_wp2_with fail
    refine ⟨Cls.of HF8.out, ?_⟩
    refine wpPlan_one rfl ?_
    go_wp2_with fail
    refine ⟨Cls.of HF8.out, ?_⟩
    repeat (refine wpPlan_read rfl (fun K hK => ?_); go_simp; refine hK _ ?_; clear hK K)
    refine wpPlan_one rfl ?_
    go_wp2_with fail
    refine ⟨Cls.of HF8.out, ?_⟩
    refine wpPlan_one rfl ?_
    go_wp2_with fail
    refine ⟨Cls.of HF8.out, ?_⟩
    refine wpPlan_one rfl ?_
    go_wp2_with fail
    refine ⟨Cls.of HF8.out, ?_⟩
    refine wpPlan_one rfl ?_
    go_wp2_with fail
    refine ⟨Cls.of HF8.out, ?_⟩
    repeat (refine wpPlan_read rfl (fun K hK => ?_); go_simp; refine hK _ ?_; clear hK K)
    refine wpPlan_one rfl ?_
    go_wp2_with fail
    refine ⟨Cls.of HF8.out, ?_⟩
    refine wpPlan_one rfl ?_
    go_wp2_with fail
    refine ⟨Cls.of HF8.out, ?_⟩
    refine wpPlan_one rfl ?_
    go_wp2_with fail
    refine ⟨Cls.of HF8.out, ?_⟩
    refine wpPlan_one rfl ?_
    go_wp2_with fail
    refine ⟨Cls.of HF8.out, ?_⟩
    repeat (refine wpPlan_read rfl (fun K hK => ?_); go_simp; refine hK _ ?_; clear hK K)
    refine wpPlan_one rfl ?_
    go_wp2_with fail
    refine (number_any ⟨d, er, slot, name, v, m, delay⟩ n hn w8).mono ?_
    rintro e w9 ⟨rfl, hb⟩
    have HF9 := Troupe.hid (HF8.out.trans (hb.mono HF8.out.size))
    clear hb HF8
    go_wp2_with fail
    refine ⟨Cls.of HF9.out, ?_⟩
    refine wpPlan_tail ?_
    simp only [List.drop_succ_cons, List.drop_zero]
    go_wp2_with fail
    refine (rnumber_any ⟨d, er, slot, name, v, m, delay⟩ n hn w9).mono ?_
    rintro e w10 ⟨rfl, hb⟩
    have HF10 := Troupe.hid (HF.out.trans ((HF9.out.trans (hb.mono HF9.out.size)).mono HF.out.size))
    clear hb HF9
    generalize numV ⟨d, er, slot, name, v, m, delay⟩ n = nv at *
    go_wp2_with fail
    go_ret
    exact ⟨rfl, HF10.out⟩
theorem words_walk' (ref : ByteArray) (x0 x1 x2 : Int) (A : Option Addr) (len c : Nat) (l : List Int) (hl : l.length = len) (e : Eff) (n : Int) (hn : -9223372036854775808 ≤ n ∧ n ≤ 9223372036854775807) (w : World) (hc : Cells w w.heap.size A (nums l)) :
    Calls Try.prog 4 #[.string ref, .agg #[.int .i64 x0, .int .i64 x1, .int .i64 x2], .slice A len c, .agg e.cells.toArray, .int .i64 n] w fun e w' => e = .returned (.bool true) ∧ Below w.heap.size w w' := by
  subst hl
  exact words_walk ref x0 x1 x2 A c l e n hn w hc
end Go.Proofs.Ytfeeajodgcdflaa
