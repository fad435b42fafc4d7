/- ActPlans: the walk. -/
import Derived.Test.YtfeeajodgcdflaaRefDo
import Derived.Test.YtfeeajodgcdflaaSame
import Derived.Test.YtfeeajodgcdflaaAlive
import Derived.Test.YtfeeajodgcdflaaPlan
namespace Go.Proofs.Ytfeeajodgcdflaa
open Go.RowKit Go.Maps Go.Troupe
attribute [local go_sem] reads readAt readUpon Cls
set_option maxRecDepth 100000 in
set_option maxHeartbeats 2000000 in
theorem plans_walk (k : Kd) (state tag : ByteArray) (n : Int) (hn : -9223372036854775808 ≤ n ∧ n ≤ 9223372036854775807) (w : World) (hk : KindIn w w.heap.size k) :
    Calls Try.prog 3 #[k.val, .string state, .string tag, .int .i64 n] w fun e w' => e = .returned (.bool true) ∧ Below w.heap.size w w' := by
  have HK := Troupe.hid hk
  clear hk
  obtain ⟨P, hP⟩ : ∃ P, planV k.sts state tag n = P := ⟨_, rfl⟩
  have F0 : Below w.heap.size w (w.alloc (.cells #[.string k.name, .int .i64 k.limit, .int .i64 k.within, .slice k.Ac k.nc k.cc, .slice k.A k.sts.length k.cap] 25)) := (Below.refl _ _).alloc (Nat.le_refl _) _
  have K0 : Blk (w.alloc (.cells #[.string k.name, .int .i64 k.limit, .int .i64 k.within, .slice k.Ac k.nc k.cc, .slice k.A k.sts.length k.cap] 25)) w.heap.size 25 [.string k.name, .int .i64 k.limit, .int .i64 k.within, .slice k.Ac k.nc k.cc, .slice k.A k.sts.length k.cap] := Blk.new _ _ _
  have HF := Troupe.hid F0
  have HK0 := Troupe.hid K0
  clear F0 K0
  dsimp only [Kd.val]
  go_enter Try.func3, Try.ntmps3
  go_wp2_with fail
  generalize w.alloc (.cells #[.string k.name, .int .i64 k.limit, .int .i64 k.within, .slice k.Ac k.nc k.cc, .slice k.A k.sts.length k.cap] 25) = w0 at *
  let S0 : World → Prop := fun w' => Below w0.heap.size w0 w'
  have hne : Nonempty (SW S0) := ⟨⟨w0, Below.refl _ _⟩⟩
  have FC : ∀ (x : SW S0) (i : Nat), x.w.cell? ⟨w.heap.size, i, none⟩ = [Value.string k.name, .int .i64 k.limit, .int .i64 k.within, .slice k.Ac k.nc k.cc, .slice k.A k.sts.length k.cap][i]? := fun x i => (HK0.out.below x.h HK0.out.lt).cell i
  refine region_plan (S := Cls S0) (.one 0 (.read 1 (.read 2 (.read 3 (.read 4 (.read 5 (.read 7 (.read 8 (.read 9 (.read 10 (.one 6 .tail))))))))))) 11 (by kernel_rfl) (by kernel_rfl) (fun _ _ d _ _ h => by cases d <;> exact h) ?_
  intro w6 hh o1 o2 o3
  have F6 : Below w0.heap.size w0 w6 := (Frm.of_heap (S := fun _ => False) hh o1 o2 o3).below (Nat.le_refl _) (fun _ h => h.elim)
  clear hh o1 o2 o3
  refine ⟨Cls.of F6, ?_⟩
  refine wpPlan_one rfl ?_
  go_wp2_with fail
  refine (alive_any w6).mono ?_
  rintro e w7 ⟨rfl, hb⟩
  have F7 := F6.trans (hb.mono F6.size)
  clear hb F6
  go_wp2_with fail
  refine ⟨Cls.of F7, ?_⟩
  repeat (refine wpPlan_read rfl (fun K hK => ?_); go_simp; refine hK _ ?_; clear hK K)
  clear FC
  have G7 := HF.out.trans (F7.mono HF.out.size)
  have DO := Troupe.hid (do_any k state tag n hn w7 ((HK.out.below G7).mono G7.size))
  rw [hP] at DO
  have HF7 := Troupe.hid F7
  clear F7 G7
  dsimp only [Kd.val] at DO
  refine wpPlan_one rfl ?_
  go_wp2_with fail
  refine DO.out.mono ?_
  rintro e w8 ⟨v1, rfl, ho1, hb⟩
  have F8 := HF7.out.trans (hb.mono HF7.out.size)
  have G8 := HF.out.trans (F8.mono HF.out.size)
  have RD := Troupe.hid (rdo_any k state tag n hn w8 ((HK.out.below G8).mono G8.size))
  rw [hP] at RD
  have HO1 := Troupe.hid ho1
  have HF8 := Troupe.hid F8
  clear hb F8 ho1 G8 DO
  dsimp only [Kd.val, Pl.val] at RD ⊢
  go_wp2_with fail
  refine ⟨Cls.of HF8.out, ?_⟩
  refine wpPlan_tail ?_
  simp only [List.drop_succ_cons, List.drop_zero]
  go_wp2_with fail
  refine RD.out.mono ?_
  rintro e w9 ⟨v2, rfl, ho2, hb⟩
  have F9 := HF8.out.trans (hb.mono HF8.out.size)
  have ho1 := own_below HO1.out hb
  obtain ⟨A1, c1, rfl, hl1, hm1, hc1, -, -⟩ := own_form ho1
  obtain ⟨A2, c2, rfl, -, -, hc2, -, -⟩ := own_form ho2
  have SM := Troupe.hid (rsame_eq P A1 A2 c1 c2 w9 hc1 hc2 (by unfold maxLen at hm1; omega))
  have HF9 := Troupe.hid F9
  clear hb F9 ho1 ho2 hc1 hc2 RD HO1 hl1 hm1
  dsimp only [Pl.val] at SM
  go_wp2_with fail
  refine SM.out.mono ?_
  rintro e w10 ⟨rfl, hb⟩
  have F10 := HF9.out.trans (hb.mono HF9.out.size)
  have G10 := Troupe.hid (HF.out.trans (F10.mono HF.out.size))
  clear hb F10
  go_wp2_with fail
  go_ret
  exact ⟨rfl, G10.out⟩
end Go.Proofs.Ytfeeajodgcdflaa
