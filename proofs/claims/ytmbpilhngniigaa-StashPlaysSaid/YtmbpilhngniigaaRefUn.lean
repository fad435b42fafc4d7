/- The reference's Unstash by contract. -/
import Derived.Test.YtmbpilhngniigaaRefNew
import Derived.Test.YtmbpilhngniigaaJoin
import Derived.Test.YtmbpilhngniigaaMix
import Derived.Lib.SmallJoins
namespace Go.Proofs.Ytmbpilhngniigaa
open Go.RowKit Go.Maps Go.Troupe
attribute [local go_sem] reads readAt readUpon Cls

def Unst (R : Int) (As Fr : List Int) (w : World) (e : Ending) (w' : World) : Prop :=
  ∃ v, e = .returned (.agg #[.int .i64 R, .slice none 0 0, v]) ∧ w'.ownsRow w.heap.size 28 1 v (As.length + Fr.length) (words (As ++ Fr)) ∧ Below w.heap.size w w'
set_option maxRecDepth 100000 in
set_option maxHeartbeats 1000000 in
theorem refUnstash_any (R : Int) (A1 : Option Addr) (c1 : Nat) (A2 : Option Addr) (c2 : Nat) (As Fr : List Int) (w : World) (hn1 : As.length ≤ 1000000) (hn2 : Fr.length ≤ 1000000) (h1 : Cells w w.heap.size A1 (words As)) (h2 : Cells w w.heap.size A2 (words Fr))
    (e1 : A1 = none → c1 = 0) (e2 : A2 = none → c2 = 0) :
    Calls Try.prog 17 #[.agg #[.int .i64 R, .slice A1 As.length c1, .slice A2 Fr.length c2]] w (Unst R As Fr w) := by
  have B1 : Below w.heap.size w ((w.alloc (.cells #[.int .i64 R, .slice A1 As.length c1, .slice A2 Fr.length c2] 37)).alloc (.cells #[.int .i64 0, .slice none 0 0, .slice none 0 0] 37)) := ((Below.refl _ _).alloc (Nat.le_refl _) _).alloc (by simp) _
  have k1 : Blk ((w.alloc (.cells #[.int .i64 R, .slice A1 As.length c1, .slice A2 Fr.length c2] 37)).alloc (.cells #[.int .i64 0, .slice none 0 0, .slice none 0 0] 37)) w.heap.size 37 [.int .i64 R, .slice A1 As.length c1, .slice A2 Fr.length c2] := (Blk.new w 37 [.int .i64 R, .slice A1 As.length c1, .slice A2 Fr.length c2]).alloc _
  have k2 : Blk ((w.alloc (.cells #[.int .i64 R, .slice A1 As.length c1, .slice A2 Fr.length c2] 37)).alloc (.cells #[.int .i64 0, .slice none 0 0, .slice none 0 0] 37)) (w.heap.size + 1) 37 [.int .i64 0, .slice none 0 0, .slice none 0 0] := by simpa using Blk.new (w.alloc (.cells #[.int .i64 R, .slice A1 As.length c1, .slice A2 Fr.length c2] 37)) 37 [.int .i64 0, .slice none 0 0, .slice none 0 0]
  have HB := Troupe.hid B1
  have K1 := Troupe.hid k1
  have K2 := Troupe.hid k2
  have D1 := Troupe.hid h1
  have D2 := Troupe.hid h2
  have E1 := Troupe.hid e1
  have E2 := Troupe.hid e2
  clear B1 k1 k2 h1 h2 e1 e2
  go_enter Try.func17, Try.ntmps17
  go_wp2_with fail
  generalize (w.alloc (.cells #[.int .i64 R, .slice A1 As.length c1, .slice A2 Fr.length c2] 37)).alloc (.cells #[.int .i64 0, .slice none 0 0, .slice none 0 0] 37) = w2 at *
  let S0 : World → Prop := fun w' => Below w2.heap.size w2 w'
  have hne : Nonempty (SW S0) := ⟨⟨w2, Below.refl _ _⟩⟩
  have FC : ∀ (x : SW S0) (i : Nat), x.w.cell? ⟨w.heap.size, i, none⟩ = [Value.int .i64 R, .slice A1 As.length c1, .slice A2 Fr.length c2][i]? := fun x i => (K1.out.below x.h K1.out.lt).cell i
  refine region_mix (S := Cls S0) 6 8 (by kernel_rfl) (by kernel_rfl) (fun _ _ d _ _ h => by cases d <;> exact h) ?_
  intro w6 hh o1 o2 o3
  have F6 : Below w2.heap.size w2 w6 := (Frm.of_heap (S := fun _ => False) hh o1 o2 o3).below (Nat.le_refl _) (fun _ h => h.elim)
  clear hh o1 o2 o3
  refine ⟨Cls.of F6, ?_⟩
  simp only [List.take_succ_cons, List.take_zero, List.drop_succ_cons, List.drop_zero]
  repeat (refine wpReads_step (fun K hK => ?_); go_simp; refine hK _ ?_; clear hK K)
  refine wpReads_nil ?_
  unfold wpMid
  go_wp2_with fail
  have G6 := HB.out.trans (F6.mono HB.out.size)
  refine (join_any A1 c1 A2 c2 As Fr w6 hn1 hn2 ((D1.out.below G6).mono G6.size) ((D2.out.below G6).mono G6.size) E1.out E2.out).mono ?_
  rintro e w7 ⟨v, rfl, ho, hb⟩
  have F7 : Below w2.heap.size w2 w7 := F6.trans (hb.mono F6.size)
  have HO := Troupe.hid ho
  have G7 := Troupe.hid (HB.out.trans (F7.mono HB.out.size))
  have HS6 := Troupe.hid G6.size
  obtain ⟨A7, c7, rfl, -⟩ := own_form ho
  clear ho hb G6
  go_wp2_with fail
  refine ⟨Cls.of F7, ?_⟩
  unfold wpMid
  go_wp2_with fail
  refine ⟨Cls.of F7, ?_⟩
  have k7 := K2.out.below F7 K2.out.lt
  have f7 := k7.frozen
  have e7 := k7.cell
  have K7 := Troupe.hid k7
  clear k7 F6 F7 FC hne
  unfold wpMid
  go_wp2_with fail
  (try simp only [Exit.inBlock, Exit.then])
  have KF : Blk _ (w.heap.size + 1) 37 [.int .i64 R, .slice none 0 0, .slice A7 (As.length + Fr.length) c7] := ((K7.out.set_ 0 (.int .i64 R)).set_ 1 (.slice none 0 0)).set_ 2 (.slice A7 (As.length + Fr.length) c7)
  have FF : Frm (fun k => k = w.heap.size + 1) w7 (((w7.setCell ⟨w.heap.size + 1, 0, none⟩ (.int .i64 R)).setCell ⟨w.heap.size + 1, 1, none⟩ (.slice none 0 0)).setCell ⟨w.heap.size + 1, 2, none⟩ (.slice A7 (As.length + Fr.length) c7)) :=
    ((Frm.one w7 ⟨w.heap.size + 1, 0, none⟩ _).trans (Frm.one _ ⟨w.heap.size + 1, 1, none⟩ _) (fun _ _ h => h)).trans (Frm.one _ ⟨w.heap.size + 1, 2, none⟩ _) (fun _ _ h => h)
  refine bodyPost_ret (results_cell_row rfl _ _ (w.heap.size + 1) 37 _ (0, 0) _ rfl KF Try.underlying37 rfl size37) rfl ⟨_, rfl, ?_, G7.out.trans (FF.below G7.out.size (fun k hk => by omega))⟩
  exact Go.Joins.ownsRow_le (own_frm HO.out FF (fun b hb e => by
    obtain ⟨cs, hbk⟩ := own_at HO.out hb
    exact hbk.ne K7.out (by decide) e)) HS6.out
end Go.Proofs.Ytmbpilhngniigaa
