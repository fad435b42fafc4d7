/- The reference's Stash and Next by contract. -/
import Derived.Test.YtmbpilhngniigaaRefUn
import Derived.Test.YtmbpilhngniigaaMixo
import Derived.Laws.ResultCell
import Derived.Test.YtmbpilhngniigaaOrder
namespace Go.Proofs.Ytmbpilhngniigaa
open Go.RowKit Go.Maps Go.Troupe
attribute [local go_sem] reads readAt readUpon Cls

theorem results_cell_tmp_row {P : Program} {fn : Func} {p u : Tmp} {ty : TypeId} (h : fn.results = #[.cell p ty, .tmp u]) (tmps : Array Value) (w : World) (g : Nat) (t : TypeId) (cs : Array Value) (fr : Nat × Nat) (d : TypeDesc)
    (hp : tmps.getD p undef = .pointer (some ⟨g, 0, none⟩)) (hg : w.heap[g]? = some (.cells cs t fr))
    (hu : P.underlying ty = some d) (hd : (match d with | .struct _ | .array _ _ => true | _ => false) = true) (hi : (P.info? ty).map (·.size) = some cs.size) :
    (results fn tmps).run P w = .ok (.tuple #[.agg cs, tmps.getD u undef]) w := by
  rw [results_cell_tmp h, hp]
  simp [asAddr, run_loadVar_row w g t ty cs fr d hg hu hd hi, Result.andThen]
theorem results_cell_tmp2_row {P : Program} {fn : Func} {p u v : Tmp} {ty : TypeId} (h : fn.results = #[.cell p ty, .tmp u, .tmp v]) (tmps : Array Value) (w : World) (g : Nat) (t : TypeId) (cs : Array Value) (fr : Nat × Nat) (d : TypeDesc)
    (hp : tmps.getD p undef = .pointer (some ⟨g, 0, none⟩)) (hg : w.heap[g]? = some (.cells cs t fr))
    (hu : P.underlying ty = some d) (hd : (match d with | .struct _ | .array _ _ => true | _ => false) = true) (hi : (P.info? ty).map (·.size) = some cs.size) :
    (results fn tmps).run P w = .ok (.tuple #[.agg cs, tmps.getD u undef, tmps.getD v undef]) w := by
  have hp' : tmps[p]?.getD undef = .pointer (some ⟨g, 0, none⟩) := by simpa using hp
  simp only [results, h]
  simp [Result.andThen, hp', asAddr, run_loadVar_row w g t ty cs fr d hg hu hd hi]

set_option maxRecDepth 100000 in
theorem refStash_full (R : Int) (A1 : Option Addr) (c1 n1 : Nat) (A2 : Option Addr) (c2 n2 : Nat) (id : Int) (w : World) (hR : R ≤ n1) :
    Calls Try.prog 16 #[.agg #[.int .i64 R, .slice A1 n1 c1, .slice A2 n2 c2], .int .u64 id] w fun e w' => e = .returned (.tuple #[.agg #[.int .i64 R, .slice A1 n1 c1, .slice A2 n2 c2], .int .i64 4]) ∧ Below w.heap.size w w' := by
  have B1 : Below w.heap.size w ((w.alloc (.cells #[.int .i64 R, .slice A1 n1 c1, .slice A2 n2 c2] 37)).alloc (.cells #[.int .i64 0, .slice none 0 0, .slice none 0 0] 37)) := ((Below.refl _ _).alloc (Nat.le_refl _) _).alloc (by simp) _
  have k1 : Blk ((w.alloc (.cells #[.int .i64 R, .slice A1 n1 c1, .slice A2 n2 c2] 37)).alloc (.cells #[.int .i64 0, .slice none 0 0, .slice none 0 0] 37)) w.heap.size 37 [.int .i64 R, .slice A1 n1 c1, .slice A2 n2 c2] := (Blk.new w 37 [.int .i64 R, .slice A1 n1 c1, .slice A2 n2 c2]).alloc _
  have k2 : Blk ((w.alloc (.cells #[.int .i64 R, .slice A1 n1 c1, .slice A2 n2 c2] 37)).alloc (.cells #[.int .i64 0, .slice none 0 0, .slice none 0 0] 37)) (w.heap.size + 1) 37 [.int .i64 0, .slice none 0 0, .slice none 0 0] := by simpa using Blk.new (w.alloc (.cells #[.int .i64 R, .slice A1 n1 c1, .slice A2 n2 c2] 37)) 37 [.int .i64 0, .slice none 0 0, .slice none 0 0]
  have HB := Troupe.hid B1
  have K1 := Troupe.hid k1
  have K2 := Troupe.hid k2
  have e1 := k1.cell
  have e2 := k2.cell
  have f2 := k2.frozen
  clear B1 k1 k2
  go_enter Try.func16, Try.ntmps16
  go_wp2_with fail
  (try simp only [Exit.inBlock, Exit.then])
  have kr : Blk ((w.alloc (.cells #[.int .i64 R, .slice A1 n1 c1, .slice A2 n2 c2] 37)).alloc (.cells #[.int .i64 R, .slice A1 n1 c1, .slice A2 n2 c2] 37)) (w.heap.size + 1) 37 [.int .i64 R, .slice A1 n1 c1, .slice A2 n2 c2] := by simpa using Blk.new (w.alloc (.cells #[.int .i64 R, .slice A1 n1 c1, .slice A2 n2 c2] 37)) 37 [.int .i64 R, .slice A1 n1 c1, .slice A2 n2 c2]
  exact bodyPost_ret (results_cell_tmp_row rfl _ _ (w.heap.size + 1) 37 _ (0, 0) _ rfl kr Try.underlying37 rfl size37) rfl ⟨rfl, ((Below.refl _ _).alloc (Nat.le_refl _) _).alloc (by simp) _⟩

def Stshd (R : Int) (As : List Int) (A2 : Option Addr) (n2 c2 : Nat) (id : Int) (w : World) (e : Ending) (w' : World) : Prop :=
  ∃ v, e = .returned (.tuple #[.agg #[.int .i64 R, v, .slice A2 n2 c2], .int .i64 0]) ∧ w'.ownsRow w.heap.size 28 1 v (As.length + 1) (words (As ++ [id])) ∧ Below w.heap.size w w'
set_option maxRecDepth 100000 in
set_option maxHeartbeats 1000000 in
theorem refStash_ok (R : Int) (A1 : Option Addr) (c1 : Nat) (As : List Int) (A2 : Option Addr) (c2 n2 : Nat) (id : Int) (w : World) (hR : ¬ R ≤ (As.length : Int)) (hn : As.length ≤ 1000000) (h1 : Cells w w.heap.size A1 (words As)) (e1 : A1 = none → c1 = 0) :
    Calls Try.prog 16 #[.agg #[.int .i64 R, .slice A1 As.length c1, .slice A2 n2 c2], .int .u64 id] w (Stshd R As A2 n2 c2 id w) := by
  have B1 : Below w.heap.size w ((w.alloc (.cells #[.int .i64 R, .slice A1 As.length c1, .slice A2 n2 c2] 37)).alloc (.cells #[.int .i64 0, .slice none 0 0, .slice none 0 0] 37)) := ((Below.refl _ _).alloc (Nat.le_refl _) _).alloc (by simp) _
  have k1 : Blk ((w.alloc (.cells #[.int .i64 R, .slice A1 As.length c1, .slice A2 n2 c2] 37)).alloc (.cells #[.int .i64 0, .slice none 0 0, .slice none 0 0] 37)) w.heap.size 37 [.int .i64 R, .slice A1 As.length c1, .slice A2 n2 c2] := (Blk.new w 37 [.int .i64 R, .slice A1 As.length c1, .slice A2 n2 c2]).alloc _
  have k2 : Blk ((w.alloc (.cells #[.int .i64 R, .slice A1 As.length c1, .slice A2 n2 c2] 37)).alloc (.cells #[.int .i64 0, .slice none 0 0, .slice none 0 0] 37)) (w.heap.size + 1) 37 [.int .i64 0, .slice none 0 0, .slice none 0 0] := by simpa using Blk.new (w.alloc (.cells #[.int .i64 R, .slice A1 As.length c1, .slice A2 n2 c2] 37)) 37 [.int .i64 0, .slice none 0 0, .slice none 0 0]
  have HB := Troupe.hid B1
  have K1 := Troupe.hid k1
  have K2 := Troupe.hid k2
  have D1 := Troupe.hid h1
  have E1 := Troupe.hid e1
  clear B1 k1 k2 h1 e1
  go_enter Try.func16, Try.ntmps16
  go_wp2_with fail
  generalize (w.alloc (.cells #[.int .i64 R, .slice A1 As.length c1, .slice A2 n2 c2] 37)).alloc (.cells #[.int .i64 0, .slice none 0 0, .slice none 0 0] 37) = w2 at *
  let S0 : World → Prop := fun w' => Below w2.heap.size w2 w'
  have hne : Nonempty (SW S0) := ⟨⟨w2, Below.refl _ _⟩⟩
  have FC : ∀ (x : SW S0) (i : Nat), x.w.cell? ⟨w.heap.size, i, none⟩ = [Value.int .i64 R, .slice A1 As.length c1, .slice A2 n2 c2][i]? := fun x i => (K1.out.below x.h K1.out.lt).cell i
  refine region_mixo (S := Cls S0) [0, 1, 2, 3, 4, 7, 8] [5, 6] 9 (by kernel_rfl) (by kernel_rfl) (fun _ _ d _ _ h => by cases d <;> exact h) ?_
  intro w6 hh o1 o2 o3
  have F6 : Below w2.heap.size w2 w6 := (Frm.of_heap (S := fun _ => False) hh o1 o2 o3).below (Nat.le_refl _) (fun _ h => h.elim)
  clear hh o1 o2 o3
  refine ⟨Cls.of F6, ?_⟩
  simp only [pick, List.getElem?_cons_succ, List.getElem?_cons_zero, List.drop_succ_cons, List.drop_zero]
  repeat (refine wpReads_step (fun K hK => ?_); go_simp; refine hK _ ?_; clear hK K)
  refine wpReads_nil ?_
  unfold wpMid
  go_wp2_with fail
  have F7 : Below w2.heap.size w2 (w6.alloc (.cells #[.int .u64 id] 28)) := F6.alloc F6.size _
  have B7 : Blk (w6.alloc (.cells #[.int .u64 id] 28)) w6.heap.size 28 [.int .u64 id] := Blk.new _ _ _
  have G7 := HB.out.trans (F7.mono HB.out.size)
  have hJ := join_any A1 c1 (some ⟨w6.heap.size, 0, none⟩) 1 As [id] (w6.alloc (.cells #[.int .u64 id] 28)) hn (by simp) ((D1.out.below G7).mono G7.size) (B7.blk_cells.mono B7.lt) E1.out (fun h => by cases h)
  have J := Troupe.hid hJ
  have HS6 := Troupe.hid G7.size
  refine ⟨Cls.of F7, ?_⟩
  clear hJ B7 G7
  generalize w6.alloc (.cells #[.int .u64 id] 28) = w7 at *
  unfold wpMid
  go_wp2_with fail
  refine J.out.mono ?_
  rintro e w8 ⟨v, rfl, ho, hb⟩
  have F8 : Below w2.heap.size w2 w8 := F7.trans (hb.mono F7.size)
  have HO := Troupe.hid ho
  have G8 := Troupe.hid (HB.out.trans (F8.mono HB.out.size))
  obtain ⟨A7, c7, rfl, -⟩ := own_form ho
  clear ho hb F7
  go_wp2_with fail
  refine ⟨Cls.of F8, ?_⟩
  have k8 := K2.out.below F8 K2.out.lt
  have f8 := k8.frozen
  have e8 := k8.cell
  have K8 := Troupe.hid k8
  clear k8 F6 F8 FC hne
  unfold wpMid
  go_wp2_with fail
  (try simp only [Exit.inBlock, Exit.then])
  have KF : Blk _ (w.heap.size + 1) 37 [.int .i64 R, .slice A7 (As.length + 1) c7, .slice A2 n2 c2] := ((K8.out.set_ 0 (.int .i64 R)).set_ 1 (.slice A7 (As.length + 1) c7)).set_ 2 (.slice A2 n2 c2)
  have FF : Frm (fun k => k = w.heap.size + 1) w8 (((w8.setCell ⟨w.heap.size + 1, 0, none⟩ (.int .i64 R)).setCell ⟨w.heap.size + 1, 1, none⟩ (.slice A7 (As.length + 1) c7)).setCell ⟨w.heap.size + 1, 2, none⟩ (.slice A2 n2 c2)) :=
    ((Frm.one w8 ⟨w.heap.size + 1, 0, none⟩ _).trans (Frm.one _ ⟨w.heap.size + 1, 1, none⟩ _) (fun _ _ h => h)).trans (Frm.one _ ⟨w.heap.size + 1, 2, none⟩ _) (fun _ _ h => h)
  refine bodyPost_ret (results_cell_tmp_row rfl _ _ (w.heap.size + 1) 37 _ (0, 0) _ rfl KF Try.underlying37 rfl size37) rfl ⟨_, rfl, ?_, G8.out.trans (FF.below G8.out.size (fun k hk => by omega))⟩
  exact Go.Joins.ownsRow_le (own_frm HO.out FF (fun b hb e => by
    obtain ⟨cs, hbk⟩ := own_at HO.out hb
    exact hbk.ne K8.out (by decide) e)) HS6.out

set_option maxRecDepth 100000 in
theorem refNext_none (R : Int) (A1 : Option Addr) (c1 n1 : Nat) (A2 : Option Addr) (c2 : Nat) (w : World) :
    Calls Try.prog 18 #[.agg #[.int .i64 R, .slice A1 n1 c1, .slice A2 0 c2]] w fun e w' => e = .returned (.tuple #[.agg #[.int .i64 R, .slice A1 n1 c1, .slice A2 0 c2], .int .u64 0, .bool false]) ∧ Below w.heap.size w w' := by
  have k1 : Blk ((w.alloc (.cells #[.int .i64 R, .slice A1 n1 c1, .slice A2 0 c2] 37)).alloc (.cells #[.int .i64 0, .slice none 0 0, .slice none 0 0] 37)) w.heap.size 37 [.int .i64 R, .slice A1 n1 c1, .slice A2 0 c2] := (Blk.new w 37 [.int .i64 R, .slice A1 n1 c1, .slice A2 0 c2]).alloc _
  have k2 : Blk ((w.alloc (.cells #[.int .i64 R, .slice A1 n1 c1, .slice A2 0 c2] 37)).alloc (.cells #[.int .i64 0, .slice none 0 0, .slice none 0 0] 37)) (w.heap.size + 1) 37 [.int .i64 0, .slice none 0 0, .slice none 0 0] := by simpa using Blk.new (w.alloc (.cells #[.int .i64 R, .slice A1 n1 c1, .slice A2 0 c2] 37)) 37 [.int .i64 0, .slice none 0 0, .slice none 0 0]
  have e1 := k1.cell
  have e2 := k2.cell
  have f2 := k2.frozen
  clear k1 k2
  go_enter Try.func18, Try.ntmps18
  go_wp2_with fail
  (try simp only [Exit.inBlock, Exit.then])
  have kr : Blk ((w.alloc (.cells #[.int .i64 R, .slice A1 n1 c1, .slice A2 0 c2] 37)).alloc (.cells #[.int .i64 R, .slice A1 n1 c1, .slice A2 0 c2] 37)) (w.heap.size + 1) 37 [.int .i64 R, .slice A1 n1 c1, .slice A2 0 c2] := by simpa using Blk.new (w.alloc (.cells #[.int .i64 R, .slice A1 n1 c1, .slice A2 0 c2] 37)) 37 [.int .i64 R, .slice A1 n1 c1, .slice A2 0 c2]
  exact bodyPost_ret (results_cell_tmp2_row rfl _ _ (w.heap.size + 1) 37 _ (0, 0) _ rfl kr Try.underlying37 rfl size37) rfl ⟨rfl, ((Below.refl _ _).alloc (Nat.le_refl _) _).alloc (by simp) _⟩

def Nxtd (R : Int) (A1 : Option Addr) (n1 c1 : Nat) (a : Int) (Fr : List Int) (w : World) (e : Ending) (w' : World) : Prop :=
  ∃ v, e = .returned (.tuple #[.agg #[.int .i64 R, .slice A1 n1 c1, v], .int .u64 a, .bool true]) ∧ w'.ownsRow w.heap.size 28 1 v Fr.length (words Fr) ∧ Below w.heap.size w w'
set_option maxRecDepth 100000 in
set_option maxHeartbeats 1000000 in
theorem refNext_some (R : Int) (A1 : Option Addr) (c1 n1 : Nat) (A2 : Option Addr) (c2 : Nat) (a : Int) (Fr : List Int) (w : World) (hn : Fr.length ≤ 1000000) (hc : Fr.length + 1 ≤ c2) (h2 : Cells w w.heap.size A2 (words (a :: Fr))) :
    Calls Try.prog 18 #[.agg #[.int .i64 R, .slice A1 n1 c1, .slice A2 (Fr.length + 1) c2]] w (Nxtd R A1 n1 c1 a Fr w) := by
  obtain ⟨b, o, rfl, hb, hcell⟩ := cell_word h2 (i := 0) (x := a) (by simp)
  have hcut : Cells w w.heap.size (some ⟨b, o + 1, none⟩) (words Fr) := by have := h2.cut 1; simpa [words, Addr.add] using this
  rw [Nat.add_zero] at hcell
  obtain ⟨A3, hA3⟩ : ∃ A3 : Option Addr, (if c2 = 1 then some (⟨b, o, none⟩ : Addr) else some ⟨b, o + 1, none⟩) = A3 := ⟨_, rfl⟩
  have hone : (1 : Int) ≤ (Fr.length : Int) + 1 := by omega
  have hc3 : Cells w w.heap.size A3 (words Fr) := by
    rw [← hA3]
    split
    · have hF : Fr = [] := List.eq_nil_of_length_eq_zero (by omega)
      subst hF; exact Cells.nil _ _ _
    · exact hcut
  have hn3 : A3 = none → c2 - 1 = 0 := fun h => by rw [← hA3] at h; split at h <;> cases h
  have B1 : Below w.heap.size w ((w.alloc (.cells #[.int .i64 R, .slice A1 n1 c1, .slice (some ⟨b, o, none⟩) (Fr.length + 1) c2] 37)).alloc (.cells #[.int .i64 0, .slice none 0 0, .slice none 0 0] 37)) := ((Below.refl _ _).alloc (Nat.le_refl _) _).alloc (by simp) _
  have k1 : Blk ((w.alloc (.cells #[.int .i64 R, .slice A1 n1 c1, .slice (some ⟨b, o, none⟩) (Fr.length + 1) c2] 37)).alloc (.cells #[.int .i64 0, .slice none 0 0, .slice none 0 0] 37)) w.heap.size 37 [.int .i64 R, .slice A1 n1 c1, .slice (some ⟨b, o, none⟩) (Fr.length + 1) c2] := (Blk.new w 37 [.int .i64 R, .slice A1 n1 c1, .slice (some ⟨b, o, none⟩) (Fr.length + 1) c2]).alloc _
  have k2 : Blk ((w.alloc (.cells #[.int .i64 R, .slice A1 n1 c1, .slice (some ⟨b, o, none⟩) (Fr.length + 1) c2] 37)).alloc (.cells #[.int .i64 0, .slice none 0 0, .slice none 0 0] 37)) (w.heap.size + 1) 37 [.int .i64 0, .slice none 0 0, .slice none 0 0] := by simpa using Blk.new (w.alloc (.cells #[.int .i64 R, .slice A1 n1 c1, .slice (some ⟨b, o, none⟩) (Fr.length + 1) c2] 37)) 37 [.int .i64 0, .slice none 0 0, .slice none 0 0]
  have HB := Troupe.hid B1
  have K1 := Troupe.hid k1
  have K2 := Troupe.hid k2
  have D2 := Troupe.hid hc3
  have N3 := Troupe.hid hn3
  have hz : (((Fr.length : Int) + 1) == 0) = false := by rw [beq_eq_false_iff_ne]; omega
  have c0 := (B1.cell (p := ⟨b, o, none⟩) hb).trans hcell
  have C0 := Troupe.hid c0
  have hb2 := hb
  have HB2 := Troupe.hid hb2
  clear B1 k1 k2 h2 hcut hc3 hn3 hcell c0 hb2
  go_enter Try.func18, Try.ntmps18
  go_wp2_with fail
  generalize (w.alloc (.cells #[.int .i64 R, .slice A1 n1 c1, .slice (some ⟨b, o, none⟩) (Fr.length + 1) c2] 37)).alloc (.cells #[.int .i64 0, .slice none 0 0, .slice none 0 0] 37) = w2 at *
  let S0 : World → Prop := fun w' => Below (w.heap.size + 1) w2 w'
  have hne : Nonempty (SW S0) := ⟨⟨w2, Below.refl _ _⟩⟩
  have FC : ∀ (x : SW S0) (i : Nat), x.w.cell? ⟨w.heap.size, i, none⟩ = [Value.int .i64 R, .slice A1 n1 c1, .slice (some ⟨b, o, none⟩) (Fr.length + 1) c2][i]? := fun x i => (K1.out.below x.h (Nat.lt_succ_self _)).cell i
  have FD : ∀ (x : SW S0), x.w.cell? ⟨b, o, none⟩ = some (.int .u64 a) := fun x => (x.h.cell (p := ⟨b, o, none⟩) (Nat.lt_succ_of_lt HB2.out)).trans C0.out
  refine region_mixo (S := Cls S0) [0, 1, 2, 3, 4, 5, 6, 9, 10, 11, 12] [7, 8, 13] 14 (by kernel_rfl) (by kernel_rfl) (fun _ _ d _ _ h => by cases d <;> exact h) ?_
  intro w6 hh o1 o2 o3
  have F6 : Below w2.heap.size w2 w6 := (Frm.of_heap (S := fun _ => False) hh o1 o2 o3).below (Nat.le_refl _) (fun _ h => h.elim)
  clear hh o1 o2 o3
  have hs2 := K2.out.lt
  refine ⟨Cls.of (F6.mono (by omega)), ?_⟩
  simp only [pick, List.getElem?_cons_succ, List.getElem?_cons_zero, List.drop_succ_cons, List.drop_zero]
  repeat (refine wpReads_step (fun K hK => ?_); go_simp; refine hK _ ?_; clear hK K)
  refine wpReads_nil ?_
  unfold wpMid
  go_wp2_with fail
  have G6 := HB.out.trans (F6.mono HB.out.size)
  have hJ := join_any A3 (c2 - 1) none 0 Fr [] w6 hn (by decide) ((D2.out.below G6).mono G6.size) (Cells.nil _ _ _) N3.out (fun _ => rfl)
  have HS6 := Troupe.hid G6.size
  refine hJ.mono ?_
  rintro e w8 ⟨v, rfl, ho, hb⟩
  rw [List.append_nil, List.length_nil, Nat.add_zero] at ho
  have F8 : Below w2.heap.size w2 w8 := F6.trans (hb.mono F6.size)
  have HO := Troupe.hid ho
  have G8 := Troupe.hid (HB.out.trans (F8.mono HB.out.size))
  obtain ⟨A7, c7, rfl, -⟩ := own_form ho
  clear ho hb F6 hJ G6
  go_wp2_with fail
  refine ⟨Cls.of (F8.mono (by omega)), ?_⟩
  unfold wpMid
  go_wp2_with fail
  refine ⟨Cls.of (F8.mono (by omega)), ?_⟩
  have k8 := K2.out.below F8 K2.out.lt
  have f8 := k8.frozen
  have e8 := k8.cell
  have K8 := Troupe.hid k8
  have F8H := Troupe.hid F8
  clear k8 F8
  unfold wpMid
  go_wp2_with fail
  have KF : Blk (((w8.setCell ⟨w.heap.size + 1, 0, none⟩ (.int .i64 R)).setCell ⟨w.heap.size + 1, 1, none⟩ (.slice A1 n1 c1)).setCell ⟨w.heap.size + 1, 2, none⟩ (.slice A7 Fr.length c7)) (w.heap.size + 1) 37 [.int .i64 R, .slice A1 n1 c1, .slice A7 Fr.length c7] := ((K8.out.set_ 0 (.int .i64 R)).set_ 1 (.slice A1 n1 c1)).set_ 2 (.slice A7 Fr.length c7)
  have FF : Frm (fun k => k = w.heap.size + 1) w8 (((w8.setCell ⟨w.heap.size + 1, 0, none⟩ (.int .i64 R)).setCell ⟨w.heap.size + 1, 1, none⟩ (.slice A1 n1 c1)).setCell ⟨w.heap.size + 1, 2, none⟩ (.slice A7 Fr.length c7)) :=
    ((Frm.one w8 ⟨w.heap.size + 1, 0, none⟩ _).trans (Frm.one _ ⟨w.heap.size + 1, 1, none⟩ _) (fun _ _ h => h)).trans (Frm.one _ ⟨w.heap.size + 1, 2, none⟩ _) (fun _ _ h => h)
  have hs8 := F8H.out.size
  refine ⟨Cls.of ((F8H.out.mono (by omega)).trans (FF.below (by omega) (fun k hk => by omega))), ?_⟩
  unfold wpMid
  go_wp2_with fail
  (try simp only [Exit.inBlock, Exit.then])
  refine bodyPost_ret (results_cell_tmp2_row rfl _ _ (w.heap.size + 1) 37 _ (0, 0) _ rfl KF Try.underlying37 rfl size37) rfl ⟨_, rfl, ?_, G8.out.trans (FF.below G8.out.size (fun k hk => by omega))⟩
  exact Go.Joins.ownsRow_le (own_frm HO.out FF (fun b hb e => by
    obtain ⟨cs, hbk⟩ := own_at HO.out hb
    exact hbk.ne K8.out (by decide) e)) HS6.out
end Go.Proofs.Ytmbpilhngniigaa
