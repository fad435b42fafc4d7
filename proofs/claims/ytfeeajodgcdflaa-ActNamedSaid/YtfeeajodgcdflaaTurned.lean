/- ActTurned: the walk. -/
import Derived.Test.YtfeeajodgcdflaaTurn
import Derived.Test.YtfeeajodgcdflaaSame
import Derived.Test.YtfeeajodgcdflaaAlive
import Derived.Test.YtfeeajodgcdflaaPlan
namespace Go.Proofs.Ytfeeajodgcdflaa
open Go.RowKit Go.Maps Go.Troupe
attribute [local go_sem] reads readAt readUpon Cls
theorem info47 : (Try.prog.info? 47).map (fun i => (i.zero, i.size, i.bytes)) = some (some (.agg #[.string ⟨#[]⟩, .bool false, .int .i64 0, .slice none 0 0]), 4, 56) := by kernel_rfl
theorem info45 : (Try.prog.info? 45).map (fun i => (i.zero, i.size, i.bytes)) = some (some (.agg #[.string ⟨#[]⟩, .slice none 0 0]), 2, 40) := by kernel_rfl
theorem one_rows (l : List Rw) : ∀ u ∈ flatR l, u.oneCell' = true := by
  intro u hu
  obtain ⟨x, _, h⟩ := List.mem_flatMap.1 hu
  simp [Rw.cells] at h
  rcases h with rfl | rfl | rfl | rfl <;> rfl
theorem one_states (l : List St) : ∀ u ∈ flatS l, u.oneCell' = true := by
  intro u hu
  obtain ⟨x, _, h⟩ := List.mem_flatMap.1 hu
  simp [St.cells] at h
  rcases h with rfl | rfl <;> rfl
/-- What stands while the rows are turned. -/
structure TS (w wr : World) (kc : List Value) (gx gy : Nat) (x y : Rw) (gr : Nat) (cs : List Value) : Prop where
  be : Below w.heap.size w wr
  k : Blk wr w.heap.size 25 kc
  bx : Blk wr gx 47 x.cells
  b_y : Blk wr gy 47 y.cells
  br : Blk wr gr 47 cs
  hr : w.heap.size ≤ gr
  nx : gx ≠ gr
  ny : gy ≠ gr
section
variable {w wr w' : World} {kc cs : List Value} {gx gy gr : Nat} {x y : Rw}
theorem TS.set (h : TS w wr kc gx gy x y gr cs) (o : Nat) (p q r s : Value) : TS w ((((wr.setCell ⟨gr, o, none⟩ p).setCell ⟨gr, o + 1, none⟩ q).setCell ⟨gr, o + 2, none⟩ r).setCell ⟨gr, o + 3, none⟩ s) kc gx gy x y gr (sets cs o [p, q, r, s]) := by
  obtain ⟨s1, s2⟩ := set4_at h.br o p q r s
  exact ⟨h.be.trans (s2.below h.be.size (fun k hk => by have := h.hr; omega)), h.k.frm s2 (h.k.ne h.br (by decide)), h.bx.frm s2 h.nx, h.b_y.frm s2 h.ny, s1, h.hr, h.nx, h.ny⟩
theorem TS.below (h : TS w wr kc gx gy x y gr cs) (hb : Below wr.heap.size wr w') : TS w w' kc gx gy x y gr cs :=
  ⟨h.be.trans (hb.mono h.be.size), h.k.below hb h.k.lt, h.bx.below hb h.bx.lt, h.b_y.below hb h.b_y.lt, h.br.below hb h.br.lt, h.hr, h.nx, h.ny⟩
end
set_option maxRecDepth 100000 in
set_option maxHeartbeats 8000000 in
theorem turned_walk (k : Kd) (state row : Int) (tag : ByteArray) (n : Int) (hst : -9223372036854775808 ≤ state ∧ state ≤ 9223372036854775807) (hrow : -9223372036854775808 ≤ row ∧ row ≤ 9223372036854775807) (hn : -9223372036854775808 ≤ n ∧ n ≤ 9223372036854775807) (w : World) (hk : KindIn w w.heap.size k) (hks : k.sts.length * 40 ≤ 140737488355328) :
    Calls Try.prog 6 #[k.val, .int .i64 state, .int .i64 row, .string tag, .int .i64 n] w fun e w' => e = .returned (.bool true) ∧ Below w.heap.size w w' := by
  have HK := Troupe.hid hk
  have HKS := Troupe.hid hks
  clear hk hks
  obtain ⟨kn, kl, kw, Ac, nc, cc, A, cap, sts⟩ := k
  dsimp only [Kd.val] at HK HKS ⊢
  have F0 : Below w.heap.size w (w.alloc (.cells #[.string kn, .int .i64 kl, .int .i64 kw, .slice Ac nc cc, .slice A sts.length cap] 25)) := (Below.refl _ _).alloc (Nat.le_refl _) _
  have K0 : Blk (w.alloc (.cells #[.string kn, .int .i64 kl, .int .i64 kw, .slice Ac nc cc, .slice A sts.length cap] 25)) w.heap.size 25 [.string kn, .int .i64 kl, .int .i64 kw, .slice Ac nc cc, .slice A sts.length cap] := Blk.new _ _ _
  have HF := Troupe.hid F0
  have HK0 := Troupe.hid K0
  clear F0 K0
  go_enter Try.func6, Try.ntmps6
  go_wp2_with fail
  generalize w.alloc (.cells #[.string kn, .int .i64 kl, .int .i64 kw, .slice Ac nc cc, .slice A sts.length cap] 25) = w0 at *
  refine (alive_any w0).mono ?_
  rintro e w1 ⟨rfl, hb⟩
  have B1 := Troupe.hid (HF.out.trans (hb.mono HF.out.size))
  have K1 := Troupe.hid (HK0.out.below hb HK0.out.lt)
  have e1 := K1.out.cell
  have hsz := HK.out.2.2
  dsimp only at hsz
  clear hb HF HK0
  have hback : ∀ w', Below w1.heap.size w1 w' → Below w.heap.size w w' := fun w' h => B1.out.trans (h.mono B1.out.size)
  have HBK := Troupe.hid hback
  clear hback
  by_cases h1 : state < 0
  · go_wp2_with fail
    go_ret
    exact ⟨rfl, B1.out⟩
  obtain ⟨a, rfl⟩ : ∃ a : Nat, state = a := ⟨state.toNat, by omega⟩
  by_cases h2 : a < sts.length
  · by_cases h3 : row < 0
    · go_wp2_with fail
      go_ret
      exact ⟨rfl, B1.out⟩
    obtain ⟨b, rfl⟩ : ∃ b : Nat, row = b := ⟨row.toNat, by omega⟩
    obtain ⟨s, hs⟩ : ∃ s, sts[a]? = some s := ⟨_, List.getElem?_eq_getElem h2⟩
    obtain ⟨hrc, hri, hrl⟩ := HK.out.2.1 s (List.mem_of_getElem? hs)
    obtain ⟨b1, o1, hA1, hb1, hc1⟩ := cells_at (sz := 2) (fun _ => rfl) (by decide) (HK.out.1.below B1.out) hs
    obtain ⟨sn, rows, As, caps⟩ := s
    dsimp only at hrc hri hrl hA1
    subst hA1
    have c0 : w1.cell? ⟨b1, o1 + a * 2, none⟩ = some (.string sn) := hc1 0 (by decide) _ rfl
    have c1 : w1.cell? ⟨b1, o1 + a * 2 + 1, none⟩ = some (.slice As rows.length caps) := hc1 1 (by decide) _ rfl
    have hw : IntKind.i64.wrap ((rows.length : Int) - 1) = (rows.length : Int) - 1 := IntWalk.i64_in _ (by omega)
    have HRC := Troupe.hid hrc
    have HRI := Troupe.hid hri
    have HRL := Troupe.hid hrl
    have HS := Troupe.hid hs
    clear hrc hri hrl hs hc1
    by_cases h4 : (b : Int) < (rows.length : Int) - 1
    · have h4' : ¬ (rows.length : Int) - 1 ≤ (b : Int) := by omega
      obtain ⟨x, hx⟩ : ∃ x, rows[b]? = some x := ⟨_, List.getElem?_eq_getElem (by omega)⟩
      obtain ⟨c, hcb⟩ : ∃ c, c = b + 1 := ⟨_, rfl⟩
      obtain ⟨y, hy⟩ : ∃ y, rows[c]? = some y := ⟨_, List.getElem?_eq_getElem (by omega)⟩
      obtain ⟨b2, o2, hA2, _, _⟩ := cells_at (sz := 4) (fun _ => rfl) (by decide) HRC.out hx
      subst hA2
      have RC1 := Troupe.hid (HRC.out.below B1.out)
      have hrl := HRL.out
      have hbs := B1.out.size
      have hlr : c < rows.length := by omega
      have hlb : b < rows.length := by omega
      go_wp2_with (at_builtin; refine wpList_app rfl (.tmp 43) (.tmp 49) 43 rfl w.heap.size 47 info47 Try.underlying43 rfl (by decide) (.slice none 0 0) 0 [] rfl (World.ownsRow_nil _ _ _ _) _ (some ⟨b2, o2, none⟩) rows.length caps (flatR rows) rfl (by rw [flatR_length]) RC1.out (fun h => by cases h) (one_rows rows) (by omega) (by unfold maxLen; omega) hbs ?_; intro v0 w2 h'; rw [Nat.zero_add, List.nil_append] at h'; obtain ⟨Av', cv', rfl, -⟩ := own_form h'.own; have AP := Troupe.hid h'; clear h')
      rcases own_blk AP.out.own with ⟨-, h0, -, -⟩ | ⟨gr, cs, rfl, hbr, hcl, hgr, hncap, hcm, htk⟩
      · omega
      have hb2 : Below w1.heap.size w1 w2 := AP.out.frm.below (Nat.le_refl _) (fun k hk => by simp [Value.ownBlock] at hk)
      have K2 := Troupe.hid (K1.out.below hb2 K1.out.lt)
      have B2 := Troupe.hid (HBK.out _ hb2)
      have BR := Troupe.hid hbr
      have HTK := Troupe.hid htk
      have HCL := Troupe.hid hcl
      have cat : ∀ (i : Nat) (r : Rw), rows[i]? = some r → ∀ j, j < 4 → ∀ u, r.cells[j]? = some u → ∀ x : World, Below w2.heap.size w2 x → x.cell? ⟨gr, i * 4 + j, none⟩ = some u := by
        intro i r hi j hj u hu x hxb
        have hil := (List.getElem?_eq_some_iff.1 hi).1
        have h1 := flat_at Rw.cells 4 (fun _ => rfl) rows i r hi j hj
        have h2 : cs[i * 4 + j]? = some u := by
          rw [← hu, ← h1]
          have h3 : (cs.take (rows.length * 4))[i * 4 + j]? = (flatR rows)[i * 4 + j]? := by rw [htk]
          rw [List.getElem?_take, if_pos (by omega)] at h3
          exact h3
        rw [(hbr.below hxb hbr.lt).cell]
        exact h2
      have catc : ∀ (i : Nat) (r : Rw), rows[i]? = some r → ∀ j, j < 4 → ∀ u, r.cells[j]? = some u → cs[i * 4 + j]? = some u := fun i r hi j hj u hu => by
        have := cat i r hi j hj u hu w2 (Below.refl _ _)
        rwa [hbr.cell] at this
      have CAT := Troupe.hid catc
      obtain ⟨xt, xo, xn, xe, xA, xcap⟩ := x
      obtain ⟨yt, yo, yn, ye, yA, ycap⟩ := y
      let S0 : World → Prop := fun w' => Below w2.heap.size w2 w'
      have hne : Nonempty (SW S0) := ⟨⟨w2, Below.refl _ _⟩⟩
      have fx0 : ∀ x : SW S0, x.w.cell? ⟨gr, b * 4, none⟩ = some (.string xt) := fun x => cat b _ hx 0 (by decide) _ rfl x.w x.h
      have fx1 : ∀ x : SW S0, x.w.cell? ⟨gr, b * 4 + 1, none⟩ = some (.bool xo) := fun x => cat b _ hx 1 (by decide) _ rfl x.w x.h
      have fx2 : ∀ x : SW S0, x.w.cell? ⟨gr, b * 4 + 2, none⟩ = some (.int .i64 xn) := fun x => cat b _ hx 2 (by decide) _ rfl x.w x.h
      have fx3 : ∀ x : SW S0, x.w.cell? ⟨gr, b * 4 + 3, none⟩ = some (.slice xA xe.length xcap) := fun x => cat b _ hx 3 (by decide) _ rfl x.w x.h
      have fy0 : ∀ x : SW S0, x.w.cell? ⟨gr, c * 4, none⟩ = some (.string yt) := fun x => cat c _ hy 0 (by decide) _ rfl x.w x.h
      have fy1 : ∀ x : SW S0, x.w.cell? ⟨gr, c * 4 + 1, none⟩ = some (.bool yo) := fun x => cat c _ hy 1 (by decide) _ rfl x.w x.h
      have fy2 : ∀ x : SW S0, x.w.cell? ⟨gr, c * 4 + 2, none⟩ = some (.int .i64 yn) := fun x => cat c _ hy 2 (by decide) _ rfl x.w x.h
      have fy3 : ∀ x : SW S0, x.w.cell? ⟨gr, c * 4 + 3, none⟩ = some (.slice yA ye.length ycap) := fun x => cat c _ hy 3 (by decide) _ rfl x.w x.h
      have hwb : IntKind.i64.wrap ((b : Int) + 1) = (c : Int) := by
        have e : ((b : Int) + 1) = (c : Int) := by omega
        rw [e]; exact IntWalk.i64_in _ (by omega)
      have HCB := Troupe.hid hcb
      have HX := Troupe.hid hx
      have HY := Troupe.hid hy
      clear cat catc hbr htk hcl hcb hx hy c0 c1 e1 AP
      refine region_plan (S := Cls S0) (.read 0 (.read 1 (.read 2 (.read 3 (.read 4 (.read 5 (.read 6 (.read 7 (.read 8 (.two 9 (.one 10 (.one 11 .tail)) 10 (.one 9 (.one 11 .tail)))))))))))) 12 (by kernel_rfl) (by kernel_rfl) (fun _ _ d _ _ h => by cases d <;> exact h) ?_
      intro w6 hh o1' o2' o3'
      have F6 : Below w2.heap.size w2 w6 := (Frm.of_heap (S := fun _ => False) hh o1' o2' o3').below (Nat.le_refl _) (fun _ h => h.elim)
      clear hh o1' o2' o3'
      refine ⟨Cls.of F6, ?_⟩
      repeat (refine wpPlan_read rfl (fun K hK => ?_); go_simp; refine hK _ ?_; clear hK K)
      clear fx0 fx1 fx2 fx3 fy0 fy1 fy2 fy3
      have hg2 := F6.size
      have HG2 := Troupe.hid hg2
      have HC6 := Troupe.hid F6
      have F9 : Below w2.heap.size w2 ((w6.alloc (.cells #[.string ⟨#[]⟩, .bool false, .int .i64 0, .slice none 0 0] 47)).alloc (.cells #[.string ⟨#[]⟩, .bool false, .int .i64 0, .slice none 0 0] 47)) := (F6.alloc F6.size _).alloc (by simp; omega) _
      have b0 : Blk ((w6.alloc (.cells #[.string ⟨#[]⟩, .bool false, .int .i64 0, .slice none 0 0] 47)).alloc (.cells #[.string ⟨#[]⟩, .bool false, .int .i64 0, .slice none 0 0] 47)) w6.heap.size 47 [.string ⟨#[]⟩, .bool false, .int .i64 0, .slice none 0 0] := (Blk.new w6 47 _).alloc _
      have b1' : Blk ((w6.alloc (.cells #[.string ⟨#[]⟩, .bool false, .int .i64 0, .slice none 0 0] 47)).alloc (.cells #[.string ⟨#[]⟩, .bool false, .int .i64 0, .slice none 0 0] 47)) (w6.heap.size + 1) 47 [.string ⟨#[]⟩, .bool false, .int .i64 0, .slice none 0 0] := by simpa using Blk.new (w6.alloc (.cells #[.string ⟨#[]⟩, .bool false, .int .i64 0, .slice none 0 0] 47)) 47 [.string ⟨#[]⟩, .bool false, .int .i64 0, .slice none 0 0]
      have HF9 := Troupe.hid F9
      have HB0 := Troupe.hid b0
      have HB1' := Troupe.hid b1'
      have HFa := Troupe.hid (F6.alloc F6.size (.cells #[.string ⟨#[]⟩, .bool false, .int .i64 0, .slice none 0 0] 47))
      have hgr2 : gr < w6.heap.size := by have := BR.out.lt; omega
      clear F6 F9 b0 b1' hg2
      refine wpPlan_two rfl rfl ?_ ?_
      go_wp2_with fail
      refine ⟨Cls.of HFa.out, ?_⟩
      refine wpPlan_one rfl ?_
      go_wp2_with fail
      refine ⟨Cls.of HF9.out, ?_⟩
      generalize (w6.alloc (.cells #[.string ⟨#[]⟩, .bool false, .int .i64 0, .slice none 0 0] 47)).alloc (.cells #[.string ⟨#[]⟩, .bool false, .int .i64 0, .slice none 0 0] 47) = w9 at *
      have hxy : w6.heap.size ≠ w6.heap.size + 1 := by omega
      have hgx : w2.heap.size ≤ w6.heap.size ∧ gr < w6.heap.size := ⟨HG2.out, hgr2⟩
      have hgy : w2.heap.size ≤ w6.heap.size + 1 ∧ gr < w6.heap.size + 1 := ⟨by have := HG2.out; omega, by omega⟩
      have HBX := HB0
      have HBY := HB1'
      clear HFa HB0 HB1' HG2 hgr2
      generalize w6.heap.size + 1 = gy at *
      generalize w6.heap.size = gx at *
      rotate_left
      go_wp2_with fail
      refine ⟨Cls.of HFa.out, ?_⟩
      refine wpPlan_one rfl ?_
      go_wp2_with fail
      refine ⟨Cls.of HF9.out, ?_⟩
      generalize (w6.alloc (.cells #[.string ⟨#[]⟩, .bool false, .int .i64 0, .slice none 0 0] 47)).alloc (.cells #[.string ⟨#[]⟩, .bool false, .int .i64 0, .slice none 0 0] 47) = w9 at *
      have hxy : w6.heap.size + 1 ≠ w6.heap.size := by omega
      have hgy : w2.heap.size ≤ w6.heap.size ∧ gr < w6.heap.size := ⟨HG2.out, hgr2⟩
      have hgx : w2.heap.size ≤ w6.heap.size + 1 ∧ gr < w6.heap.size + 1 := ⟨by have := HG2.out; omega, by omega⟩
      have HBY := HB0
      have HBX := HB1'
      clear HFa HB0 HB1' HG2 hgr2
      generalize w6.heap.size + 1 = gx at *
      generalize w6.heap.size = gy at *
      all_goals
        have frx := HBX.out.frozen
        have clx := HBX.out.cell
        obtain ⟨bx, fx⟩ := set4 HBX.out (.string xt) (.bool xo) (.int .i64 xn) (.slice xA xe.length xcap)
        have by1 := HBY.out.frm fx (fun e => hxy e.symm)
        have F10 : Below w2.heap.size w2 ((((w9.setCell ⟨gx, 0, none⟩ (.string xt)).setCell ⟨gx, 1, none⟩ (.bool xo)).setCell ⟨gx, 2, none⟩ (.int .i64 xn)).setCell ⟨gx, 3, none⟩ (.slice xA xe.length xcap)) := HF9.out.trans (fx.below HF9.out.size (fun k hk => by omega))
        have BX := Troupe.hid bx
        have BY1 := Troupe.hid by1
        have HF10 := Troupe.hid F10
        clear bx by1 fx F10
        refine wpPlan_one rfl ?_
        go_wp2_with fail
        refine ⟨Cls.of HF10.out, ?_⟩
        clear HBX HBY HF9 frx clx
        generalize (((w9.setCell ⟨gx, 0, none⟩ (.string xt)).setCell ⟨gx, 1, none⟩ (.bool xo)).setCell ⟨gx, 2, none⟩ (.int .i64 xn)).setCell ⟨gx, 3, none⟩ (.slice xA xe.length xcap) = w10 at *
        have fry := BY1.out.frozen
        have cly := BY1.out.cell
        obtain ⟨by2, fy⟩ := set4 BY1.out (.string yt) (.bool yo) (.int .i64 yn) (.slice yA ye.length ycap)
        have bx2 := BX.out.frm fy hxy
        have F11 : Below w2.heap.size w2 ((((w10.setCell ⟨gy, 0, none⟩ (.string yt)).setCell ⟨gy, 1, none⟩ (.bool yo)).setCell ⟨gy, 2, none⟩ (.int .i64 yn)).setCell ⟨gy, 3, none⟩ (.slice yA ye.length ycap)) := HF10.out.trans (fy.below HF10.out.size (fun k hk => by omega))
        have T11 : TS w ((((w10.setCell ⟨gy, 0, none⟩ (.string yt)).setCell ⟨gy, 1, none⟩ (.bool yo)).setCell ⟨gy, 2, none⟩ (.int .i64 yn)).setCell ⟨gy, 3, none⟩ (.slice yA ye.length ycap)) [.string kn, .int .i64 kl, .int .i64 kw, .slice Ac nc cc, .slice (some ⟨b1, o1, none⟩) sts.length cap] gx gy ⟨xt, xo, xn, xe, xA, xcap⟩ ⟨yt, yo, yn, ye, yA, ycap⟩ gr cs :=
          ⟨B2.out.trans (F11.mono B2.out.size), K2.out.below F11 K2.out.lt, bx2, by2, BR.out.below F11 BR.out.lt, hgr, by omega, by omega⟩
        have HT := Troupe.hid T11
        have HF11 := Troupe.hid F11
        clear BX BY1 by2 bx2 fy F11 T11 HF10 hne
        refine wpPlan_tail ?_
        simp only [List.drop_succ_cons, List.drop_zero]
        go_step
        go_step
        generalize (((w10.setCell ⟨gy, 0, none⟩ (.string yt)).setCell ⟨gy, 1, none⟩ (.bool yo)).setCell ⟨gy, 2, none⟩ (.int .i64 yn)).setCell ⟨gy, 3, none⟩ (.slice yA ye.length ycap) = w11 at *
        have ex := HT.out.bx.cell
        have ey := HT.out.b_y.cell
        dsimp only [Rw.cells] at ex ey
        go_step
        go_step
        go_step
        go_step
        go_step
        go_cut [] from 60 to 91 (fun w' => w' = w11 ∧ ¬ (fitsV tag n ⟨xt, xo, xn, xe, xA, xcap⟩ = true ∧ fitsV tag n ⟨yt, yo, yn, ye, yA, ycap⟩ = true))
        case first =>
          cases hbx : (xt.toList == []) with
          | true =>
            go_wp2_with fail
            go_ret
            exact ⟨rfl, HT.out.be⟩
          | false =>
          cases hby : (yt.toList == []) with
          | true =>
            go_wp2_with fail
            go_ret
            exact ⟨rfl, HT.out.be⟩
          | false =>
          cases hbxy : (xt.toList == yt.toList) with
          | false =>
            have hnf : ¬ (fitsV tag n ⟨xt, xo, xn, xe, xA, xcap⟩ = true ∧ fitsV tag n ⟨yt, yo, yn, ye, yA, ycap⟩ = true) := by
              unfold fitsV
              rintro ⟨p, q⟩
              dsimp only at p q
              rw [hbx, Bool.false_or, Bool.and_eq_true] at p
              rw [hby, Bool.false_or, Bool.and_eq_true] at q
              rw [eq_of_beq p.1, eq_of_beq q.1] at hbxy
              simp at hbxy
            have HNF := Troupe.hid hnf
            clear hnf
            go_wp2_with fail
            go_meet
            case rel => exact ⟨rfl, HNF.out⟩
          | true =>
          cases xo with
          | false =>
            go_wp2_with fail
            go_ret
            exact ⟨rfl, HT.out.be⟩
          | true =>
          cases yo with
          | false =>
            go_wp2_with fail
            go_ret
            exact ⟨rfl, HT.out.be⟩
          | true =>
          cases hbn : (xn == yn) with
          | true =>
            go_wp2_with fail
            go_ret
            exact ⟨rfl, HT.out.be⟩
          | false =>
            have hnf : ¬ (fitsV tag n ⟨xt, true, xn, xe, xA, xcap⟩ = true ∧ fitsV tag n ⟨yt, true, yn, ye, yA, ycap⟩ = true) := by
              unfold fitsV
              rintro ⟨p, q⟩
              dsimp only at p q
              rw [hbx, Bool.false_or, Bool.and_eq_true] at p
              rw [hby, Bool.false_or, Bool.and_eq_true] at q
              have p2 : xn = n := by simpa using p.2
              have q2 : yn = n := by simpa using q.2
              rw [p2, q2] at hbn
              simp at hbn
            have HNF := Troupe.hid hnf
            clear hnf
            go_wp2_with fail
            go_meet
            case rel => exact ⟨rfl, HNF.out⟩
        case rest =>
        obtain ⟨hw11, hnf⟩ := hcut
        obtain ⟨w11', rfl⟩ : ∃ w11' : World, w11' = wc := ⟨_, rfl⟩
        subst hw11
        have HNF := Troupe.hid hnf
        clear hnf
        have gb0 := (HT.out.br.cell (b * 4)).trans (CAT.out b _ HX.out 0 (by decide) _ rfl)
        have gb1 := (HT.out.br.cell (b * 4 + 1)).trans (CAT.out b _ HX.out 1 (by decide) _ rfl)
        have gb2 := (HT.out.br.cell (b * 4 + 2)).trans (CAT.out b _ HX.out 2 (by decide) _ rfl)
        have gb3 := (HT.out.br.cell (b * 4 + 3)).trans (CAT.out b _ HX.out 3 (by decide) _ rfl)
        have frr := HT.out.br.frozen
        go_step
        go_step
        go_cut [] from 92 to 95 (fun w' => TS w w' [.string kn, .int .i64 kl, .int .i64 kw, .slice Ac nc cc, .slice (some ⟨b1, o1, none⟩) sts.length cap] gx gy ⟨xt, xo, xn, xe, xA, xcap⟩ ⟨yt, yo, yn, ye, yA, ycap⟩ gr (sets cs (b * 4) [.string yt, .bool yo, .int .i64 yn, .slice yA ye.length ycap]))
        case first =>
          go_wp2_with fail
          go_meet
          case rel => exact HT.out.set (b * 4) _ _ _ _
        case rest =>
        obtain ⟨w12, rfl⟩ : ∃ w12 : World, w12 = wc := ⟨_, rfl⟩
        have HT2 := Troupe.hid hcut
        clear hcut gb0 gb1 gb2 gb3 ex ey frr HT
        have ex := HT2.out.bx.cell
        dsimp only [Rw.cells] at ex
        have hcl4 : cs.length = cv' * 4 := HCL.out
        have hc4 : c = b + 1 := HCB.out
        have hgc : ∀ j, j < 4 → ∀ u, (Rw.cells ⟨yt, yo, yn, ye, yA, ycap⟩)[j]? = some u → (sets cs (b * 4) [.string yt, .bool yo, .int .i64 yn, .slice yA ye.length ycap])[c * 4 + j]? = some u := by
          intro j hj u hu
          rw [sets_get _ _ _ _ (by simp only [List.length_cons, List.length_nil]; omega), if_neg (by simp only [List.length_cons, List.length_nil]; omega)]
          exact CAT.out c _ HY.out j hj _ hu
        have gb0 := (HT2.out.br.cell (c * 4)).trans (hgc 0 (by decide) _ rfl)
        have gb1 := (HT2.out.br.cell (c * 4 + 1)).trans (hgc 1 (by decide) _ rfl)
        have gb2 := (HT2.out.br.cell (c * 4 + 2)).trans (hgc 2 (by decide) _ rfl)
        have gb3 := (HT2.out.br.cell (c * 4 + 3)).trans (hgc 3 (by decide) _ rfl)
        have frr := HT2.out.br.frozen
        clear hgc
        have htk2 : (sets (sets cs (b * 4) [.string yt, .bool yo, .int .i64 yn, .slice yA ye.length ycap]) (c * 4) [.string xt, .bool xo, .int .i64 xn, .slice xA xe.length xcap]).take (rows.length * 4) = flatR ((rows.set b ⟨yt, yo, yn, ye, yA, ycap⟩).set c ⟨xt, xo, xn, xe, xA, xcap⟩) := by
          have h1 := flat_sets Rw.cells 4 (by decide) (fun _ => rfl) rows b ⟨yt, yo, yn, ye, yA, ycap⟩ hlb cs HTK.out (by rw [hcl4]; omega)
          have h2 := flat_sets Rw.cells 4 (by decide) (fun _ => rfl) (rows.set b ⟨yt, yo, yn, ye, yA, ycap⟩) c ⟨xt, xo, xn, xe, xA, xcap⟩ (by rw [List.length_set]; exact hlr) (sets cs (b * 4) [.string yt, .bool yo, .int .i64 yn, .slice yA ye.length ycap]) (by rw [List.length_set]; exact h1) (by rw [List.length_set, sets_len, hcl4]; omega)
          rw [List.length_set] at h2
          exact h2
        have HTK2 := Troupe.hid htk2
        have hcl2 : (sets (sets cs (b * 4) [.string yt, .bool yo, .int .i64 yn, .slice yA ye.length ycap]) (c * 4) [.string xt, .bool xo, .int .i64 xn, .slice xA xe.length xcap]).length = cv' * 4 := by rw [sets_len, sets_len]; exact hcl4
        have HCL2 := Troupe.hid hcl2
        have HC4 := Troupe.hid hc4
        clear htk2 hcl2 hcl4 hc4
        go_step
        go_step
        go_cut [] from 96 to 100 (fun w' => TS w w' [.string kn, .int .i64 kl, .int .i64 kw, .slice Ac nc cc, .slice (some ⟨b1, o1, none⟩) sts.length cap] gx gy ⟨xt, xo, xn, xe, xA, xcap⟩ ⟨yt, yo, yn, ye, yA, ycap⟩ gr (sets (sets cs (b * 4) [.string yt, .bool yo, .int .i64 yn, .slice yA ye.length ycap]) (c * 4) [.string xt, .bool xo, .int .i64 xn, .slice xA xe.length xcap]))
        case first =>
          go_wp2_with fail
          go_meet
          case rel => exact HT2.out.set (c * 4) _ _ _ _
        case rest =>
        obtain ⟨w13, rfl⟩ : ∃ w13 : World, w13 = wc := ⟨_, rfl⟩
        have HT3 := Troupe.hid hcut
        clear hcut gb0 gb1 gb2 gb3 ex frr HT2
        generalize (sets (sets cs (b * 4) [.string yt, .bool yo, .int .i64 yn, .slice yA ye.length ycap]) (c * 4) [.string xt, .bool xo, .int .i64 xn, .slice xA xe.length xcap]) = cs2 at *
        have ek := HT3.out.k.cell
        have hz3 := HT3.out.be.size
        go_step
        go_step
        go_cut [14] from 101 to 103 (fun v14 w' => ∃ gt, v14 = .pointer (some ⟨gt, 0, none⟩) ∧ TS w w' [.string kn, .int .i64 kl, .int .i64 kw, .slice Ac nc cc, .slice (some ⟨b1, o1, none⟩) sts.length cap] gx gy ⟨xt, xo, xn, xe, xA, xcap⟩ ⟨yt, yo, yn, ye, yA, ycap⟩ gr cs2 ∧ Blk w' gt 25 [.string kn, .int .i64 0, .int .i64 0, .slice none 0 0, .slice none 0 0] ∧ w.heap.size < gt)
        case first =>
          go_wp2_with fail
          go_meet
          case rel => exact ⟨_, rfl, HT3.out.below ((Below.refl _ _).alloc (Nat.le_refl _) _), Blk.new _ _ _, HT3.out.k.lt⟩
        case rest =>
        obtain ⟨gt, rfl, hT, hB, hgt⟩ := hcut
        obtain ⟨w14, rfl⟩ : ∃ w14 : World, w14 = wc := ⟨_, rfl⟩
        have HT4 := Troupe.hid hT
        have HBT := Troupe.hid hB
        clear hT hB ek HT3 hz3
        have ek := HT4.out.k.cell
        have et := HBT.out.cell
        have ft := HBT.out.frozen
        have hz4 := HT4.out.be.size
        have hkg : ¬ w.heap.size = gt := by omega
        have HSC := Troupe.hid (HK.out.1.below HT4.out.be)
        have hks := HKS.out
        go_step
        go_step
        go_cut [] from 104 to 109 (fun w' => ∃ (gs : Nat) (c' : Nat) (ss : List Value), TS w w' [.string kn, .int .i64 kl, .int .i64 kw, .slice Ac nc cc, .slice (some ⟨b1, o1, none⟩) sts.length cap] gx gy ⟨xt, xo, xn, xe, xA, xcap⟩ ⟨yt, yo, yn, ye, yA, ycap⟩ gr cs2 ∧ Blk w' gt 25 [.string kn, .int .i64 0, .int .i64 0, .slice none 0 0, .slice (some ⟨gs, 0, none⟩) sts.length c'] ∧ Blk w' gs 45 ss ∧ ss.take (sts.length * 2) = flatS sts ∧ ss.length = c' * 2 ∧ sts.length ≤ c' ∧ w.heap.size ≤ gs)
        case first =>
          go_wp2_with (at_builtin; refine wpList_app rfl (.tmp 105) (.tmp 107) 23 rfl w.heap.size 45 info45 Try.underlying23 rfl (by decide) (.slice none 0 0) 0 [] rfl (World.ownsRow_nil _ _ _ _) _ (some ⟨b1, o1, none⟩) sts.length cap (flatS sts) rfl (by rw [flatS_length]) HSC.out (fun h => by cases h) (one_states sts) (by omega) (by unfold maxLen; omega) hz4 ?_; intro v0 w8 h'; rw [Nat.zero_add, List.nil_append] at h'; obtain ⟨Av', cw, rfl, -⟩ := own_form h'.own; have hb8 : Below w14.heap.size w14 w8 := h'.frm.below (Nat.le_refl _) (fun k hk => by simp [Value.ownBlock] at hk); have AP := Troupe.hid h'; have HB8 := Troupe.hid hb8; have et8 := (HBT.out.below hb8 HBT.out.lt).cell; have ft8 := (HBT.out.below hb8 HBT.out.lt).frozen; clear h' hb8)
          go_meet
          case rel =>
            rcases own_blk AP.out.own with ⟨-, h0, -, -⟩ | ⟨gs, ss, rfl, hbs, hsl, hgs, hncs, -, htks⟩
            · omega
            · have T8 := HT4.out.below HB8.out
              have bt := HBT.out.below HB8.out HBT.out.lt
              have ngs : gs ≠ gt := hbs.ne bt (by decide)
              have FS : Frm (fun k => k = gt) w8 (w8.setCell ⟨gt, 4, none⟩ (.slice (some ⟨gs, 0, none⟩) sts.length cw)) := Frm.one w8 ⟨gt, 4, none⟩ _
              exact ⟨gs, cw, ss, ⟨T8.be.trans (FS.below T8.be.size (fun k hk => by omega)), T8.k.frm FS hkg, T8.bx.frm FS (T8.bx.ne bt (by decide)), T8.b_y.frm FS (T8.b_y.ne bt (by decide)), T8.br.frm FS (T8.br.ne bt (by decide)), T8.hr, T8.nx, T8.ny⟩, bt.set_ 4 _, hbs.frm FS ngs, htks, hsl, hncs, hgs⟩
        case rest =>
        obtain ⟨gs, c', ss, hT, hB, hbs, htks, hsl, hncs, hgs⟩ := hcut
        obtain ⟨w15, rfl⟩ : ∃ w15 : World, w15 = wc := ⟨_, rfl⟩
        have HT5 := Troupe.hid hT
        have HBT5 := Troupe.hid hB
        have HBS := Troupe.hid hbs
        have HTKS := Troupe.hid htks
        clear hT hB hbs htks ek et ft HT4 HBT HSC hz4
        let S1 : World → Prop := fun w' => Below w15.heap.size w15 w'
        have hne : Nonempty (SW S1) := ⟨⟨w15, Below.refl _ _⟩⟩
        have hz5 := HT5.out.be.size
        have ft : ∀ (x : SW S1) (i : Nat), x.w.cell? ⟨gt, i, none⟩ = [Value.string kn, .int .i64 0, .int .i64 0, .slice none 0 0, .slice (some ⟨gs, 0, none⟩) sts.length c'][i]? := fun x i => (HBT5.out.below x.h HBT5.out.lt).cell i
        have fk : ∀ (x : SW S1) (i : Nat), x.w.cell? ⟨w.heap.size, i, none⟩ = [Value.string kn, .int .i64 kl, .int .i64 kw, .slice Ac nc cc, .slice (some ⟨b1, o1, none⟩) sts.length cap][i]? := fun x i => (HT5.out.k.below x.h HT5.out.k.lt).cell i
        have fs : ∀ x : SW S1, x.w.cell? ⟨b1, o1 + a * 2, none⟩ = some (.string sn) := by
          intro x
          obtain ⟨b', o', hA', _, hc'⟩ := cells_at (sz := 2) (fun _ => rfl) (by decide) ((HK.out.1.below HT5.out.be).below (x.h.mono hz5)) HS.out
          simp only [Option.some.injEq, Addr.mk.injEq, and_true] at hA'
          obtain ⟨rfl, rfl⟩ := hA'
          exact hc' 0 (by decide) _ rfl
        have gold : ∀ j, j < 2 → ∀ u, (St.cells ⟨sn, rows, some ⟨b2, o2, none⟩, caps⟩)[j]? = some u → ss[a * 2 + j]? = some u := by
          intro j hj u hu
          have h1 := flat_at St.cells 2 (fun _ => rfl) sts a _ HS.out j hj
          have h3 : (ss.take (sts.length * 2))[a * 2 + j]? = (flatS sts)[a * 2 + j]? := by rw [HTKS.out]
          rw [List.getElem?_take, if_pos (by omega)] at h3
          rw [h3, ← hu]; exact h1
        go_step
        go_step
        refine region_plan (S := Cls S1) (.read 0 (.read 1 (.read 2 (.read 3 (.read 4 (.read 5 (.read 6 (.read 7 (.read 8 (.read 9 (.one 10 .tail))))))))))) 11 (by kernel_rfl) (by kernel_rfl) (fun _ _ d _ _ h => by cases d <;> exact h) ?_
        intro w16 hh o1' o2' o3'
        have F16 : Below w15.heap.size w15 w16 := (Frm.of_heap (S := fun _ => False) hh o1' o2' o3').below (Nat.le_refl _) (fun _ h => h.elim)
        clear hh o1' o2' o3'
        refine ⟨Cls.of F16, ?_⟩
        repeat (refine wpPlan_read rfl (fun K hK => ?_); go_simp; refine hK _ ?_; clear hK K)
        refine wpPlan_one rfl ?_
        go_wp2_with fail
        refine ⟨Cls.of F16, ?_⟩
        clear ft fk fs hne
        have T16 := HT5.out.below F16
        have bs16 := HBS.out.below F16 HBS.out.lt
        have bt16 := HBT5.out.below F16 HBT5.out.lt
        have g0 := (bs16.cell (a * 2)).trans (gold 0 (by decide) _ rfl)
        have g1 := (bs16.cell (a * 2 + 1)).trans (gold 1 (by decide) _ rfl)
        have fg := bs16.frozen
        obtain ⟨q1, q2⟩ := set2_at bs16 (a * 2) (.string sn) (.slice (some ⟨gr, 0, none⟩) rows.length cv')
        have T17 : TS w ((w16.setCell ⟨gs, a * 2, none⟩ (.string sn)).setCell ⟨gs, a * 2 + 1, none⟩ (.slice (some ⟨gr, 0, none⟩) rows.length cv')) [.string kn, .int .i64 kl, .int .i64 kw, .slice Ac nc cc, .slice (some ⟨b1, o1, none⟩) sts.length cap] gx gy ⟨xt, xo, xn, xe, xA, xcap⟩ ⟨yt, yo, yn, ye, yA, ycap⟩ gr cs2 :=
          ⟨T16.be.trans (q2.below T16.be.size (fun k hk => by omega)), T16.k.frm q2 (T16.k.ne bs16 (by decide)), T16.bx.frm q2 (T16.bx.ne bs16 (by decide)), T16.b_y.frm q2 (T16.b_y.ne bs16 (by decide)), T16.br.frm q2 (T16.br.ne bs16 (by decide)), T16.hr, T16.nx, T16.ny⟩
        have HB17 := Troupe.hid (bt16.frm q2 (bt16.ne bs16 (by decide)))
        have HQ1 := Troupe.hid q1
        have HT17 := Troupe.hid T17
        clear F16 T16 bs16 bt16 q1 q2 T17 gold HT5 HBT5 HBS
        refine wpPlan_tail ?_
        simp only [List.drop_succ_cons, List.drop_zero]
        go_upto_block 0 with (fail)
        clear g0 g1 fg
        generalize (w16.setCell ⟨gs, a * 2, none⟩ (.string sn)).setCell ⟨gs, a * 2 + 1, none⟩ (.slice (some ⟨gr, 0, none⟩) rows.length cv') = w17 at *
        obtain ⟨rows2, hr2⟩ : ∃ r2, r2 = ((rows.set b ⟨yt, yo, yn, ye, yA, ycap⟩).set c ⟨xt, xo, xn, xe, xA, xcap⟩) := ⟨_, rfl⟩
        have HR2 := Troupe.hid hr2
        clear hr2
        have htk : cs2.take (rows.length * 4) = flatR rows2 := by rw [HR2.out]; exact HTK2.out
        have hlen2 : rows2.length = rows.length := by rw [HR2.out]; simp
        have hks2 : KindIn w17 w17.heap.size ⟨kn, 0, 0, none, 0, 0, some ⟨gs, 0, none⟩, c', sts.set a ⟨sn, rows2, some ⟨gr, 0, none⟩, cv'⟩⟩ := by
          refine ⟨?_, fun s hs => ?_, by dsimp only; rw [List.length_set]; exact hsz⟩
          · have h1 := flat_sets St.cells 2 (by decide) (fun _ => rfl) sts a ⟨sn, rows2, some ⟨gr, 0, none⟩, cv'⟩ h2 ss HTKS.out (by omega)
            have h3 := Cells.blk (n := sts.length * 2) HQ1.out HQ1.out.lt
            unfold flatS
            rw [← h1]
            unfold St.cells
            dsimp only
            rw [hlen2]
            exact h3
          · rcases List.mem_or_eq_of_mem_set hs with hm | rfl
            · have hk' := (HK.out.2.1.below HT17.out.be).mono HT17.out.be.size
              exact hk' s hm
            · refine ⟨?_, fun r hr => ?_, by dsimp only; rw [hlen2]; exact hrl⟩
              · have h3 := Cells.blk (n := rows.length * 4) HT17.out.br HT17.out.br.lt
                rw [htk] at h3
                exact h3
              · have hrm : r ∈ rows := by
                  have hr' : r ∈ ((rows.set b ⟨yt, yo, yn, ye, yA, ycap⟩).set c ⟨xt, xo, xn, xe, xA, xcap⟩) := by rw [← HR2.out]; exact hr
                  rcases List.mem_or_eq_of_mem_set hr' with h | rfl
                  · rcases List.mem_or_eq_of_mem_set h with h | rfl
                    · exact h
                    · exact List.mem_of_getElem? HY.out
                  · exact List.mem_of_getElem? HX.out
                exact ((HRI.out.below HT17.out.be).mono HT17.out.be.size) r hrm
        have hplan : ∀ st, planV (sts.set a ⟨sn, rows2, some ⟨gr, 0, none⟩, cv'⟩) st tag n = planV sts st tag n := by
          intro st
          refine planV_set sts a _ _ st tag n HS.out rfl ?_
          dsimp only
          rw [HR2.out]
          have hc4 := HC4.out
          subst hc4
          exact find_swap (fitsV tag n) rows b _ _ HX.out HY.out HNF.out
        have hkold := (HK.out.below HT17.out.be).mono HT17.out.be.size
        have HKT := Troupe.hid hks2
        have HPL := Troupe.hid hplan
        have HKO := Troupe.hid hkold
        clear hks2 hplan hkold htk
        clear HTK2 HCL2 HTK HCL HX HY HNF HR2 HC4 HCB CAT RC1 HRC HRI HQ1 HTKS
        go_step
        go_loopw [15] (fun v15 wr => ∃ i : Nat, v15 = .int .i64 i ∧ i ≤ sts.length ∧ Below w17.heap.size w17 wr) (fun v15 _ => sts.length - (intOf v15).toNat)
        case atStart => exact ⟨0, rfl, Nat.zero_le _, Below.refl _ _⟩
        case round =>
          obtain ⟨i, rfl, hi, hb⟩ := hrel
          have HB := Troupe.hid hb
          have e1 := (HT17.out.k.below hb HT17.out.k.lt).cell
          clear hb
          by_cases hlt : i < sts.length
          · obtain ⟨si, hsi⟩ : ∃ si, sts[i]? = some si := ⟨_, List.getElem?_eq_getElem hlt⟩
            have hi3 : i < 9223372036854775807 := by omega
            obtain ⟨P, hP⟩ : ∃ P, planV sts si.name tag n = P := ⟨_, rfl⟩
            have HPP := Troupe.hid hP
            let S2 : World → Prop := fun w' => Below w17.heap.size w17 w'
            have hne : Nonempty (SW S2) := ⟨⟨w17, Below.refl _ _⟩⟩
            have ft : ∀ (x : SW S2) (i : Nat), x.w.cell? ⟨gt, i, none⟩ = [Value.string kn, .int .i64 0, .int .i64 0, .slice none 0 0, .slice (some ⟨gs, 0, none⟩) sts.length c'][i]? := fun x i => (HB17.out.below x.h HB17.out.lt).cell i
            have fk : ∀ (x : SW S2) (i : Nat), x.w.cell? ⟨w.heap.size, i, none⟩ = [Value.string kn, .int .i64 kl, .int .i64 kw, .slice Ac nc cc, .slice (some ⟨b1, o1, none⟩) sts.length cap][i]? := fun x i => (HT17.out.k.below x.h HT17.out.k.lt).cell i
            have fs : ∀ x : SW S2, x.w.cell? ⟨b1, o1 + i * 2, none⟩ = some (.string si.name) := by
              intro x
              obtain ⟨b', o', hA', _, hc'⟩ := cells_at (sz := 2) (fun _ => rfl) (by decide) (HKO.out.1.below x.h) hsi
              simp only [Option.some.injEq, Addr.mk.injEq, and_true] at hA'
              obtain ⟨rfl, rfl⟩ := hA'
              exact hc' 0 (by decide) _ rfl
            clear hsi hP
            generalize si.name = nm at *
            go_wp2_with fail
            refine region_plan (S := Cls S2) (.read 0 (.read 1 (.read 2 (.read 3 (.read 4 (.read 5 (.read 6 (.read 7 (.read 8 (.read 10 (.read 11 (.read 12 (.read 13 (.read 14 (.read 15 (.read 16 (.read 17 (.read 18 (.one 9 .tail))))))))))))))))))) 19 (by kernel_rfl) (by kernel_rfl) (fun _ _ d _ _ h => by cases d <;> exact h) ?_
            intro w18 hh o1' o2' o3'
            have F18 : Below w17.heap.size w17 w18 := HB.out.trans ((Frm.of_heap (S := fun _ => False) hh o1' o2' o3').below HB.out.size (fun _ h => h.elim))
            clear hh o1' o2' o3'
            refine ⟨Cls.of F18, ?_⟩
            repeat (refine wpPlan_read rfl (fun K hK => ?_); go_simp; refine hK _ ?_; clear hK K)
            clear ft fk fs hne
            have DO := Troupe.hid (do_any ⟨kn, kl, kw, Ac, nc, cc, some ⟨b1, o1, none⟩, cap, sts⟩ nm tag n hn w18 ((HKO.out.below F18).mono F18.size))
            dsimp only [Kd.val] at DO
            rw [HPP.out] at DO
            have HF18 := Troupe.hid F18
            clear F18 e1
            refine wpPlan_one rfl ?_
            go_wp2_with fail
            refine DO.out.mono ?_
            rintro e w19 ⟨v1, rfl, ho1, hb⟩
            have F19 := HF18.out.trans (hb.mono HF18.out.size)
            have DO2 := Troupe.hid (do_any ⟨kn, 0, 0, none, 0, 0, some ⟨gs, 0, none⟩, c', sts.set a ⟨sn, rows2, some ⟨gr, 0, none⟩, cv'⟩⟩ nm tag n hn w19 ((HKT.out.below F19).mono F19.size))
            dsimp only [Kd.val] at DO2
            rw [HPL.out nm, HPP.out, List.length_set] at DO2
            have HO1 := Troupe.hid ho1
            have HF19 := Troupe.hid F19
            clear hb F19 ho1 DO
            dsimp only [Pl.val] at *
            go_wp2_with fail
            refine ⟨Cls.of HF19.out, ?_⟩
            refine wpPlan_tail ?_
            simp only [List.drop_succ_cons, List.drop_zero]
            go_wp2_with fail
            refine DO2.out.mono ?_
            rintro e w20 ⟨v2, rfl, ho2, hb⟩
            have F20 := HF19.out.trans (hb.mono HF19.out.size)
            have ho1 := own_below HO1.out hb
            obtain ⟨A1, c1, rfl, hl1, hm1, hc1, -, -⟩ := own_form ho1
            obtain ⟨A2, c2, rfl, -, -, hc2, -, -⟩ := own_form ho2
            have SM := Troupe.hid (same_eq P A1 A2 c1 c2 w20 hc1 hc2 (by unfold maxLen at hm1; omega))
            have HF20 := Troupe.hid F20
            clear hb F20 ho1 ho2 hc1 hc2 DO2 HO1 hl1 hm1
            dsimp only [Pl.val] at SM ⊢
            go_wp2_with fail
            refine SM.out.mono ?_
            rintro e w21 ⟨rfl, hb⟩
            have HF21 := Troupe.hid (HF20.out.trans (hb.mono HF20.out.size))
            clear hb
            go_wp2_with fail
            go_roundw
            case rel => exact ⟨i + 1, by go_num, by omega, HF21.out⟩
            case measure => simp [intOf]; omega
          · have hil : i = sts.length := by omega
            subst hil
            go_wp2_with fail
            go_ret
            exact ⟨rfl, HT17.out.be.trans (HB.out.mono HT17.out.be.size)⟩
    · have h4' : (rows.length : Int) - 1 ≤ (b : Int) := by omega
      go_wp2_with fail
      go_ret
      exact ⟨rfl, B1.out⟩
  · go_wp2_with fail
    go_ret
    exact ⟨rfl, B1.out⟩
end Go.Proofs.Ytfeeajodgcdflaa
