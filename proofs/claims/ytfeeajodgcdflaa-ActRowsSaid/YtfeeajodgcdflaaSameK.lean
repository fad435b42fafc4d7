/- trouperef13's Same, where the programs are the same, by contracts. -/
import Derived.Test.YtfeeajodgcdflaaFind
namespace Go.Proofs.Ytfeeajodgcdflaa
open Go.RowKit Go.Maps Go.Troupe
attribute [local go_sem] reads readAt readUpon Cls

/-- Two boxes of rows that are the same. -/
structure TwoR (w wr : World) (gx gy : Nat) (x y : Rw) : Prop where
  be : Below w.heap.size w wr
  bx : Blk wr gx 47 x.cells
  b_y : Blk wr gy 47 y.cells
theorem TwoR.below {w wr w' : World} {gx gy : Nat} {x y : Rw} (h : TwoR w wr gx gy x y) (hb : Below wr.heap.size wr w') : TwoR w w' gx gy x y :=
  ⟨h.be.trans (hb.mono h.be.size), h.bx.below hb h.bx.lt, h.b_y.below hb h.b_y.lt⟩
set_option maxRecDepth 100000 in
set_option maxHeartbeats 4000000 in
theorem sameState_eq (s s' : St) (w : World) (h : SameS s s') (hs : StF w w.heap.size s) (hs' : StF w w.heap.size s') :
    Calls Try.prog 36 #[.agg #[.string s.name, .slice s.A s.rows.length s.cap], .agg #[.string s'.name, .slice s'.A s'.rows.length s'.cap]] w fun e w' => e = .returned (.bool true) ∧ Below w.heap.size w w' := by
  obtain ⟨sn, l, A, c⟩ := s
  obtain ⟨sn', l', A', c'⟩ := s'
  obtain ⟨hn, hrel⟩ := h
  dsimp only at hn hrel
  subst hn
  have hlen := hrel.len
  obtain ⟨hc, -, hri, hl⟩ := hs
  obtain ⟨hc', -, hri', -⟩ := hs'
  dsimp only at hc hri hl hc' hri' ⊢
  rw [hlen]
  have F0 : Below w.heap.size w ((w.alloc (.cells #[.string sn', .slice A l.length c] 45)).alloc (.cells #[.string sn', .slice A' l.length c'] 45)) := ((Below.refl _ _).alloc (Nat.le_refl _) _).alloc (by simp) _
  have K0 : Blk ((w.alloc (.cells #[.string sn', .slice A l.length c] 45)).alloc (.cells #[.string sn', .slice A' l.length c'] 45)) w.heap.size 45 [.string sn', .slice A l.length c] := (Blk.new _ _ _).alloc _
  have K1 : Blk ((w.alloc (.cells #[.string sn', .slice A l.length c] 45)).alloc (.cells #[.string sn', .slice A' l.length c'] 45)) (w.heap.size + 1) 45 [.string sn', .slice A' l.length c'] := by simpa using Blk.new (w.alloc (.cells #[.string sn', .slice A l.length c] 45)) 45 [.string sn', .slice A' l.length c']
  have C1 := Troupe.hid (hc.below F0)
  have C2 := Troupe.hid (hc'.below F0)
  have R1 := Troupe.hid (hri.below F0)
  have R2 := Troupe.hid (hri'.below F0)
  have HREL := Troupe.hid hrel
  have HF := Troupe.hid F0
  have HK0 := Troupe.hid K0
  have HK1 := Troupe.hid K1
  have hz := F0.size
  have e0 := K0.cell
  have e1 := K1.cell
  clear F0 K0 K1 hc hc' hri hri' hrel hlen
  go_enter Try.func36, Try.ntmps36
  go_wp2_with fail
  clear e0 e1
  generalize (w.alloc (.cells #[.string sn', .slice A l.length c] 45)).alloc (.cells #[.string sn', .slice A' l.length c'] 45) = w0 at *
  obtain ⟨g1, hg1⟩ : ∃ g1, g1 = w.heap.size + 1 := ⟨_, rfl⟩
  rw [← hg1] at HK1 ⊢
  clear hg1
  go_loopw [5] (fun v5 wr => ∃ i : Nat, v5 = .int .i64 i ∧ i ≤ l.length ∧ Below w0.heap.size w0 wr) (fun v5 _ => l.length - (intOf v5).toNat)
  case atStart => exact ⟨0, rfl, Nat.zero_le _, Below.refl _ _⟩
  case round =>
    obtain ⟨i, rfl, hi, hb⟩ := hrel
    obtain ⟨wa, rfl⟩ : ∃ wa : World, wa = wr := ⟨_, rfl⟩
    have HB := Troupe.hid hb
    clear hb
    have e0 := (HK0.out.below HB.out HK0.out.lt).cell
    have e1 := (HK1.out.below HB.out HK1.out.lt).cell
    by_cases hlt : i < l.length
    · obtain ⟨x, hx⟩ : ∃ x, l[i]? = some x := ⟨_, List.getElem?_eq_getElem hlt⟩
      obtain ⟨y, hy, hxy⟩ := HREL.out.at_ hx
      obtain ⟨b, o, hA, hbl, hcx⟩ := cells_at (sz := 4) (fun _ => rfl) (by decide) (C1.out.below (HB.out.mono hz)) hx
      obtain ⟨b', o', hA', hbl', hcy⟩ := cells_at (sz := 4) (fun _ => rfl) (by decide) (C2.out.below (HB.out.mono hz)) hy
      obtain ⟨hx1, -, hx3⟩ := R1.out x (List.mem_of_getElem? hx)
      obtain ⟨hy1, -, -⟩ := R2.out y (List.mem_of_getElem? hy)
      obtain ⟨xt, xo, xn, es, xA, xc⟩ := x
      obtain ⟨yt, yo, yn, es', yA, yc⟩ := y
      obtain ⟨h1, h2, h3, h4⟩ := hxy
      dsimp only at h1 h2 h3 h4 hx1 hx3 hy1
      subst h1 h2 h3 h4
      subst hA hA'
      let S0 : World → Prop := fun w' => Below wa.heap.size wa w'
      have hne : Nonempty (SW S0) := ⟨⟨wa, Below.refl _ _⟩⟩
      have hza := Nat.le_trans hz HB.out.size
      have fk : ∀ (x : SW S0) (i : Nat), x.w.cell? ⟨w.heap.size, i, none⟩ = [Value.string sn', .slice (some ⟨b, o, none⟩) l.length c][i]? := fun x i => ((HK0.out.below HB.out HK0.out.lt).below x.h (HK0.out.below HB.out HK0.out.lt).lt).cell i
      have fl : ∀ (x : SW S0) (i : Nat), x.w.cell? ⟨g1, i, none⟩ = [Value.string sn', .slice (some ⟨b', o', none⟩) l.length c'][i]? := fun x i => ((HK1.out.below HB.out HK1.out.lt).below x.h (HK1.out.below HB.out HK1.out.lt).lt).cell i
      have ux : ∀ (q : Nat) (u : Value), q < 4 → (Rw.cells ⟨yt, yo, yn, es', xA, xc⟩)[q]? = some u → ∀ x : SW S0, x.w.cell? ⟨b, o + i * 4 + q, none⟩ = some u := fun q u hq hu x => (x.h.cell (p := ⟨b, o + i * 4 + q, none⟩) (by dsimp only; omega)).trans (hcx q hq u hu)
      have uy : ∀ (q : Nat) (u : Value), q < 4 → (Rw.cells ⟨yt, yo, yn, es', yA, yc⟩)[q]? = some u → ∀ x : SW S0, x.w.cell? ⟨b', o' + i * 4 + q, none⟩ = some u := fun q u hq hu x => (x.h.cell (p := ⟨b', o' + i * 4 + q, none⟩) (by dsimp only; omega)).trans (hcy q hq u hu)
      have fx0 : ∀ x : SW S0, x.w.cell? ⟨b, o + i * 4, none⟩ = some (.string yt) := ux 0 _ (by decide) rfl
      have fx1 : ∀ x : SW S0, x.w.cell? ⟨b, o + i * 4 + 1, none⟩ = some (.bool yo) := ux 1 _ (by decide) rfl
      have fx2 : ∀ x : SW S0, x.w.cell? ⟨b, o + i * 4 + 2, none⟩ = some (.int .i64 yn) := ux 2 _ (by decide) rfl
      have fx3 : ∀ x : SW S0, x.w.cell? ⟨b, o + i * 4 + 3, none⟩ = some (.slice xA es'.length xc) := ux 3 _ (by decide) rfl
      have fy0 : ∀ x : SW S0, x.w.cell? ⟨b', o' + i * 4, none⟩ = some (.string yt) := uy 0 _ (by decide) rfl
      have fy1 : ∀ x : SW S0, x.w.cell? ⟨b', o' + i * 4 + 1, none⟩ = some (.bool yo) := uy 1 _ (by decide) rfl
      have fy2 : ∀ x : SW S0, x.w.cell? ⟨b', o' + i * 4 + 2, none⟩ = some (.int .i64 yn) := uy 2 _ (by decide) rfl
      have fy3 : ∀ x : SW S0, x.w.cell? ⟨b', o' + i * 4 + 3, none⟩ = some (.slice yA es'.length yc) := uy 3 _ (by decide) rfl
      have CX := Troupe.hid ((hx1.below (HB.out.mono hz)).mono hza)
      have CY := Troupe.hid ((hy1.below (HB.out.mono hz)).mono hza)
      have hi3 : i < 140737488355328 := by omega
      clear ux uy hx hy hcx hcy hx1 hy1
      go_wp2_with fail
      refine region_plan (S := Cls S0) (.read 0 (.read 1 (.read 2 (.read 3 (.read 4 (.read 5 (.read 6 (.read 7 (.read 8 (.read 9 (.two 10 (.one 11 (.one 12 .tail)) 11 (.one 10 (.one 12 .tail))))))))))))) 13 (by kernel_rfl) (by kernel_rfl) (fun _ _ d _ _ h => by cases d <;> exact h) ?_
      intro w6 hh o1' o2' o3'
      have F6 : Below wa.heap.size wa w6 := (Frm.of_heap (S := fun _ => False) hh o1' o2' o3').below (Nat.le_refl _) (fun _ h => h.elim)
      clear hh o1' o2' o3'
      refine ⟨Cls.of F6, ?_⟩
      repeat (refine wpPlan_read rfl (fun K hK => ?_); go_simp; refine hK _ ?_; clear hK K)
      clear fx0 fx1 fx2 fx3 fy0 fy1 fy2 fy3 fk fl e0 e1
      have hg2 := F6.size
      have F9 : Below wa.heap.size wa ((w6.alloc (.cells #[.string ⟨#[]⟩, .bool false, .int .i64 0, .slice none 0 0] 47)).alloc (.cells #[.string ⟨#[]⟩, .bool false, .int .i64 0, .slice none 0 0] 47)) := (F6.alloc F6.size _).alloc (by simp; omega) _
      have b0 : Blk ((w6.alloc (.cells #[.string ⟨#[]⟩, .bool false, .int .i64 0, .slice none 0 0] 47)).alloc (.cells #[.string ⟨#[]⟩, .bool false, .int .i64 0, .slice none 0 0] 47)) w6.heap.size 47 [.string ⟨#[]⟩, .bool false, .int .i64 0, .slice none 0 0] := (Blk.new w6 47 _).alloc _
      have b1' : Blk ((w6.alloc (.cells #[.string ⟨#[]⟩, .bool false, .int .i64 0, .slice none 0 0] 47)).alloc (.cells #[.string ⟨#[]⟩, .bool false, .int .i64 0, .slice none 0 0] 47)) (w6.heap.size + 1) 47 [.string ⟨#[]⟩, .bool false, .int .i64 0, .slice none 0 0] := by simpa using Blk.new (w6.alloc (.cells #[.string ⟨#[]⟩, .bool false, .int .i64 0, .slice none 0 0] 47)) 47 [.string ⟨#[]⟩, .bool false, .int .i64 0, .slice none 0 0]
      have HF9 := Troupe.hid F9
      have HB0 := Troupe.hid b0
      have HB1' := Troupe.hid b1'
      have HFa := Troupe.hid (F6.alloc F6.size (.cells #[.string ⟨#[]⟩, .bool false, .int .i64 0, .slice none 0 0] 47))
      have HG2 := Troupe.hid hg2
      clear F6 F9 b0 b1' hg2
      refine wpPlan_two rfl rfl ?_ ?_
      go_wp2_with fail
      refine ⟨Cls.of HFa.out, ?_⟩
      refine wpPlan_one rfl ?_
      go_wp2_with fail
      refine ⟨Cls.of HF9.out, ?_⟩
      generalize (w6.alloc (.cells #[.string ⟨#[]⟩, .bool false, .int .i64 0, .slice none 0 0] 47)).alloc (.cells #[.string ⟨#[]⟩, .bool false, .int .i64 0, .slice none 0 0] 47) = w9 at *
      have hxy : w6.heap.size ≠ w6.heap.size + 1 := by omega
      have hgx : wa.heap.size ≤ w6.heap.size := HG2.out
      have hgy : wa.heap.size ≤ w6.heap.size + 1 := by have := HG2.out; omega
      have HBX := HB0
      have HBY := HB1'
      clear HFa HB0 HB1' HG2
      generalize w6.heap.size + 1 = gy at *
      generalize w6.heap.size = gx at *
      rotate_left
      go_wp2_with fail
      refine ⟨Cls.of HFa.out, ?_⟩
      refine wpPlan_one rfl ?_
      go_wp2_with fail
      refine ⟨Cls.of HF9.out, ?_⟩
      generalize (w6.alloc (.cells #[.string ⟨#[]⟩, .bool false, .int .i64 0, .slice none 0 0] 47)).alloc (.cells #[.string ⟨#[]⟩, .bool false, .int .i64 0, .slice none 0 0] 47) = w9 at *
      have hxy : w6.heap.size + 1 ≠ w6.heap.size := by omega
      have hgy : wa.heap.size ≤ w6.heap.size := HG2.out
      have hgx : wa.heap.size ≤ w6.heap.size + 1 := by have := HG2.out; omega
      have HBY := HB0
      have HBX := HB1'
      clear HFa HB0 HB1' HG2
      generalize w6.heap.size + 1 = gx at *
      generalize w6.heap.size = gy at *
      all_goals
        have frx := HBX.out.frozen
        have clx := HBX.out.cell
        obtain ⟨bx, fx⟩ := set4 HBX.out (.string yt) (.bool yo) (.int .i64 yn) (.slice xA es'.length xc)
        have by1 := HBY.out.frm fx (fun e => hxy e.symm)
        have F10 : Below wa.heap.size wa ((((w9.setCell ⟨gx, 0, none⟩ (.string yt)).setCell ⟨gx, 1, none⟩ (.bool yo)).setCell ⟨gx, 2, none⟩ (.int .i64 yn)).setCell ⟨gx, 3, none⟩ (.slice xA es'.length xc)) := HF9.out.trans (fx.below HF9.out.size (fun k hk => by omega))
        have BX := Troupe.hid bx
        have BY1 := Troupe.hid by1
        have HF10 := Troupe.hid F10
        clear bx by1 fx F10
        refine wpPlan_one rfl ?_
        go_wp2_with fail
        refine ⟨Cls.of HF10.out, ?_⟩
        clear HBX HBY HF9 frx clx
        generalize (((w9.setCell ⟨gx, 0, none⟩ (.string yt)).setCell ⟨gx, 1, none⟩ (.bool yo)).setCell ⟨gx, 2, none⟩ (.int .i64 yn)).setCell ⟨gx, 3, none⟩ (.slice xA es'.length xc) = w10 at *
        have fry := BY1.out.frozen
        have cly := BY1.out.cell
        obtain ⟨by2, fy⟩ := set4 BY1.out (.string yt) (.bool yo) (.int .i64 yn) (.slice yA es'.length yc)
        have bx2 := BX.out.frm fy hxy
        have F11 : Below wa.heap.size wa ((((w10.setCell ⟨gy, 0, none⟩ (.string yt)).setCell ⟨gy, 1, none⟩ (.bool yo)).setCell ⟨gy, 2, none⟩ (.int .i64 yn)).setCell ⟨gy, 3, none⟩ (.slice yA es'.length yc)) := HF10.out.trans (fy.below HF10.out.size (fun k hk => by omega))
        have HF11 := Troupe.hid F11
        have BX2 := Troupe.hid bx2
        have BY2 := Troupe.hid by2
        clear BX BY1 by2 bx2 fy F11 HF10 hne
        refine wpPlan_tail ?_
        simp only [List.drop_succ_cons, List.drop_zero]
        go_step
        go_step
        generalize (((w10.setCell ⟨gy, 0, none⟩ (.string yt)).setCell ⟨gy, 1, none⟩ (.bool yo)).setCell ⟨gy, 2, none⟩ (.int .i64 yn)).setCell ⟨gy, 3, none⟩ (.slice yA es'.length yc) = w11 at *
        clear fry cly
        have ex := BX2.out.cell
        have ey := BY2.out.cell
        go_wp2_with fail
        clear ex ey
        go_loopw [8] (fun v8 wr => ∃ m : Nat, v8 = .int .i64 m ∧ m ≤ es'.length ∧ Below w11.heap.size w11 wr) (fun v8 _ => es'.length - (intOf v8).toNat)
        case atStart => exact ⟨0, rfl, Nat.zero_le _, Below.refl _ _⟩
        case round =>
          obtain ⟨m, rfl, hm, hb⟩ := hrel
          obtain ⟨wb, rfl⟩ : ∃ wb : World, wb = wr := ⟨_, rfl⟩
          have HBB := Troupe.hid hb
          clear hb
          have ex := (BX2.out.below HBB.out BX2.out.lt).cell
          have ey := (BY2.out.below HBB.out BY2.out.lt).cell
          have HFB := Troupe.hid (HF11.out.trans (HBB.out.mono HF11.out.size))
          by_cases hml : m < es'.length
          · obtain ⟨e, he⟩ : ∃ e, es'[m]? = some e := ⟨_, List.getElem?_eq_getElem hml⟩
            have hm3 : m < 140737488355328 := by omega
            go_upto_region 12 with (fail)
            refine region_still (by kernel_rfl) (by kernel_rfl) ?_
            intro w' hh hf
            have HB3 := Troupe.hid (HBB.out.trans (hf.below HBB.out.size (fun _ h => h.elim)))
            have HB4 := Troupe.hid (HFB.out.trans (hf.below HFB.out.size (fun _ h => h.elim)))
            obtain ⟨b2, off, hA, _, hc⟩ := cells_at (sz := 7) (fun _ => rfl) (by decide) (CX.out.below HB4.out) he
            obtain ⟨b2', off', hA', _, hc'⟩ := cells_at (sz := 7) (fun _ => rfl) (by decide) (CY.out.below HB4.out) he
            obtain ⟨d, ref, slot, name, v, q, delay⟩ := e
            have c0 : w'.cell? ⟨b2, off + m * 7, none⟩ = some (.int .i64 d) := hc 0 (by decide) _ rfl
            have c1 : w'.cell? ⟨b2, off + m * 7 + 1, none⟩ = some (.string ref) := hc 1 (by decide) _ rfl
            have c2 : w'.cell? ⟨b2, off + m * 7 + 2, none⟩ = some (.string slot) := hc 2 (by decide) _ rfl
            have c3 : w'.cell? ⟨b2, off + m * 7 + 3, none⟩ = some (.string name) := hc 3 (by decide) _ rfl
            have c4 : w'.cell? ⟨b2, off + m * 7 + 4, none⟩ = some (.int .i64 v) := hc 4 (by decide) _ rfl
            have c5 : w'.cell? ⟨b2, off + m * 7 + 5, none⟩ = some (.int .i64 q) := hc 5 (by decide) _ rfl
            have c6 : w'.cell? ⟨b2, off + m * 7 + 6, none⟩ = some (.int .i64 delay) := hc 6 (by decide) _ rfl
            have d0 : w'.cell? ⟨b2', off' + m * 7, none⟩ = some (.int .i64 d) := hc' 0 (by decide) _ rfl
            have d1 : w'.cell? ⟨b2', off' + m * 7 + 1, none⟩ = some (.string ref) := hc' 1 (by decide) _ rfl
            have d2 : w'.cell? ⟨b2', off' + m * 7 + 2, none⟩ = some (.string slot) := hc' 2 (by decide) _ rfl
            have d3 : w'.cell? ⟨b2', off' + m * 7 + 3, none⟩ = some (.string name) := hc' 3 (by decide) _ rfl
            have d4 : w'.cell? ⟨b2', off' + m * 7 + 4, none⟩ = some (.int .i64 v) := hc' 4 (by decide) _ rfl
            have d5 : w'.cell? ⟨b2', off' + m * 7 + 5, none⟩ = some (.int .i64 q) := hc' 5 (by decide) _ rfl
            have d6 : w'.cell? ⟨b2', off' + m * 7 + 6, none⟩ = some (.int .i64 delay) := hc' 6 (by decide) _ rfl
            subst hA
            subst hA'
            clear hc hc' he ex ey
            have ex := (BX2.out.below HB3.out BX2.out.lt).cell
            have ey := (BY2.out.below HB3.out BY2.out.lt).cell
            repeat still_step
            refine wpStill_nil ?_
            go_wp2_with fail
            go_roundw
            case rel => exact ⟨m + 1, by go_num, by omega, HB3.out⟩
            case measure => simp [intOf]; omega
          · have hml' : m = es'.length := by omega
            subst hml'
            have HW := Troupe.hid (HB.out.trans (HFB.out.mono HB.out.size))
            go_wp2_with fail
            go_roundw
            case rel => exact ⟨i + 1, by go_num, by omega, HW.out⟩
            case measure => simp [intOf]; omega
    · have hil : i = l.length := by omega
      subst hil
      go_wp2_with fail
      go_ret
      exact ⟨rfl, HF.out.trans (HB.out.mono hz)⟩

set_option maxRecDepth 100000 in
set_option maxHeartbeats 8000000 in
theorem psame_eq (ks ks' : List Kf) (A A' : Option Addr) (c c' : Nat) (w : World) (h : All2 SameK ks ks') (hcc : Cells w w.heap.size A (flatK ks)) (hcc' : Cells w w.heap.size A' (flatK ks')) (hk : KindsIn w w.heap.size ks) (hk' : KindsIn w w.heap.size ks') (hl : ks.length ≤ 140737488355328) :
    Calls Try.prog 25 #[.agg #[.slice A ks.length c], .agg #[.slice A' ks'.length c']] w fun e w' => e = .returned (.bool true) ∧ Below w.heap.size w w' := by
  have hlen := h.len
  rw [hlen]
  have F0 : Below w.heap.size w ((w.alloc (.cells #[.slice A ks.length c] 52)).alloc (.cells #[.slice A' ks.length c'] 52)) := ((Below.refl _ _).alloc (Nat.le_refl _) _).alloc (by simp) _
  have K0 : Blk ((w.alloc (.cells #[.slice A ks.length c] 52)).alloc (.cells #[.slice A' ks.length c'] 52)) w.heap.size 52 [.slice A ks.length c] := (Blk.new _ _ _).alloc _
  have K1 : Blk ((w.alloc (.cells #[.slice A ks.length c] 52)).alloc (.cells #[.slice A' ks.length c'] 52)) (w.heap.size + 1) 52 [.slice A' ks.length c'] := by simpa using Blk.new (w.alloc (.cells #[.slice A ks.length c] 52)) 52 [.slice A' ks.length c']
  have C1 := Troupe.hid (hcc.below F0)
  have C2 := Troupe.hid (hcc'.below F0)
  have R1 := Troupe.hid (hk.below F0)
  have R2 := Troupe.hid (hk'.below F0)
  have HREL := Troupe.hid h
  have HF := Troupe.hid F0
  have HK0 := Troupe.hid K0
  have HK1 := Troupe.hid K1
  have hz := F0.size
  have e0 := K0.cell
  have e1 := K1.cell
  clear F0 K0 K1 hcc hcc' hk hk' h hlen
  go_enter Try.func25, Try.ntmps25
  go_wp2_with fail
  clear e0 e1
  generalize (w.alloc (.cells #[.slice A ks.length c] 52)).alloc (.cells #[.slice A' ks.length c'] 52) = w0 at *
  obtain ⟨g1, hg1⟩ : ∃ g1, g1 = w.heap.size + 1 := ⟨_, rfl⟩
  rw [← hg1] at HK1 ⊢
  clear hg1
  go_loopw [5] (fun v5 wr => ∃ i : Nat, v5 = .int .i64 i ∧ i ≤ ks.length ∧ Below w0.heap.size w0 wr) (fun v5 _ => ks.length - (intOf v5).toNat)
  case atStart => exact ⟨0, rfl, Nat.zero_le _, Below.refl _ _⟩
  case round =>
    obtain ⟨i, rfl, hi, hb⟩ := hrel
    obtain ⟨wa, rfl⟩ : ∃ wa : World, wa = wr := ⟨_, rfl⟩
    have HB := Troupe.hid hb
    clear hb
    have e0 := (HK0.out.below HB.out HK0.out.lt).cell
    have e1 := (HK1.out.below HB.out HK1.out.lt).cell
    by_cases hlt : i < ks.length
    · obtain ⟨x, hx⟩ : ∃ x, ks[i]? = some x := ⟨_, List.getElem?_eq_getElem hlt⟩
      obtain ⟨y, hy, hxy⟩ := HREL.out.at_ hx
      obtain ⟨b, o, hA, hbl, hcx⟩ := cells_at (sz := 5) (fun _ => rfl) (by decide) (C1.out.below (HB.out.mono hz)) hx
      obtain ⟨b', o', hA', hbl', hcy⟩ := cells_at (sz := 5) (fun _ => rfl) (by decide) (C2.out.below (HB.out.mono hz)) hy
      have hza := Nat.le_trans hz HB.out.size
      have hkx := ((R1.out x (List.mem_of_getElem? hx)).below (HB.out.mono hz)).mono hza
      have hky := ((R2.out y (List.mem_of_getElem? hy)).below (HB.out.mono hz)).mono hza
      obtain ⟨xn, xl, xw, xcs, xAc, xcc, xs, xA, xc⟩ := x
      obtain ⟨yn, yl, yw, ycs, yAc, ycc, ys, yA, yc⟩ := y
      obtain ⟨h1, h2, h3, h4, h5⟩ := hxy
      dsimp only at h1 h2 h3 h4 h5
      subst h1 h2 h3 h4
      obtain ⟨⟨ux1, -, ux3⟩, us1, -, us3, us4⟩ := hkx
      obtain ⟨⟨uy1, -, -⟩, vs1, -, vs3, -⟩ := hky
      dsimp only at ux1 ux3 us1 us3 us4 uy1 vs1 vs3
      have hys := h5.len
      subst hA hA'
      let S0 : World → Prop := fun w' => Below wa.heap.size wa w'
      have hne : Nonempty (SW S0) := ⟨⟨wa, Below.refl _ _⟩⟩
      have fk : ∀ (x : SW S0) (i : Nat), x.w.cell? ⟨w.heap.size, i, none⟩ = [Value.slice (some ⟨b, o, none⟩) ks.length c][i]? := fun x i => ((HK0.out.below HB.out HK0.out.lt).below x.h (HK0.out.below HB.out HK0.out.lt).lt).cell i
      have fl : ∀ (x : SW S0) (i : Nat), x.w.cell? ⟨g1, i, none⟩ = [Value.slice (some ⟨b', o', none⟩) ks.length c'][i]? := fun x i => ((HK1.out.below HB.out HK1.out.lt).below x.h (HK1.out.below HB.out HK1.out.lt).lt).cell i
      have ux : ∀ (q : Nat) (u : Value), q < 5 → (Kf.cells ⟨yn, yl, yw, ycs, xAc, xcc, xs, xA, xc⟩)[q]? = some u → ∀ x : SW S0, x.w.cell? ⟨b, o + i * 5 + q, none⟩ = some u := fun q u hq hu x => (x.h.cell (p := ⟨b, o + i * 5 + q, none⟩) (by dsimp only; omega)).trans (hcx q hq u hu)
      have uy : ∀ (q : Nat) (u : Value), q < 5 → (Kf.cells ⟨yn, yl, yw, ycs, yAc, ycc, ys, yA, yc⟩)[q]? = some u → ∀ x : SW S0, x.w.cell? ⟨b', o' + i * 5 + q, none⟩ = some u := fun q u hq hu x => (x.h.cell (p := ⟨b', o' + i * 5 + q, none⟩) (by dsimp only; omega)).trans (hcy q hq u hu)
      have fx0 : ∀ x : SW S0, x.w.cell? ⟨b, o + i * 5, none⟩ = some (.string yn) := ux 0 _ (by decide) rfl
      have fx1 : ∀ x : SW S0, x.w.cell? ⟨b, o + i * 5 + 1, none⟩ = some (.int .i64 yl) := ux 1 _ (by decide) rfl
      have fx2 : ∀ x : SW S0, x.w.cell? ⟨b, o + i * 5 + 2, none⟩ = some (.int .i64 yw) := ux 2 _ (by decide) rfl
      have fx3 : ∀ x : SW S0, x.w.cell? ⟨b, o + i * 5 + 3, none⟩ = some (.slice xAc ycs.length xcc) := ux 3 _ (by decide) rfl
      have fx4 : ∀ x : SW S0, x.w.cell? ⟨b, o + i * 5 + 4, none⟩ = some (.slice xA xs.length xc) := ux 4 _ (by decide) rfl
      have fy0 : ∀ x : SW S0, x.w.cell? ⟨b', o' + i * 5, none⟩ = some (.string yn) := uy 0 _ (by decide) rfl
      have fy1 : ∀ x : SW S0, x.w.cell? ⟨b', o' + i * 5 + 1, none⟩ = some (.int .i64 yl) := uy 1 _ (by decide) rfl
      have fy2 : ∀ x : SW S0, x.w.cell? ⟨b', o' + i * 5 + 2, none⟩ = some (.int .i64 yw) := uy 2 _ (by decide) rfl
      have fy3 : ∀ x : SW S0, x.w.cell? ⟨b', o' + i * 5 + 3, none⟩ = some (.slice yAc ycs.length ycc) := uy 3 _ (by decide) rfl
      have fy4 : ∀ x : SW S0, x.w.cell? ⟨b', o' + i * 5 + 4, none⟩ = some (.slice yA xs.length yc) := by have := uy 4 _ (by decide) rfl; dsimp only at this; rwa [hys] at this
      have CX := Troupe.hid ux1
      have CY := Troupe.hid uy1
      have SX := Troupe.hid us1
      have SY := Troupe.hid vs1
      have TX := Troupe.hid us3
      have TY := Troupe.hid vs3
      have HREL5 := Troupe.hid h5
      have hi3 : i < 140737488355328 := by omega
      clear ux uy hx hy hcx hcy ux1 uy1 us1 vs1 us3 vs3 h5 hys
      go_wp2_with fail
      refine region_plan (S := Cls S0) (.read 0 (.read 1 (.read 2 (.read 3 (.read 4 (.read 5 (.read 6 (.read 7 (.read 8 (.read 9 (.two 10 (.one 11 (.one 12 .tail)) 11 (.one 10 (.one 12 .tail))))))))))))) 13 (by kernel_rfl) (by kernel_rfl) (fun _ _ d _ _ h => by cases d <;> exact h) ?_
      intro w6 hh o1' o2' o3'
      have F6 : Below wa.heap.size wa w6 := (Frm.of_heap (S := fun _ => False) hh o1' o2' o3').below (Nat.le_refl _) (fun _ h => h.elim)
      clear hh o1' o2' o3'
      refine ⟨Cls.of F6, ?_⟩
      repeat (refine wpPlan_read rfl (fun K hK => ?_); go_simp; refine hK _ ?_; clear hK K)
      clear fx0 fx1 fx2 fx3 fx4 fy0 fy1 fy2 fy3 fy4 fk fl e0 e1
      have hg2 := F6.size
      have F9 : Below wa.heap.size wa ((w6.alloc (.cells #[.string ⟨#[]⟩, .int .i64 0, .int .i64 0, .slice none 0 0, .slice none 0 0] 25)).alloc (.cells #[.string ⟨#[]⟩, .int .i64 0, .int .i64 0, .slice none 0 0, .slice none 0 0] 25)) := (F6.alloc F6.size _).alloc (by simp; omega) _
      have b0 : Blk ((w6.alloc (.cells #[.string ⟨#[]⟩, .int .i64 0, .int .i64 0, .slice none 0 0, .slice none 0 0] 25)).alloc (.cells #[.string ⟨#[]⟩, .int .i64 0, .int .i64 0, .slice none 0 0, .slice none 0 0] 25)) w6.heap.size 25 [.string ⟨#[]⟩, .int .i64 0, .int .i64 0, .slice none 0 0, .slice none 0 0] := (Blk.new w6 25 _).alloc _
      have b1' : Blk ((w6.alloc (.cells #[.string ⟨#[]⟩, .int .i64 0, .int .i64 0, .slice none 0 0, .slice none 0 0] 25)).alloc (.cells #[.string ⟨#[]⟩, .int .i64 0, .int .i64 0, .slice none 0 0, .slice none 0 0] 25)) (w6.heap.size + 1) 25 [.string ⟨#[]⟩, .int .i64 0, .int .i64 0, .slice none 0 0, .slice none 0 0] := by simpa using Blk.new (w6.alloc (.cells #[.string ⟨#[]⟩, .int .i64 0, .int .i64 0, .slice none 0 0, .slice none 0 0] 25)) 25 [.string ⟨#[]⟩, .int .i64 0, .int .i64 0, .slice none 0 0, .slice none 0 0]
      have HF9 := Troupe.hid F9
      have HB0 := Troupe.hid b0
      have HB1' := Troupe.hid b1'
      have HFa := Troupe.hid (F6.alloc F6.size (.cells #[.string ⟨#[]⟩, .int .i64 0, .int .i64 0, .slice none 0 0, .slice none 0 0] 25))
      have HG2 := Troupe.hid hg2
      clear F6 F9 b0 b1' hg2
      refine wpPlan_two rfl rfl ?_ ?_
      go_wp2_with fail
      refine ⟨Cls.of HFa.out, ?_⟩
      refine wpPlan_one rfl ?_
      go_wp2_with fail
      refine ⟨Cls.of HF9.out, ?_⟩
      generalize (w6.alloc (.cells #[.string ⟨#[]⟩, .int .i64 0, .int .i64 0, .slice none 0 0, .slice none 0 0] 25)).alloc (.cells #[.string ⟨#[]⟩, .int .i64 0, .int .i64 0, .slice none 0 0, .slice none 0 0] 25) = w9 at *
      have hxy : w6.heap.size ≠ w6.heap.size + 1 := by omega
      have hgx : wa.heap.size ≤ w6.heap.size := HG2.out
      have hgy : wa.heap.size ≤ w6.heap.size + 1 := by have := HG2.out; omega
      have HBX := HB0
      have HBY := HB1'
      clear HFa HB0 HB1' HG2
      generalize w6.heap.size + 1 = gy at *
      generalize w6.heap.size = gx at *
      rotate_left
      go_wp2_with fail
      refine ⟨Cls.of HFa.out, ?_⟩
      refine wpPlan_one rfl ?_
      go_wp2_with fail
      refine ⟨Cls.of HF9.out, ?_⟩
      generalize (w6.alloc (.cells #[.string ⟨#[]⟩, .int .i64 0, .int .i64 0, .slice none 0 0, .slice none 0 0] 25)).alloc (.cells #[.string ⟨#[]⟩, .int .i64 0, .int .i64 0, .slice none 0 0, .slice none 0 0] 25) = w9 at *
      have hxy : w6.heap.size + 1 ≠ w6.heap.size := by omega
      have hgy : wa.heap.size ≤ w6.heap.size := HG2.out
      have hgx : wa.heap.size ≤ w6.heap.size + 1 := by have := HG2.out; omega
      have HBY := HB0
      have HBX := HB1'
      clear HFa HB0 HB1' HG2
      generalize w6.heap.size + 1 = gx at *
      generalize w6.heap.size = gy at *
      all_goals
        have frx := HBX.out.frozen
        have clx := HBX.out.cell
        obtain ⟨bx, fx⟩ := set5 HBX.out (.string yn) (.int .i64 yl) (.int .i64 yw) (.slice xAc ycs.length xcc) (.slice xA xs.length xc)
        have by1 := HBY.out.frm fx (fun e => hxy e.symm)
        have F10 : Below wa.heap.size wa (((((w9.setCell ⟨gx, 0, none⟩ (.string yn)).setCell ⟨gx, 1, none⟩ (.int .i64 yl)).setCell ⟨gx, 2, none⟩ (.int .i64 yw)).setCell ⟨gx, 3, none⟩ (.slice xAc ycs.length xcc)).setCell ⟨gx, 4, none⟩ (.slice xA xs.length xc)) := HF9.out.trans (fx.below HF9.out.size (fun k hk => by omega))
        have BX := Troupe.hid bx
        have BY1 := Troupe.hid by1
        have HF10 := Troupe.hid F10
        clear bx by1 fx F10
        refine wpPlan_one rfl ?_
        go_wp2_with fail
        refine ⟨Cls.of HF10.out, ?_⟩
        clear HBX HBY HF9 frx clx
        generalize (((((w9.setCell ⟨gx, 0, none⟩ (.string yn)).setCell ⟨gx, 1, none⟩ (.int .i64 yl)).setCell ⟨gx, 2, none⟩ (.int .i64 yw)).setCell ⟨gx, 3, none⟩ (.slice xAc ycs.length xcc)).setCell ⟨gx, 4, none⟩ (.slice xA xs.length xc)) = w10 at *
        have fry := BY1.out.frozen
        have cly := BY1.out.cell
        obtain ⟨by2, fy⟩ := set5 BY1.out (.string yn) (.int .i64 yl) (.int .i64 yw) (.slice yAc ycs.length ycc) (.slice yA xs.length yc)
        have bx2 := BX.out.frm fy hxy
        have F11 : Below wa.heap.size wa (((((w10.setCell ⟨gy, 0, none⟩ (.string yn)).setCell ⟨gy, 1, none⟩ (.int .i64 yl)).setCell ⟨gy, 2, none⟩ (.int .i64 yw)).setCell ⟨gy, 3, none⟩ (.slice yAc ycs.length ycc)).setCell ⟨gy, 4, none⟩ (.slice yA xs.length yc)) := HF10.out.trans (fy.below HF10.out.size (fun k hk => by omega))
        have HF11 := Troupe.hid F11
        have BX2 := Troupe.hid bx2
        have BY2 := Troupe.hid by2
        clear BX BY1 by2 bx2 fy F11 HF10 hne
        refine wpPlan_tail ?_
        simp only [List.drop_succ_cons, List.drop_zero]
        go_step
        go_step
        generalize (((((w10.setCell ⟨gy, 0, none⟩ (.string yn)).setCell ⟨gy, 1, none⟩ (.int .i64 yl)).setCell ⟨gy, 2, none⟩ (.int .i64 yw)).setCell ⟨gy, 3, none⟩ (.slice yAc ycs.length ycc)).setCell ⟨gy, 4, none⟩ (.slice yA xs.length yc)) = w11 at *
        clear fry cly
        have ex := BX2.out.cell
        have ey := BY2.out.cell
        go_wp2_with fail
        clear ex ey
        go_loopw [8] (fun v8 wr => ∃ m : Nat, v8 = .int .i64 m ∧ m ≤ ycs.length ∧ Below w11.heap.size w11 wr) (fun v8 _ => ycs.length - (intOf v8).toNat)
        case atStart => exact ⟨0, rfl, Nat.zero_le _, Below.refl _ _⟩
        case round =>
          obtain ⟨m, rfl, hm, hb⟩ := hrel
          obtain ⟨wb, rfl⟩ : ∃ wb : World, wb = wr := ⟨_, rfl⟩
          have HBB := Troupe.hid hb
          clear hb
          have ex := (BX2.out.below HBB.out BX2.out.lt).cell
          have ey := (BY2.out.below HBB.out BY2.out.lt).cell
          have HFB := Troupe.hid (HF11.out.trans (HBB.out.mono HF11.out.size))
          by_cases hml : m < ycs.length
          · obtain ⟨e, he⟩ : ∃ e, ycs[m]? = some e := ⟨_, List.getElem?_eq_getElem hml⟩
            have hm3 : m < 140737488355328 := by omega
            go_upto_region 12 with (fail)
            refine region_still (by kernel_rfl) (by kernel_rfl) ?_
            intro w' hh hf
            have HB3 := Troupe.hid (HBB.out.trans (hf.below HBB.out.size (fun _ h => h.elim)))
            have HB4 := Troupe.hid (HFB.out.trans (hf.below HFB.out.size (fun _ h => h.elim)))
            obtain ⟨b2, off, hA, _, hc⟩ := cells_at (sz := 2) (fun _ => rfl) (by decide) (CX.out.below HB4.out) he
            obtain ⟨b2', off', hA', _, hc'⟩ := cells_at (sz := 2) (fun _ => rfl) (by decide) (CY.out.below HB4.out) he
            obtain ⟨rs, d⟩ := e
            have c0 : w'.cell? ⟨b2, off + m * 2, none⟩ = some (.string rs) := hc 0 (by decide) _ rfl
            have c1 : w'.cell? ⟨b2, off + m * 2 + 1, none⟩ = some (.int .i64 d) := hc 1 (by decide) _ rfl
            have d0 : w'.cell? ⟨b2', off' + m * 2, none⟩ = some (.string rs) := hc' 0 (by decide) _ rfl
            have d1 : w'.cell? ⟨b2', off' + m * 2 + 1, none⟩ = some (.int .i64 d) := hc' 1 (by decide) _ rfl
            subst hA
            subst hA'
            clear hc hc' he ex ey
            have ex := (BX2.out.below HB3.out BX2.out.lt).cell
            have ey := (BY2.out.below HB3.out BY2.out.lt).cell
            repeat still_step
            refine wpStill_nil ?_
            go_wp2_with fail
            go_roundw
            case rel => exact ⟨m + 1, by go_num, by omega, HB3.out⟩
            case measure => simp [intOf]; omega
          · have hml' : m = ycs.length := by omega
            subst hml'
            go_wp2_with fail
            clear ex ey
            go_loopw [9] (fun v9 wr => ∃ m : Nat, v9 = .int .i64 m ∧ m ≤ xs.length ∧ Below w11.heap.size w11 wr) (fun v9 _ => xs.length - (intOf v9).toNat)
            case atStart => exact ⟨0, rfl, Nat.zero_le _, HBB.out⟩
            case round =>
              obtain ⟨m, rfl, hm, hb⟩ := hrel
              obtain ⟨wc, rfl⟩ : ∃ wc : World, wc = wr := ⟨_, rfl⟩
              have HBC := Troupe.hid hb
              clear hb
              have ex := (BX2.out.below HBC.out BX2.out.lt).cell
              have ey := (BY2.out.below HBC.out BY2.out.lt).cell
              have HFC := Troupe.hid (HF11.out.trans (HBC.out.mono HF11.out.size))
              by_cases hml : m < xs.length
              · obtain ⟨e, he⟩ : ∃ e, xs[m]? = some e := ⟨_, List.getElem?_eq_getElem hml⟩
                obtain ⟨e', he', hee⟩ := HREL5.out.at_ he
                have hm3 : m < 140737488355328 := by omega
                obtain ⟨b2, off, hA, hb2, hc⟩ := cells_at (sz := 2) (fun _ => rfl) (by decide) (SX.out.below HFC.out) he
                obtain ⟨b2', off', hA', hb2', hc'⟩ := cells_at (sz := 2) (fun _ => rfl) (by decide) (SY.out.below HFC.out) he'
                have hzc := HFC.out.size
                subst hA hA'
                let S1 : World → Prop := fun w' => Below wc.heap.size wc w'
                have hne : Nonempty (SW S1) := ⟨⟨wc, Below.refl _ _⟩⟩
                have fk : ∀ (x : SW S1) (i : Nat), x.w.cell? ⟨gx, i, none⟩ = [Value.string yn, .int .i64 yl, .int .i64 yw, .slice xAc ycs.length xcc, .slice (some ⟨b2, off, none⟩) xs.length xc][i]? := fun x i => ((BX2.out.below HBC.out BX2.out.lt).below x.h (BX2.out.below HBC.out BX2.out.lt).lt).cell i
                have fl : ∀ (x : SW S1) (i : Nat), x.w.cell? ⟨gy, i, none⟩ = [Value.string yn, .int .i64 yl, .int .i64 yw, .slice yAc ycs.length ycc, .slice (some ⟨b2', off', none⟩) xs.length yc][i]? := fun x i => ((BY2.out.below HBC.out BY2.out.lt).below x.h (BY2.out.below HBC.out BY2.out.lt).lt).cell i
                have c0 : ∀ x : SW S1, x.w.cell? ⟨b2, off + m * 2, none⟩ = some (.string e.name) := fun x => (x.h.cell (p := ⟨b2, off + m * 2, none⟩) (by dsimp only; omega)).trans (hc 0 (by decide) _ rfl)
                have c1 : ∀ x : SW S1, x.w.cell? ⟨b2, off + m * 2 + 1, none⟩ = some (.slice e.A e.rows.length e.cap) := fun x => (x.h.cell (p := ⟨b2, off + m * 2 + 1, none⟩) (by dsimp only; omega)).trans (hc 1 (by decide) _ rfl)
                have d0 : ∀ x : SW S1, x.w.cell? ⟨b2', off' + m * 2, none⟩ = some (.string e'.name) := fun x => (x.h.cell (p := ⟨b2', off' + m * 2, none⟩) (by dsimp only; omega)).trans (hc' 0 (by decide) _ rfl)
                have d1 : ∀ x : SW S1, x.w.cell? ⟨b2', off' + m * 2 + 1, none⟩ = some (.slice e'.A e'.rows.length e'.cap) := fun x => (x.h.cell (p := ⟨b2', off' + m * 2 + 1, none⟩) (by dsimp only; omega)).trans (hc' 1 (by decide) _ rfl)
                have T1 := Troupe.hid (((TX.out e (List.mem_of_getElem? he)).below HFC.out).mono hzc)
                have T2 := Troupe.hid (((TY.out e' (List.mem_of_getElem? he')).below HFC.out).mono hzc)
                have HEE := Troupe.hid hee
                clear hc hc' he he' hee
                go_upto_region 17 with (fail)
                refine region_plan (S := Cls S1) (.read 0 (.read 1 (.read 2 (.read 3 (.read 4 (.read 5 (.read 6 (.read 7 (.read 8 (.read 9 (.one 10 .tail))))))))))) 11 (by kernel_rfl) (by kernel_rfl) (fun _ _ d _ _ h => by cases d <;> exact h) ?_
                intro w16 hh o1' o2' o3'
                have F16 : Below wc.heap.size wc w16 := (Frm.of_heap (S := fun _ => False) hh o1' o2' o3').below (Nat.le_refl _) (fun _ h => h.elim)
                clear hh o1' o2' o3'
                refine ⟨Cls.of F16, ?_⟩
                repeat (refine wpPlan_read rfl (fun K hK => ?_); go_simp; refine hK _ ?_; clear hK K)
                clear fk fl c0 c1 d0 d1 ex ey hne
                have SS := Troupe.hid (sameState_eq e e' w16 HEE.out ((T1.out.below F16).mono F16.size) ((T2.out.below F16).mono F16.size))
                have HF16 := Troupe.hid F16
                clear F16
                refine wpPlan_one rfl ?_
                go_wp2_with fail
                refine SS.out.mono ?_
                rintro e w17 ⟨rfl, hb⟩
                have F17 := Troupe.hid (HF16.out.trans (hb.mono HF16.out.size))
                have HB17 := Troupe.hid (HBC.out.trans (F17.out.mono HBC.out.size))
                clear hb
                go_wp2_with fail
                refine ⟨Cls.of F17.out, ?_⟩
                refine wpPlan_tail ?_
                simp only [List.drop_succ_cons, List.drop_zero]
                go_wp2_with fail
                go_roundw
                case rel => exact ⟨m + 1, by go_num, by omega, HB17.out⟩
                case measure => simp [intOf]; omega
              · have hml' : m = xs.length := by omega
                subst hml'
                have HW := Troupe.hid (HB.out.trans (HFC.out.mono HB.out.size))
                go_wp2_with fail
                go_roundw
                case rel => exact ⟨i + 1, by go_num, by omega, HW.out⟩
                case measure => simp [intOf]; omega
    · have hil : i = ks.length := by omega
      subst hil
      go_wp2_with fail
      go_ret
      exact ⟨rfl, HF.out.trans (HB.out.mono hz)⟩
end Go.Proofs.Ytfeeajodgcdflaa
