/- Row by contract. -/
import Derived.Test.YtkjjhndccelbcaaIndex
import Derived.Test.YtkjjhndccelbcaaClone
import Derived.Laws.ResultCell
import Derived.Laws.Rows
import Derived.Lib.SmallJoins
namespace Go.Proofs.Ytkjjhndccelbcaa
open Go.RowKit Go.Maps Go.Troupe

/-- The row that a message meets. -/
def rowV (sts : List St) (state tag : ByteArray) (n : Int) : Option Rw := (sts.find? (nameV state)).bind fun s => s.rows.find? (fitsV tag n)
def Rowed (sts : List St) (state tag : ByteArray) (n : Int) (w : World) (e : Ending) (w' : World) : Prop :=
  Below w.heap.size w w' ∧ match rowV sts state tag n with
    | none => e = .returned (.tuple #[.agg #[.string noS, .bool false, .int .i64 0, .slice none 0 0], .bool false])
    | some r => ∃ v, e = .returned (.tuple #[.agg #[.string r.tag, .bool r.only, .int .i64 r.n, v], .bool true]) ∧ w'.ownsRow w.heap.size 57 7 v r.effs.length (flatE r.effs)

theorem results_cell_tmp_row {P : Program} {fn : Func} {p u : Tmp} {ty : TypeId} (h : fn.results = #[.cell p ty, .tmp u]) (tmps : Array Value) (w : World) (g : Nat) (t : TypeId) (cs : Array Value) (fr : Nat × Nat) (d : TypeDesc)
    (hp : tmps.getD p undef = .pointer (some ⟨g, 0, none⟩)) (hg : w.heap[g]? = some (.cells cs t fr))
    (hu : P.underlying ty = some d) (hd : (match d with | .struct _ | .array _ _ => true | _ => false) = true) (hi : (P.info? ty).map (·.size) = some cs.size) :
    (results fn tmps).run P w = .ok (.tuple #[.agg cs, tmps.getD u undef]) w := by
  rw [results_cell_tmp h, hp]
  simp [asAddr, run_loadVar_row w g t ty cs fr d hg hu hd hi, Result.andThen]
theorem size60 : (Try.prog.info? 60).map (·.size) = some 4 := by kernel_rfl

theorem set4 {w : World} {g : Nat} {t : TypeId} {a b c d : Value} (h : Blk w g t [a, b, c, d]) (x y z u : Value) :
    Blk ((((w.setCell ⟨g, 0, none⟩ x).setCell ⟨g, 1, none⟩ y).setCell ⟨g, 2, none⟩ z).setCell ⟨g, 3, none⟩ u) g t [x, y, z, u] ∧ Frm (fun k => k = g) w ((((w.setCell ⟨g, 0, none⟩ x).setCell ⟨g, 1, none⟩ y).setCell ⟨g, 2, none⟩ z).setCell ⟨g, 3, none⟩ u) :=
  ⟨(((h.set_ 0 x).set_ 1 y).set_ 2 z).set_ 3 u, (((Frm.one w ⟨g, 0, none⟩ x).trans (Frm.one _ ⟨g, 1, none⟩ y) (fun _ _ h => h)).trans (Frm.one _ ⟨g, 2, none⟩ z) (fun _ _ h => h)).trans (Frm.one _ ⟨g, 3, none⟩ u) (fun _ _ h => h)⟩
set_option maxRecDepth 100000 in
set_option maxHeartbeats 2000000 in
theorem row_any (k : Kd) (state tag : ByteArray) (n : Int) (w : World) (hk : KindIn w w.heap.size k) :
    Calls Try.prog 56 #[k.val, .string state, .string tag, .int .i64 n] w (Rowed k.sts state tag n w) := by
  obtain ⟨kn, kl, kw, Ac, nc, cc, A, cap, sts⟩ := k
  obtain ⟨hs, hst, hlen⟩ := hk
  dsimp only at hs hst hlen
  obtain ⟨wb, hwb⟩ : ∃ wb, wb = ((((w.alloc (.cells #[.string kn, .int .i64 kl, .int .i64 kw, .slice Ac nc cc, .slice A sts.length cap] 67)).alloc (.cells #[.string state] 9)).alloc (.cells #[.string tag] 9)).alloc (.cells #[.int .i64 n] 3)).alloc (.cells #[.string noS, .bool false, .int .i64 0, .slice none 0 0] 60) := ⟨_, rfl⟩
  have b0 : Below w.heap.size w wb := by rw [hwb]; exact ((((((Below.refl _ w).alloc (Nat.le_refl _) _).alloc (by simp) _).alloc (by simp; omega) _).alloc (by simp; omega) _).alloc (by simp; omega) _)
  have k0 : Blk wb w.heap.size 67 [.string kn, .int .i64 kl, .int .i64 kw, .slice Ac nc cc, .slice A sts.length cap] := by rw [hwb]; exact ((((Blk.new w 67 [.string kn, .int .i64 kl, .int .i64 kw, .slice Ac nc cc, .slice A sts.length cap]).alloc _).alloc _).alloc _).alloc _
  have k1 : Blk wb (w.heap.size + 1) 9 [.string state] := by rw [hwb]; simpa using (((Blk.new (w.alloc (.cells #[.string kn, .int .i64 kl, .int .i64 kw, .slice Ac nc cc, .slice A sts.length cap] 67)) 9 [.string state]).alloc (.cells #[.string tag] 9)).alloc (.cells #[.int .i64 n] 3)).alloc (.cells #[.string noS, .bool false, .int .i64 0, .slice none 0 0] 60)
  have k2 : Blk wb (w.heap.size + 2) 9 [.string tag] := by rw [hwb]; simpa using ((Blk.new ((w.alloc (.cells #[.string kn, .int .i64 kl, .int .i64 kw, .slice Ac nc cc, .slice A sts.length cap] 67)).alloc (.cells #[.string state] 9)) 9 [.string tag]).alloc (.cells #[.int .i64 n] 3)).alloc (.cells #[.string noS, .bool false, .int .i64 0, .slice none 0 0] 60)
  have k3 : Blk wb (w.heap.size + 3) 3 [.int .i64 n] := by rw [hwb]; simpa using (Blk.new (((w.alloc (.cells #[.string kn, .int .i64 kl, .int .i64 kw, .slice Ac nc cc, .slice A sts.length cap] 67)).alloc (.cells #[.string state] 9)).alloc (.cells #[.string tag] 9)) 3 [.int .i64 n]).alloc (.cells #[.string noS, .bool false, .int .i64 0, .slice none 0 0] 60)
  have k4 : Blk wb (w.heap.size + 4) 60 [.string noS, .bool false, .int .i64 0, .slice none 0 0] := by rw [hwb]; simpa using Blk.new ((((w.alloc (.cells #[.string kn, .int .i64 kl, .int .i64 kw, .slice Ac nc cc, .slice A sts.length cap] 67)).alloc (.cells #[.string state] 9)).alloc (.cells #[.string tag] 9)).alloc (.cells #[.int .i64 n] 3)) 60 [.string noS, .bool false, .int .i64 0, .slice none 0 0]
  have B0 := Troupe.hid b0
  have K0 := Troupe.hid k0
  have K2 := Troupe.hid k2
  have K3 := Troupe.hid k3
  have K4 := Troupe.hid k4
  have CS := Troupe.hid (hs.below b0)
  have SI := Troupe.hid (hst.below b0)
  have IX := Troupe.hid (indexS_any state (w.heap.size + 1) A sts.length cap w.heap.size sts wb rfl (by unfold maxLen; omega) (hs.below b0) b0.size (k1.cell 0))
  have hwb' : wb = ((((w.alloc (.cells #[.string kn, .int .i64 kl, .int .i64 kw, .slice Ac nc cc, .slice A sts.length cap] 67)).alloc (.cells #[.string state] 9)).alloc (.cells #[.string tag] 9)).alloc (.cells #[.int .i64 n] 3)).alloc (.cells #[.string ⟨#[]⟩, .bool false, .int .i64 0, .slice none 0 0] 60) := hwb
  have WB := Troupe.hid hwb'
  clear hs hst b0 k0 k1 k2 k3 k4 hwb hwb'
  dsimp only [Kd.val]
  go_enter Try.func56, Try.ntmps56
  go_wp2_with fail
  rw [← WB.out]
  have K2' : Hid (Blk wb (w.heap.size + 1 + 1) 9 [.string tag]) := K2
  have K3' : Hid (Blk wb (w.heap.size + 1 + 1 + 1) 3 [.int .i64 n]) := K3
  have K4' : Hid (Blk wb (w.heap.size + 1 + 1 + 1 + 1) 60 [.string noS, .bool false, .int .i64 0, .slice none 0 0]) := K4
  have hg4 : w.heap.size ≤ w.heap.size + 1 + 1 + 1 + 1 := by omega
  clear WB K2 K3 K4
  generalize w.heap.size + 1 + 1 + 1 + 1 = g4 at *
  generalize w.heap.size + 1 + 1 + 1 = g3 at *
  generalize w.heap.size + 1 + 1 = g2 at *
  refine IX.out.mono ?_
  rintro e w1 ⟨rfl, hb1⟩
  have B1 := Troupe.hid (B0.out.trans (hb1.mono B0.out.size))
  have K01 := Troupe.hid (K0.out.below hb1 K0.out.lt)
  have K21 := Troupe.hid (K2'.out.below hb1 K2'.out.lt)
  have K31 := Troupe.hid (K3'.out.below hb1 K3'.out.lt)
  have k41 := K4'.out.below hb1 K4'.out.lt
  have K41 := Troupe.hid k41
  have CS1 := Troupe.hid (CS.out.below (hb1.mono B0.out.size))
  have SI1 := Troupe.hid (SI.out.below (hb1.mono B0.out.size))
  have e4 := k41.cell
  have f4 := k41.frozen
  clear hb1 k41 IX K0 K2' K3' K4' CS SI
  rcases idxV_cases sts (nameV state) with ⟨h1, h2⟩ | ⟨i, s, h1, hx, h2⟩
  · have RV : rowV sts state tag n = none := by unfold rowV; rw [h2]; rfl
    rw [h1]
    clear h1 h2
    go_wp2_with fail
    (try simp only [Exit.inBlock, Exit.then])
    obtain ⟨s1, s2⟩ := set4 K41.out (.string ⟨#[]⟩) (.bool false) (.int .i64 0) (.slice none 0 0)
    refine bodyPost_ret (results_cell_tmp_row rfl _ _ g4 60 _ (0, 0) _ rfl s1 Try.underlying60 rfl size60) rfl ⟨B1.out.trans (s2.below B1.out.size (fun k hk => by omega)), ?_⟩
    rw [RV]
    rfl
  · have hi : i < sts.length := (List.getElem?_eq_some_iff.1 hx).1
    obtain ⟨b, o, rfl, _, hc⟩ := cells_at (sz := 2) (fun _ => rfl) (by decide) CS1.out hx
    have d1 : w1.cell? ⟨b, o + i * 2 + 1, none⟩ = some (.slice s.A s.rows.length s.cap) := hc 1 (by decide) _ rfl
    obtain ⟨cr, sr, lr⟩ := SI1.out s (List.mem_of_getElem? hx)
    have e0 : w1.cell? ⟨w.heap.size, 4, none⟩ = some (.slice (some ⟨b, o, none⟩) sts.length cap) := K01.out.cell 4
    have hi2 : i < 140737488355328 := by omega
    have CR := Troupe.hid cr
    have SR := Troupe.hid sr
    have H2 := Troupe.hid h2
    rw [h1]
    clear h1 h2 hc hx cr sr
    go_wp2_with fail
    refine (indexR_any tag n g2 g3 s.A s.rows.length s.cap w.heap.size s.rows w1 rfl (by unfold maxLen; omega) CR.out B1.out.size (K21.out.cell 0) (K31.out.cell 0)).mono ?_
    rintro e w2 ⟨rfl, hb2⟩
    have B2 := Troupe.hid (B1.out.trans (hb2.mono B1.out.size))
    have e02 : w2.cell? ⟨w.heap.size, 4, none⟩ = some (.slice (some ⟨b, o, none⟩) sts.length cap) := (hb2.cell (p := ⟨w.heap.size, 4, none⟩) K01.out.lt).trans e0
    have hbw : b < w1.heap.size := block_lt_of_cell d1
    have d2 : w2.cell? ⟨b, o + i * 2 + 1, none⟩ = some (.slice s.A s.rows.length s.cap) := (hb2.cell (p := ⟨b, o + i * 2 + 1, none⟩) hbw).trans d1
    have k42 := K41.out.below hb2 K41.out.lt
    have K42 := Troupe.hid k42
    have e42 := k42.cell
    have f42 := k42.frozen
    have CR2 := Troupe.hid (CR.out.below (hb2.mono B1.out.size))
    have SR2 := Troupe.hid (SR.out.below (hb2.mono B1.out.size))
    clear hb2 k42 e0 d1 e4 f4
    rcases idxV_cases s.rows (fitsV tag n) with ⟨h1, h2⟩ | ⟨j, r, h1, hx, h2⟩
    · have RV : rowV sts state tag n = none := by unfold rowV; rw [H2.out]; exact h2
      rw [h1]
      clear h1 h2
      go_wp2_with fail
      (try simp only [Exit.inBlock, Exit.then])
      obtain ⟨s1, s2⟩ := set4 K42.out (.string ⟨#[]⟩) (.bool false) (.int .i64 0) (.slice none 0 0)
      refine bodyPost_ret (results_cell_tmp_row rfl _ _ g4 60 _ (0, 0) _ rfl s1 Try.underlying60 rfl size60) rfl ⟨B2.out.trans (s2.below B2.out.size (fun k hk => by omega)), ?_⟩
      rw [RV]
      rfl
    · have RV : rowV sts state tag n = some r := by unfold rowV; rw [H2.out]; exact h2
      have hj : j < s.rows.length := (List.getElem?_eq_some_iff.1 hx).1
      obtain ⟨b', o', hA', _, hc⟩ := cells_at (sz := 4) (fun _ => rfl) (by decide) CR2.out hx
      have r0 : w2.cell? ⟨b', o' + j * 4, none⟩ = some (.string r.tag) := hc 0 (by decide) _ rfl
      have r1 : w2.cell? ⟨b', o' + j * 4 + 1, none⟩ = some (.bool r.only) := hc 1 (by decide) _ rfl
      have r2 : w2.cell? ⟨b', o' + j * 4 + 2, none⟩ = some (.int .i64 r.n) := hc 2 (by decide) _ rfl
      have r3 : w2.cell? ⟨b', o' + j * 4 + 3, none⟩ = some (.slice r.A r.effs.length r.cap) := hc 3 (by decide) _ rfl
      obtain ⟨ce, ae, le⟩ := SR2.out r (List.mem_of_getElem? hx)
      rw [hA'] at d2
      have hj2 : j < 140737488355328 := by omega
      have CE := Troupe.hid ce
      have AE := Troupe.hid ae
      rw [h1]
      clear h1 h2 hc hx ce ae hA'
      go_wp2_with fail
      have B3 : Blk (w2.alloc (.cells #[.string r.tag, .bool r.only, .int .i64 r.n, .slice r.A r.effs.length r.cap] 60)) w2.heap.size 60 [.string r.tag, .bool r.only, .int .i64 r.n, .slice r.A r.effs.length r.cap] := Blk.new _ _ _
      have F3 : Below w2.heap.size w2 (w2.alloc (.cells #[.string r.tag, .bool r.only, .int .i64 r.n, .slice r.A r.effs.length r.cap] 60)) := (Below.refl _ _).alloc (Nat.le_refl _) _
      have hgt : g4 < w2.heap.size := K42.out.lt
      have hz2 := B2.out.size
      have K43 := Troupe.hid (K42.out.below F3 hgt)
      have CE3 := Troupe.hid ((CE.out.mono B2.out.size).below F3)
      have B03 := Troupe.hid (B2.out.trans (F3.mono B2.out.size))
      clear F3 e42 f42 r0 r1 r2 r3 d2 e02
      generalize w2.alloc (.cells #[.string r.tag, .bool r.only, .int .i64 r.n, .slice r.A r.effs.length r.cap] 60) = w3 at *
      generalize w2.heap.size = t at *
      refine (cloneE_any r.A r.effs.length r.cap t r.effs w3 rfl le CE3.out (fun h => ⟨?_, AE.out h⟩)).mono ?_
      · have := CE.out
        rcases this with h' | ⟨_, _, h', _⟩
        · have := congrArg List.length h'; rw [flatE_length, List.length_nil] at this; omega
        · rw [h] at h'; cases h'
      rintro e w4 ⟨v, rfl, ho, hb4⟩
      obtain ⟨Av, cv, rfl, -⟩ := own_form ho
      have hz3 := B03.out.size
      have ht3 := B3.lt
      have k4 := K43.out.below hb4 K43.out.lt
      have b4 := B3.below hb4 B3.lt
      have e4 := k4.cell
      have f4 := k4.frozen
      have e5 := b4.cell
      have f5 := b4.frozen
      have hne : ¬ g4 = t := by omega
      have hne2 : ¬ t = g4 := by omega
      have K4F := Troupe.hid k4
      have B4F := Troupe.hid b4
      have HO := Troupe.hid ho
      have HB4 := Troupe.hid (B03.out.trans (hb4.mono B03.out.size))
      clear k4 b4 ho hb4 B3
      go_wp2_with fail
      (try simp only [Exit.inBlock, Exit.then])
      have F5 : Frm (fun k => k = t) w4 (w4.setCell ⟨t, 3, none⟩ (.slice Av r.effs.length cv)) := Frm.one w4 ⟨t, 3, none⟩ _
      have K5 := K4F.out.frm F5 hne
      obtain ⟨s1, s2⟩ := set4 K5 (.string r.tag) (.bool r.only) (.int .i64 r.n) (.slice Av r.effs.length cv)
      have FF := F5.and_then s2
      refine bodyPost_ret (results_cell_tmp_row rfl _ _ g4 60 _ (0, 0) _ rfl s1 Try.underlying60 rfl size60) rfl ⟨HB4.out.trans (FF.below HB4.out.size (fun k hk => by rcases hk with h | h <;> omega)), ?_⟩
      rw [RV]
      refine ⟨_, rfl, Go.Joins.ownsRow_le (own_frm HO.out FF (fun b hb h => ?_)) hz3⟩
      obtain ⟨cs, hbk⟩ := own_at HO.out hb
      rcases h with h | h
      · exact hbk.ne B4F.out (by decide) h
      · exact hbk.ne K4F.out (by decide) h
end Go.Proofs.Ytkjjhndccelbcaa
