/- Find, by contract. -/
import Derived.Test.YtkjjhndccelbcaaCopied
namespace Go.Proofs.Ytkjjhndccelbcaa
open Go.RowKit Go.Maps Go.Troupe

def findV (ks : List Kf) (kind : ByteArray) : Option Kf := ks.find? (kindV kind)
def Found (ks : List Kf) (kind : ByteArray) (w : World) (e : Ending) (w' : World) : Prop :=
  Below w.heap.size w w' ∧ match findV ks kind with
    | none => e = .returned (.tuple #[.agg #[.string noS, .int .i64 0, .int .i64 0, .slice none 0 0, .slice none 0 0], .bool false])
    | some k => ∃ k', e = .returned (.tuple #[k'.val, .bool true]) ∧ SameK k k' ∧ KOwn w' w.heap.size k'
set_option maxRecDepth 100000 in
set_option maxHeartbeats 2000000 in
theorem find_any (Ak : Option Addr) (ck : Nat) (ks : List Kf) (kind : ByteArray) (w : World) (hc : Cells w w.heap.size Ak (flatK ks)) (hk : KindsIn w w.heap.size ks) (hl : ks.length ≤ 140737488355328) :
    Calls Try.prog 41 #[.agg #[.slice Ak ks.length ck], .string kind] w (Found ks kind w) := by
  obtain ⟨wb, hwb⟩ : ∃ wb, wb = ((w.alloc (.cells #[.slice Ak ks.length ck] 24)).alloc (.cells #[.string kind] 9)).alloc (.cells #[.string ⟨#[]⟩, .int .i64 0, .int .i64 0, .slice none 0 0, .slice none 0 0] 67) := ⟨_, rfl⟩
  have b0 : Below w.heap.size w wb := by rw [hwb]; exact (((Below.refl _ w).alloc (Nat.le_refl _) _).alloc (by simp) _).alloc (by simp; omega) _
  have k0 : Blk wb w.heap.size 24 [.slice Ak ks.length ck] := by rw [hwb]; exact ((Blk.new w 24 [.slice Ak ks.length ck]).alloc _).alloc _
  have k1 : Blk wb (w.heap.size + 1) 9 [.string kind] := by rw [hwb]; simpa using (Blk.new (w.alloc (.cells #[.slice Ak ks.length ck] 24)) 9 [.string kind]).alloc (.cells #[.string ⟨#[]⟩, .int .i64 0, .int .i64 0, .slice none 0 0, .slice none 0 0] 67)
  have k2 : Blk wb (w.heap.size + 1 + 1) 67 zK := by rw [hwb]; simpa [zK] using Blk.new ((w.alloc (.cells #[.slice Ak ks.length ck] 24)).alloc (.cells #[.string kind] 9)) 67 zK
  have hz := b0.size
  have IX := Troupe.hid (indexK_any kind (w.heap.size + 1) Ak ks.length ck w.heap.size ks wb rfl (by unfold maxLen; omega) (hc.below b0) hz (k1.cell 0))
  have WB := Troupe.hid hwb
  have B0 := Troupe.hid b0
  have K0 := Troupe.hid k0
  have K2 := Troupe.hid k2
  have CS := Troupe.hid (hc.below b0)
  have KI := Troupe.hid hk
  have e0 := k0.cell
  clear hc hk b0 k0 k1 k2 hwb
  go_enter Try.func41, Try.ntmps41
  go_wp2_with fail
  rw [← WB.out]
  clear WB
  have hg2 : w.heap.size ≤ w.heap.size + 1 + 1 := by omega
  have hg0 : w.heap.size < w.heap.size + 1 + 1 := by omega
  generalize w.heap.size + 1 + 1 = g2 at *
  generalize w.heap.size + 1 = g1 at *
  refine IX.out.mono ?_
  rintro e w1 ⟨rfl, hb1⟩
  have B1 := Troupe.hid (B0.out.trans (hb1.mono hz))
  have k01 := K0.out.below hb1 K0.out.lt
  have k21 := K2.out.below hb1 K2.out.lt
  have K01 := Troupe.hid k01
  have K21 := Troupe.hid k21
  have CS1 := Troupe.hid (CS.out.below (hb1.mono hz))
  have e1 := k01.cell
  have l2 := k21.cell
  have f2 := k21.frozen
  dsimp only [zK] at l2
  clear hb1 k01 k21 K0 K2 CS IX e0
  rcases idxV_cases ks (kindV kind) with ⟨h1, h2⟩ | ⟨i, k, h1, hx, h2⟩
  · have FV := Troupe.hid (show findV ks kind = none from h2)
    rw [h1]
    clear h1 h2
    go_wp2_with fail
    (try simp only [Exit.inBlock, Exit.then])
    obtain ⟨s1, s2⟩ := set5 (a := .string ⟨#[]⟩) (b := .int .i64 0) (c := .int .i64 0) (d := .slice none 0 0) (e := .slice none 0 0) K21.out (.string ⟨#[]⟩) (.int .i64 0) (.int .i64 0) (.slice none 0 0) (.slice none 0 0)
    refine bodyPost_ret (results_cell_tmp_row rfl _ _ g2 67 _ (0, 0) _ rfl s1 Try.underlying67 rfl size67) rfl ⟨B1.out.trans (s2.below B1.out.size (fun k hk => by omega)), ?_⟩
    rw [FV.out]
    rfl
  · have FV := Troupe.hid (show findV ks kind = some k from h2)
    have hi : i < ks.length := (List.getElem?_eq_some_iff.1 hx).1
    obtain ⟨b, o, rfl, hbl, hcc⟩ := cells_at (sz := 5) (fun _ => rfl) (by decide) CS1.out hx
    have d0 : w1.cell? ⟨b, o + i * 5, none⟩ = some (.string k.name) := hcc 0 (by decide) _ rfl
    have d1 : w1.cell? ⟨b, o + i * 5 + 1, none⟩ = some (.int .i64 k.limit) := hcc 1 (by decide) _ rfl
    have d2 : w1.cell? ⟨b, o + i * 5 + 2, none⟩ = some (.int .i64 k.within) := hcc 2 (by decide) _ rfl
    have d3 : w1.cell? ⟨b, o + i * 5 + 3, none⟩ = some (.slice k.Ac k.cases.length k.cc) := hcc 3 (by decide) _ rfl
    have d4 : w1.cell? ⟨b, o + i * 5 + 4, none⟩ = some (.slice k.A k.sts.length k.cap) := hcc 4 (by decide) _ rfl
    have hz1 := B1.out.size
    have CP := Troupe.hid (copied_any k w1 (((KI.out k (List.mem_of_getElem? hx)).below B1.out).mono hz1))
    have hi2 : i < 140737488355328 := by omega
    rw [h1]
    clear h1 h2 hx hcc
    dsimp only [Kf.val] at CP
    go_wp2_with fail
    refine CP.out.mono ?_
    rintro e w2 ⟨k', rfl, hs, ho, hb2⟩
    have k22 := K21.out.below hb2 K21.out.lt
    have K22 := Troupe.hid k22
    have B2 := Troupe.hid (B1.out.trans (hb2.mono hz1))
    have l3 := k22.cell
    have f3 := k22.frozen
    dsimp only [zK] at l3
    have HS := Troupe.hid hs
    have HO := Troupe.hid (ho.base hz1)
    clear hb2 k22 hs ho l2 f2 d0 d1 d2 d3 d4 e1
    dsimp only [Kf.val]
    go_wp2_with fail
    (try simp only [Exit.inBlock, Exit.then])
    obtain ⟨s1, s2⟩ := set5 (a := .string ⟨#[]⟩) (b := .int .i64 0) (c := .int .i64 0) (d := .slice none 0 0) (e := .slice none 0 0) K22.out (.string k'.name) (.int .i64 k'.limit) (.int .i64 k'.within) (.slice k'.Ac k'.cases.length k'.cc) (.slice k'.A k'.sts.length k'.cap)
    refine bodyPost_ret (results_cell_tmp_row rfl _ _ g2 67 _ (0, 0) _ rfl s1 Try.underlying67 rfl size67) rfl ⟨B2.out.trans (s2.below B2.out.size (fun k hk => by omega)), ?_⟩
    rw [FV.out]
    have hb2 := K22.out
    refine ⟨k', rfl, HS.out, own_frm HO.out.cases s2 (fun b hb e => ?_), own_frm HO.out.sts s2 (fun b hb e => ?_), fun s hs => ⟨own_frm (HO.out.all s hs).1 s2 (fun b hb e => ?_), fun r hr => own_frm ((HO.out.all s hs).2 r hr) s2 (fun b hb e => ?_)⟩⟩
    · obtain ⟨cs, hbk⟩ := own_at HO.out.cases hb
      exact hbk.ne hb2 (by decide) e
    · obtain ⟨cs, hbk⟩ := own_at HO.out.sts hb
      exact hbk.ne hb2 (by decide) e
    · obtain ⟨cs, hbk⟩ := own_at (HO.out.all s hs).1 hb
      exact hbk.ne hb2 (by decide) e
    · obtain ⟨cs, hbk⟩ := own_at ((HO.out.all s hs).2 r hr) hb
      exact hbk.ne hb2 (by decide) e
end Go.Proofs.Ytkjjhndccelbcaa
