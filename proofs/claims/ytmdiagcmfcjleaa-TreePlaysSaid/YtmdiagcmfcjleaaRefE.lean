/- What is told of a number, compared, by contract. -/
import Derived.Test.YtmdiagcmfcjleaaRefD
namespace Go.Proofs.Ytmdiagcmfcjleaa
open Go.RowKit Go.Maps Go.Troupe

def Yes (w : World) (e : Ending) (w' : World) : Prop := e = .returned (.bool true) ∧ Below w.heap.size w w'
theorem post_len {M : List Mb} (hM : Vd [] M) (f : Nat) {id : Int} (hv : hasV M id = true) : (post M f id).length ≤ M.length := by
  have h1 := post_nodup hM (f := f) hv
  have h2 : ∀ y ∈ post M f id, y ∈ M.map (·.1) := fun y hy => by
    obtain ⟨x, hx, e⟩ := hasV_iff.1 (post_has hv hy)
    exact List.mem_map.2 ⟨x, hx, e⟩
  have := h1.length_le_of_subset h2
  rwa [List.length_map] at this
/-- Two rows that stand one behind the other are compared. -/
theorem two_rows {w wa wb : World} {l : List Int} {A1 A2 : Option Addr} {c1 c2 : Nat} (hl : l.length ≤ 1000000000) (ha : wa.ownsRow w.heap.size 3 1 (.slice A1 l.length c1) l.length (wordsI l)) (hb : wb.ownsRow wa.heap.size 3 1 (.slice A2 l.length c2) l.length (wordsI l)) (hab : Below wa.heap.size wa wb) :
    Calls Try.prog 21 #[.slice A1 l.length c1, .slice A2 l.length c2] wb (Yes wb) :=
  ints_eq A1 l.length c1 A2 c2 l wb rfl hl ((own_cells (own_below ha hab))) (own_cells hb)
/-- The height to look at, and that it is one. -/
theorem high {M : List Mb} (hM : Vd [] M) (hn : M.length ≤ 1000) (id : Int) : ∃ f, (hasV M id = true → Hgt M f id) ∧ (post M f id).length ≤ 1000000000 := by
  cases hv : hasV M id with
  | false => exact ⟨0, (fun h => by cases h), by simp [post]⟩
  | true => exact ⟨M.length + 1, fun _ => hgt_ex hM hv, by have := post_len hM (M.length + 1) hv; omega⟩
section
variable {w0 w : World} {p : Nat} {M : List Mb} {A : Option Addr} {n c : Nat}
set_option maxRecDepth 100000 in
set_option maxHeartbeats 2000000 in
theorem same_any (id : Int) (hl : M.length = n) (hn : n ≤ 1000) (hT : Ts w0 w p M) (hc : Cells w w.heap.size A (flatM M)) :
    Calls Try.prog 17 #[.pointer (some ⟨p, 0, none⟩), .slice A n c, .int .i64 id] w (Yes w) := by
  obtain ⟨S, hT, _⟩ := hT
  have hM := hT.vd
  obtain ⟨f, hf1, hf2⟩ := high hM (by omega) id
  obtain ⟨ch, hch, hchl⟩ := chain_any hM id
  have AT := Troupe.hid (at_any id A n c M w hl (by omega) hc)
  have HAS := Troupe.hid (has_any id w hT)
  have kl : ∀ k, (kidsA M k).length ≤ 1000 := fun k => by
    unfold kidsA kidsV
    split
    · rw [List.length_map]; exact Nat.le_trans (List.length_filter_le _ _) (by omega)
    · exact Nat.zero_le _
  have KL : Hid ((kidsA M id).length ≤ 1000000000) := Nat.le_trans (kl id) (by decide)
  have PL : Hid (ch.reverse.length ≤ 1000000000) := by unfold Hid; rw [List.length_reverse]; omega
  have BL : Hid ((belowV M f id).length ≤ 1000000000) := by unfold Hid belowV; split; exact hf2; exact Nat.zero_le _
  have K1 := Troupe.hid (kids_any id w hT (by omega))
  have K2 := Troupe.hid (fun W (hb : Below w.heap.size w W) => rkids_any id A n c M W hl (by omega) ((hc.below hb).mono hb.size))
  have P1 := Troupe.hid (fun W (hb : Below w.heap.size w W) => path_any id ch W (hT.below hb) hch (by omega))
  have P2 := Troupe.hid (fun W (hb : Below w.heap.size w W) => rpath_any id A n c M ch W hl hn hM hch (by omega) ((hc.below hb).mono hb.size))
  have B1 := Troupe.hid (fun W (hb : Below w.heap.size w W) => below_any f id W (hT.below hb) hf1 hf2)
  have B2 := Troupe.hid (fun W (hb : Below w.heap.size w W) => rbelow_any A n c M hl hn f id W hf1 hf2 ((hc.below hb).mono hb.size))
  clear hch hchl kl hf1 hf2
  generalize kidsA M id = kl at *
  generalize ch.reverse = pl at *
  generalize belowV M f id = bl at *
  rcases posV_cases M id with ⟨hp, hv⟩ | ⟨k, y, hp, hk, hy, hv⟩
  · have PA := Troupe.hid (parent_not id w hT hv)
    rw [hp] at AT
    rw [hv] at HAS
    clear hT hc hM hp hv
    go_enter Try.func17, Try.ntmps17
    go_wp2_with fail
    refine AT.out.mono ?_
    rintro e w1 ⟨rfl, rfl⟩
    go_wp2_with fail
    refine PA.out.mono ?_
    rintro e w2 ⟨rfl, rfl⟩
    go_wp2_with fail
    refine HAS.out.mono ?_
    rintro e w3 ⟨rfl, rfl⟩
    go_wp2_with fail
    refine K1.out.mono ?_
    rintro e wa1 ⟨A1, c1, rfl, ho1, hb1⟩
    have BA1 := Troupe.hid hb1
    have OA := Troupe.hid ho1
    clear ho1 hb1
    go_wp2_with fail
    refine (K2.out wa1 BA1.out).mono ?_
    rintro e wb1 ⟨A2, c2, rfl, ho2, hb2⟩
    have BB1 := Troupe.hid (BA1.out.trans (hb2.mono BA1.out.size))
    have T1 := Troupe.hid (two_rows KL.out OA.out ho2 hb2)
    clear ho2 hb2
    go_wp2_with fail
    refine T1.out.mono ?_
    rintro e wc1 ⟨rfl, hb3⟩
    have BC1 := Troupe.hid (BB1.out.trans (hb3.mono BB1.out.size))
    clear hb3 OA T1
    go_wp2_with fail
    refine (P1.out wc1 BC1.out).mono ?_
    rintro e wa2 ⟨A1, c1, rfl, ho1, hb1⟩
    have BA2 := Troupe.hid (BC1.out.trans (hb1.mono BC1.out.size))
    have OA := Troupe.hid ho1
    clear ho1 hb1
    go_wp2_with fail
    refine (P2.out wa2 BA2.out).mono ?_
    rintro e wb2 ⟨A2, c2, rfl, ho2, hb2⟩
    have BB2 := Troupe.hid (BA2.out.trans (hb2.mono BA2.out.size))
    have T1 := Troupe.hid (two_rows PL.out OA.out ho2 hb2)
    clear ho2 hb2
    go_wp2_with fail
    refine T1.out.mono ?_
    rintro e wc2 ⟨rfl, hb3⟩
    have BC2 := Troupe.hid (BB2.out.trans (hb3.mono BB2.out.size))
    clear hb3 OA T1
    go_wp2_with fail
    refine (B1.out wc2 BC2.out).mono ?_
    rintro e wa3 ⟨A1, c1, rfl, ho1, hb1⟩
    have BA3 := Troupe.hid (BC2.out.trans (hb1.mono BC2.out.size))
    have OA := Troupe.hid ho1
    clear ho1 hb1
    go_wp2_with fail
    refine (B2.out wa3 BA3.out).mono ?_
    rintro e wb3 ⟨A2, c2, rfl, ho2, hb2⟩
    have BB3 := Troupe.hid (BA3.out.trans (hb2.mono BA3.out.size))
    have T1 := Troupe.hid (two_rows BL.out OA.out ho2 hb2)
    clear ho2 hb2
    go_wp2_with fail
    refine T1.out.mono ?_
    rintro e wc3 ⟨rfl, hb3⟩
    have BC3 := Troupe.hid (BB3.out.trans (hb3.mono BB3.out.size))
    clear hb3 OA T1
    go_wp2_with fail
    go_ret
    exact ⟨rfl, BC3.out⟩
  · obtain ⟨b, o, hA, d0, d1⟩ := mb_at hc (Nat.le_refl _) (Below.refl _ _) hk
    subst hA
    have PA := Troupe.hid (parent_any y w hT (List.mem_of_getElem? hk))
    rw [hy] at PA
    rw [hp] at AT
    rw [hv] at HAS
    have hkn : k < n := by have := (List.getElem?_eq_some_iff.1 hk).1; omega
    clear hT hc hM hp hv hk d0
    go_enter Try.func17, Try.ntmps17
    go_wp2_with fail
    refine AT.out.mono ?_
    rintro e w1 ⟨rfl, rfl⟩
    go_wp2_with fail
    refine PA.out.mono ?_
    rintro e w2 ⟨rfl, rfl⟩
    go_wp2_with fail
    refine HAS.out.mono ?_
    rintro e w3 ⟨rfl, rfl⟩
    go_wp2_with fail
    refine K1.out.mono ?_
    rintro e wa1 ⟨A1, c1, rfl, ho1, hb1⟩
    have BA1 := Troupe.hid hb1
    have OA := Troupe.hid ho1
    clear ho1 hb1
    go_wp2_with fail
    refine (K2.out wa1 BA1.out).mono ?_
    rintro e wb1 ⟨A2, c2, rfl, ho2, hb2⟩
    have BB1 := Troupe.hid (BA1.out.trans (hb2.mono BA1.out.size))
    have T1 := Troupe.hid (two_rows KL.out OA.out ho2 hb2)
    clear ho2 hb2
    go_wp2_with fail
    refine T1.out.mono ?_
    rintro e wc1 ⟨rfl, hb3⟩
    have BC1 := Troupe.hid (BB1.out.trans (hb3.mono BB1.out.size))
    clear hb3 OA T1
    go_wp2_with fail
    refine (P1.out wc1 BC1.out).mono ?_
    rintro e wa2 ⟨A1, c1, rfl, ho1, hb1⟩
    have BA2 := Troupe.hid (BC1.out.trans (hb1.mono BC1.out.size))
    have OA := Troupe.hid ho1
    clear ho1 hb1
    go_wp2_with fail
    refine (P2.out wa2 BA2.out).mono ?_
    rintro e wb2 ⟨A2, c2, rfl, ho2, hb2⟩
    have BB2 := Troupe.hid (BA2.out.trans (hb2.mono BA2.out.size))
    have T1 := Troupe.hid (two_rows PL.out OA.out ho2 hb2)
    clear ho2 hb2
    go_wp2_with fail
    refine T1.out.mono ?_
    rintro e wc2 ⟨rfl, hb3⟩
    have BC2 := Troupe.hid (BB2.out.trans (hb3.mono BB2.out.size))
    clear hb3 OA T1
    go_wp2_with fail
    refine (B1.out wc2 BC2.out).mono ?_
    rintro e wa3 ⟨A1, c1, rfl, ho1, hb1⟩
    have BA3 := Troupe.hid (BC2.out.trans (hb1.mono BC2.out.size))
    have OA := Troupe.hid ho1
    clear ho1 hb1
    go_wp2_with fail
    refine (B2.out wa3 BA3.out).mono ?_
    rintro e wb3 ⟨A2, c2, rfl, ho2, hb2⟩
    have BB3 := Troupe.hid (BA3.out.trans (hb2.mono BA3.out.size))
    have T1 := Troupe.hid (two_rows BL.out OA.out ho2 hb2)
    clear ho2 hb2
    go_wp2_with fail
    refine T1.out.mono ?_
    rintro e wc3 ⟨rfl, hb3⟩
    have BC3 := Troupe.hid (BB3.out.trans (hb3.mono BB3.out.size))
    clear hb3 OA T1
    go_wp2_with fail
    go_ret
    exact ⟨rfl, BC3.out⟩
end
end Go.Proofs.Ytmdiagcmfcjleaa
