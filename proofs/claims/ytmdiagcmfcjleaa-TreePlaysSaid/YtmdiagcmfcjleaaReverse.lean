/- slices.Reverse at numbers, on a row of the call's own. -/
import Derived.Test.YtmdiagcmfcjleaaFun
import Derived.StillTailTactics
import Derived.StillTactics
import Derived.Deep.RegionWith
namespace Go.Proofs.Ytmdiagcmfcjleaa
open Go.RowKit Go.Maps Go.Troupe

def Reversed (A : Option Addr) (n c base : Nat) (l : List Int) (w : World) (e : Ending) (w' : World) : Prop :=
  e = .returned (.tuple #[]) ∧ w'.ownsRow base 3 1 (.slice A n c) n (wordsI l.reverse) ∧ Frm (fun k => (Value.slice A n c).ownBlock = some k) w w'
set_option maxRecDepth 100000 in
set_option maxHeartbeats 1000000 in
theorem reverse_any (A : Option Addr) (n c base : Nat) (l : List Int) (w : World) (hl : l.length = n) (hn : n ≤ 1000000000) (hown : w.ownsRow base 3 1 (.slice A n c) n (wordsI l)) :
    Calls Try.prog 29 #[.slice A n c] w (Reversed A n c base l w) := by
  rcases Nat.eq_zero_or_pos n with rfl | hpos
  · have OWN := Troupe.hid hown
    have hl0 : l = [] := List.eq_nil_of_length_eq_zero hl
    subst hl0
    clear hown
    go_enter Try.func29, Try.ntmps29
    go_wp2_with fail
    go_loopw [2, 3] (fun v2 v3 wr => v2 = .int .i64 0 ∧ v3 = .int .i64 (-1) ∧ wr = w) (fun _ _ _ => 0)
    case atStart => exact ⟨rfl, rfl, rfl⟩
    case round =>
      obtain ⟨rfl, rfl, hw⟩ := hrel
      obtain rfl := hw.symm
      go_wp2_with fail
      (try simp only [Exit.inBlock, Exit.then]); refine bodyPost_ret (results_none rfl _ _ _) rfl ?_
      exact ⟨rfl, OWN.out, Frm.refl _ _⟩
  · rcases own_blk hown with ⟨_, h0, _⟩ | ⟨g, cs0, rfl, hbk, hcl, hbg, hqc, hcm, htk⟩
    · omega
    have T0 : Hid (∀ t, t < n → cs0[t]? = (l[t]?).map (Value.int .i64)) := by
      intro t ht
      have h : (cs0.take (n * 1))[t]? = (wordsI l)[t]? := by rw [htk]
      rw [List.getElem?_take, if_pos (by omega)] at h
      rw [h]; simp [wordsI]
    have BK := Troupe.hid hbk
    have CL := Troupe.hid hcl
    clear hown hbk hcl htk
    go_enter Try.func29, Try.ntmps29
    go_wp2_with fail
    go_loopw [2, 3] (fun v2 v3 wr => ∃ (i j : Nat) (cs : List Value), i + j + 1 = n ∧ i ≤ j + 1 ∧ v2 = .int .i64 i ∧ v3 = .int .i64 j ∧ Blk wr g 3 cs ∧ cs.length = c ∧
      (∀ t, t < n → cs[t]? = (if t < i ∨ j < t then (l[n - 1 - t]?).map (Value.int .i64) else (l[t]?).map (Value.int .i64))) ∧ Frm (fun k => k = g) w wr) (fun _ v3 _ => (intOf v3).toNat)
    case atStart =>
      refine ⟨0, n - 1, cs0, by omega, by omega, rfl, by go_num, BK.out, by have := CL.out; omega, fun t ht => ?_, Frm.refl _ _⟩
      rw [if_neg (by omega)]; exact T0.out t ht
    case round =>
      obtain ⟨i, j, cs, hij, hle, rfl, rfl, hbk, hcl, hcs, hf⟩ := hrel
      by_cases hlt : i < j
      · obtain ⟨a, ha⟩ : ∃ a, l[j]? = some a := ⟨_, List.getElem?_eq_getElem (by omega)⟩
        obtain ⟨b, hb⟩ : ∃ b, l[i]? = some b := ⟨_, List.getElem?_eq_getElem (by omega)⟩
        have ca : cs[j]? = some (.int .i64 a) := by rw [hcs j (by omega), if_neg (by omega), ha]; rfl
        have cb : cs[i]? = some (.int .i64 b) := by rw [hcs i (by omega), if_neg (by omega), hb]; rfl
        have F := Troupe.hid hf
        have BKr := Troupe.hid hbk
        have CLr := Troupe.hid hcl
        have CS := Troupe.hid hcs
        have HA := Troupe.hid ha
        have HB := Troupe.hid hb
        have CA := Troupe.hid ca
        have CB := Troupe.hid cb
        clear hf hbk hcl hcs ha hb ca cb
        go_wp2_with fail
        have hij2 : i ≠ j := by omega
        have b2 := BKr.out
        have d1 : wr.cell? ⟨g, j, none⟩ = some (.int .i64 a) := (b2.cell j).trans CA.out
        have d2 : wr.cell? ⟨g, i, none⟩ = some (.int .i64 b) := (b2.cell i).trans CB.out
        have f2 := b2.frozen
        have REL : Hid (∃ (i' j' : Nat) (cs' : List Value), i' + j' + 1 = n ∧ i' ≤ j' + 1 ∧ Value.int .i64 ((i : Int) + 1) = .int .i64 i' ∧ Value.int .i64 ((j : Int) - 1) = .int .i64 j' ∧
            Blk ((wr.setCell ⟨g, i, none⟩ (.int .i64 a)).setCell ⟨g, j, none⟩ (.int .i64 b)).drew g 3 cs' ∧ cs'.length = c ∧
            (∀ t, t < n → cs'[t]? = (if t < i' ∨ j' < t then (l[n - 1 - t]?).map (Value.int .i64) else (l[t]?).map (Value.int .i64))) ∧ Frm (fun k => k = g) w ((wr.setCell ⟨g, i, none⟩ (.int .i64 a)).setCell ⟨g, j, none⟩ (.int .i64 b)).drew) := by
          refine ⟨i + 1, j - 1, (cs.set i (.int .i64 a)).set j (.int .i64 b), by omega, by omega, by go_num, by go_num, ((b2.set_ i (.int .i64 a)).set_ j (.int .i64 b)).drew, by simp [CLr.out], fun t ht => ?_,
            ((F.out.trans (Frm.one wr ⟨g, i, none⟩ (.int .i64 a)) (fun _ _ h => h)).trans (Frm.one (wr.setCell ⟨g, i, none⟩ (.int .i64 a)) ⟨g, j, none⟩ (.int .i64 b)) (fun _ _ h => h)).drew⟩
          by_cases h1 : t = j
          · subst h1
            rw [List.getElem?_set_self (by rw [List.length_set, CLr.out]; omega), if_pos (by omega), show n - 1 - t = i by omega, HB.out]; rfl
          · rw [List.getElem?_set_ne (Ne.symm h1)]
            by_cases h2 : t = i
            · subst h2
              rw [List.getElem?_set_self (by rw [CLr.out]; omega), if_pos (by omega), show n - 1 - t = j by omega, HA.out]; rfl
            · rw [List.getElem?_set_ne (Ne.symm h2), CS.out t ht]
              by_cases h3 : t < i ∨ j < t
              · rw [if_pos h3, if_pos (by omega)]
              · rw [if_neg h3, if_neg (by omega)]
        clear b2
        go_region_with (fail)
        all_goals go_wp2_with fail
        all_goals go_roundw
        all_goals first | exact REL.out | (simp [intOf]; omega)
      · have F := Troupe.hid hf
        have FIN : Hid (wr.ownsRow base 3 1 (.slice (some ⟨g, 0, none⟩) n c) n (wordsI l.reverse)) := by
          have h := blk_own (base := base) (size := 1) (n := n) hbk (by rw [hcl, Nat.mul_one]) hbg hqc hcm
          have e : cs.take (n * 1) = wordsI l.reverse := by
            apply List.ext_getElem?
            intro t
            rw [List.getElem?_take]
            split
            · rename_i ht
              rw [hcs t (by omega)]
              have hr : (wordsI l.reverse)[t]? = (l[n - 1 - t]?).map (Value.int .i64) := by
                unfold wordsI
                rw [List.getElem?_map, List.getElem?_reverse (by omega), hl]
              rw [hr]
              split
              · rfl
              · rw [show n - 1 - t = t by omega]
            · rename_i ht
              rw [List.getElem?_eq_none (by simp [wordsI]; omega)]
          rw [e] at h
          exact h
        clear hf hbk hcl hcs
        go_wp2_with fail
        (try simp only [Exit.inBlock, Exit.then]); refine bodyPost_ret (results_none rfl _ _ _) rfl ?_
        exact ⟨rfl, FIN.out, F.out.mono (fun k _ hk => by simp [Value.ownBlock, hk])⟩
end Go.Proofs.Ytmdiagcmfcjleaa
