/- The tree's Kids and Path, by contracts. -/
import Derived.Test.YtmdiagcmfcjleaaBelow
namespace Go.Proofs.Ytmdiagcmfcjleaa
open Go.RowKit Go.Maps Go.Troupe

def kidsA (M : List Mb) (id : Int) : List Int := if hasV M id = true then kidsV M id else []
set_option maxRecDepth 100000 in
set_option maxHeartbeats 1000000 in
theorem kids_any {M : List Mb} {p : Nat} {S : Nat → Prop} (id : Int) (w : World) (h : Tr w p S M) (hlen : M.length ≤ 1000) :
    Calls Try.prog 20 #[.pointer (some ⟨p, 0, none⟩), .int .i64 id] w (Row w (kidsA M id)) := by
  obtain ⟨r, mp, B, V, h0, _⟩ := h
  have c1 : w.cell? ⟨p, 1, none⟩ = some (.map (some mp)) := h0.top.cell 1
  have HM := Troupe.hid h0.map
  obtain ⟨m, hm⟩ : ∃ m, m = (look M B id).getD (.pointer none) := ⟨_, rfl⟩
  have MM := Troupe.hid hm
  clear hm
  by_cases hv : hasV M id = true
  · obtain ⟨x, hx, rfl⟩ := hasV_iff.1 hv
    have hmn : m = .pointer (some ⟨B x.1, 0, none⟩) := by rw [MM.out]; exact look_has hv
    subst hmn
    obtain ⟨m1, m2⟩ := h0.mem x hx
    obtain ⟨A, c, hV, _, _, hc, hnil, _⟩ := own_form m2
    rw [hV] at m1
    have hkl : (kidsV M x.1).length ≤ M.length := by unfold kidsV; rw [List.length_map]; exact List.length_filter_le _ _
    have c2 : w.cell? ⟨B x.1, 1, none⟩ = some (.slice A (kidsV M x.1).length c) := m1.cell 1
    have K := Troupe.hid (clone_any A _ c w.heap.size (kidsV M x.1) w rfl (by omega) hc hnil)
    have HV := Troupe.hid hv
    clear m1 m2 hV hc hnil hx hv h0
    go_enter Try.func20, Try.ntmps20
    go_wp2_with (at_lookup; refine wpList_look rfl _ _ 50 rfl 3 56 Try.underlying50 Try.underlying3 _ (zero56 _) rfl HM.out _ rfl ?_; rw [← MM.out])
    refine K.out.mono ?_
    rintro e w' ⟨v, rfl, ho, hb⟩
    obtain ⟨A', c', rfl, -⟩ := own_form ho
    have HO := Troupe.hid ho
    have HB := Troupe.hid hb
    clear ho hb
    go_wp2_with fail
    go_ret
    unfold kidsA
    rw [if_pos HV.out]
    exact ⟨A', c', rfl, HO.out, HB.out⟩
  · have hmn : m = .pointer none := by rw [MM.out]; exact look_not (by simpa using hv)
    subst hmn
    have HV := Troupe.hid hv
    clear hv h0
    go_enter Try.func20, Try.ntmps20
    go_wp2_with (at_lookup; refine wpList_look rfl _ _ 50 rfl 3 56 Try.underlying50 Try.underlying3 _ (zero56 _) rfl HM.out _ rfl ?_; rw [← MM.out])
    go_ret
    unfold kidsA
    rw [if_neg HV.out]
    exact ⟨none, 0, rfl, World.ownsRow_nil _ _ _ _, Below.refl _ _⟩

/-- The members from one up to the root. -/
def Chain (M : List Mb) : Int → List Int → Prop
  | id, [] => hasV M id = false
  | id, k :: l => k = id ∧ ∃ par, (id, par) ∈ M ∧ Chain M par l
def lenOf : Value → Nat
  | .slice _ n _ => n
  | _ => 0
set_option maxRecDepth 100000 in
set_option maxHeartbeats 2000000 in
theorem path_any {M : List Mb} {p : Nat} {S : Nat → Prop} (id : Int) (l : List Int) (w : World) (h : Tr w p S M) (hc : Chain M id l) (hl : l.length ≤ 100000) :
    Calls Try.prog 18 #[.pointer (some ⟨p, 0, none⟩), .int .i64 id] w (Row w l.reverse) := by
  obtain ⟨r, mp, B, V, h0, _⟩ := h
  have c1 : w.cell? ⟨p, 1, none⟩ = some (.map (some mp)) := h0.top.cell 1
  have HM := Troupe.hid h0.map
  have HT := Troupe.hid h0
  obtain ⟨m, hm⟩ : ∃ m, m = (look M B id).getD (.pointer none) := ⟨_, rfl⟩
  have MM := Troupe.hid hm
  have CH := Troupe.hid hc
  clear hm h0 hc
  go_enter Try.func18, Try.ntmps18
  go_wp2_with (at_lookup; refine wpList_look rfl _ _ 50 rfl 3 56 Try.underlying50 Try.underlying3 _ (zero56 _) rfl HM.out _ rfl ?_; rw [← MM.out])
  clear c1
  go_loopw [1, 5, 6] (fun v1 v5 v6 wr => ∃ (cur : Int) (dn rest : List Int), v1 = .int .i64 cur ∧ v6 = (look M B cur).getD (.pointer none) ∧ Chain M cur rest ∧ l = dn ++ rest ∧ wr.ownsRow w.heap.size 3 1 v5 dn.length (wordsI dn) ∧ Below w.heap.size w wr) (fun _ v5 _ _ => l.length - lenOf v5)
  case atStart => exact ⟨id, [], l, rfl, MM.out, CH.out, rfl, World.ownsRow_nil _ _ _ _, Below.refl _ _⟩
  case round =>
    obtain ⟨cur, dn, rest, rfl, rfl, hch, hdr, ho, hb⟩ := hrel
    obtain ⟨A5, c5, rfl, -⟩ := own_form ho
    have OW := Troupe.hid ho
    have BE := Troupe.hid hb
    have DR := Troupe.hid hdr
    have hll : dn.length + rest.length ≤ 100000 := by rw [hdr, List.length_append] at hl; exact hl
    cases rest with
    | nil =>
      have hv : hasV M cur = false := hch
      rw [look_not hv]
      have RV := Troupe.hid (reverse_any A5 dn.length c5 w.heap.size dn wr rfl (by omega) ho)
      clear hch ho hb hdr hv hl
      go_wp2_with fail
      refine RV.out.mono ?_
      rintro e w2 ⟨rfl, ho2, hf2⟩
      have O2 := Troupe.hid ho2
      have B2 := Troupe.hid (BE.out.trans (hf2.below BE.out.size (fun k hk => (OW.out.lt k hk).1)))
      clear ho2 hf2
      go_wp2_with fail
      go_ret
      have e : l = dn := by have := DR.out; simpa using this
      subst e
      exact ⟨A5, c5, by simp, by rw [List.length_reverse]; exact O2.out, B2.out⟩
    | cons k rest =>
      obtain ⟨rfl, par, hm, hch2⟩ := hch
      have hv : hasV M k = true := hasV_mem hm
      rw [look_has hv]
      obtain ⟨m1, _⟩ := HT.out.mem _ hm
      have m3 := m1.below BE.out m1.lt
      have F1 : Frm (fun _ => False) wr (wr.alloc (.cells #[.int .i64 k] 3)) := (Frm.refl _ wr).alloc _
      have V1 := Troupe.hid (own_frm ho F1 (fun _ _ h => h))
      have B1 := Troupe.hid (BE.out.trans (F1.below BE.out.size (fun _ h => h.elim)))
      have C1 := Troupe.hid (show Cells (wr.alloc (.cells #[.int .i64 k] 3)) (wr.heap.size + 1) (some ⟨wr.heap.size, 0, none⟩) [.int .i64 k] from Cells.blk (n := 1) (Blk.new wr 3 [.int .i64 k]) (Nat.lt_succ_self wr.heap.size))
      have hw1 : (wr.alloc (.cells #[.int .i64 k] 3)).heap.size = wr.heap.size + 1 := by simp
      have hbs := BE.out.size
      have X1 := Troupe.hid m1
      have CH2 := Troupe.hid hch2
      rw [List.length_cons] at hll
      clear hm hv m1 m3 F1 ho hb hdr hch2 hl
      obtain ⟨m', hm'⟩ : ∃ m', m' = (look M B par).getD (.pointer none) := ⟨_, rfl⟩
      have MM' := Troupe.hid hm'
      clear hm'
      go_wp2_with (first
        | (at_builtin
           refine wpList_app rfl (.tmp 21) (.tmp 23) 25 rfl w.heap.size 3 info3 Try.underlying25 rfl (by decide) (.slice A5 dn.length c5) dn.length _ rfl V1.out (wr.heap.size + 1) (some ⟨wr.heap.size, 0, none⟩) 1 1 [.int .i64 k] rfl rfl C1.out (fun h => by cases h) (by simp [Value.oneCell']) (by omega) (by unfold maxLen; omega) (by omega) ?_
           intro v2 w2 h2
           obtain ⟨A4, c4, rfl, -⟩ := own_form h2.own
           have B2 : Below w.heap.size w w2 := B1.out.trans (h2.frm.below B1.out.size (fun k hk => (V1.out.lt k hk).1))
           have q1 : w2.cell? ⟨p, 1, none⟩ = some (.map (some mp)) := (HT.out.top.below B2 HT.out.top.lt).cell 1
           have q2 : w2.cell? ⟨B k, 0, none⟩ = some (.int .i64 par) := (X1.out.below B2 X1.out.lt).cell 0
           have M2 := Troupe.hid (HT.out.map.frm (Frm.of_below B2) (fun h => by have := HT.out.map.lt; omega))
           have BE2 := Troupe.hid B2
           have H2 := Troupe.hid h2
           clear h2 B2)
        | (at_lookup; refine wpList_look rfl _ _ 50 rfl 3 56 Try.underlying50 Try.underlying3 _ (zero56 _) rfl M2.out _ rfl ?_; rw [← MM'.out]))
      go_roundw
      case rel =>
        refine ⟨par, dn ++ [k], rest, rfl, MM'.out, CH2.out, by rw [DR.out]; simp, ?_, BE2.out⟩
        have e : wordsI (dn ++ [k]) = wordsI dn ++ [.int .i64 k] := by simp [wordsI]
        rw [e, List.length_append, List.length_singleton]
        exact H2.out.own
      case measure => have := congrArg List.length DR.out; rw [List.length_append, List.length_cons] at this; simp only [lenOf]; omega
end Go.Proofs.Ytmdiagcmfcjleaa
