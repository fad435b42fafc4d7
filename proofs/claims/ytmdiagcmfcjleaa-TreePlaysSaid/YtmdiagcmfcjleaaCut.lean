/- The tree's Cut, by contract. -/
import Derived.Test.YtmdiagcmfcjleaaAdd
namespace Go.Proofs.Ytmdiagcmfcjleaa
open Go.RowKit Go.Maps Go.Troupe

theorem _root_.Go.Troupe.wpList_del {P : Program} {w : World} {m n : Nat} {q : IntKind} {g : Int → Option Value} {ops : Array Oper} {rest : List Oper} {o : Oper} {a : Act} {Q : Exit → Act → World → Prop} (hgd : o.guard = none) (mm x : Operand) (T K E : TypeId)
    (ho : o.op = .call { callee := .builtin .delete, args := #[mm, x], argTypes := #[T, K] }) (hT : P.underlying T = some (.map K E)) (hK : P.underlying K = some (.int q))
    (hm : a.eval mm = .map (some m)) (h : IMap w m q n g) (k : Int) (hx : a.eval x = .int q k)
    (hK' : ∀ w', IMap w' m q (if (g k).isSome then n - 1 else n) (upd g k none) → Frm (fun j => j = m) w w' → wpList P ops Q rest (a.put o.dst (.tuple #[])) w') : wpList P ops Q (o :: rest) a w := by
  refine wpList_plain hgd fun K' hK'' => ?_
  obtain ⟨w', hrun, h1, h2⟩ := h.run_del (P := P) hT hK o.type k
  unfold Oper.wp
  simp [execOp, ho, resolve, invoke, builtin, hm, hx, hrun, Result.andThen]
  exact hK'' _ _ (hK' w' h1 h2)
theorem len_filter : ∀ {M : List Mb} {seen : List Int}, Vd seen M → ∀ {x : Mb}, x ∈ M → (M.filter fun y => y.1 != x.1).length + 1 = M.length
  | [], _, _, x, hx => by simp at hx
  | z :: l, seen, ⟨_, _, _, h4⟩, x, hx => by
    by_cases hz : z.1 = x.1
    · rw [List.filter_cons_of_neg (by simp [hz]), List.length_cons]
      congr 1
      rw [List.filter_eq_self.2]
      intro y hy
      simp only [bne_iff_ne]
      intro e
      exact h4.fresh y hy (by rw [e, ← hz]; exact List.mem_cons_self)
    · rw [List.filter_cons_of_pos (by simp [hz]), List.length_cons, List.length_cons]
      have hx' : x ∈ l := by
        rcases List.mem_cons.1 hx with h | h
        · rw [h] at hz; exact absurd rfl hz
        · exact h
      rw [len_filter h4 hx']
theorem split_kid {l : List Int} {id : Int} (hn : l.Nodup) (h : id ∈ l) : ∃ a b, l = a ++ id :: b ∧ id ∉ a ∧ id ∉ b ∧ l.filter (· != id) = a ++ b := by
  obtain ⟨a, b, rfl⟩ := List.append_of_mem h
  rw [List.nodup_append] at hn
  obtain ⟨_, h2, h3⟩ := hn
  rw [List.nodup_cons] at h2
  have ha : id ∉ a := fun h => h3 id h id List.mem_cons_self rfl
  refine ⟨a, b, rfl, ha, h2.1, ?_⟩
  rw [List.filter_append, List.filter_cons_of_neg (by simp), filter_same ha, filter_same h2.1]
theorem look_filter (M : List Mb) (B : Int → Nat) (id : Int) : upd (look M B) id none = look (M.filter fun y => y.1 != id) B := by
  funext k
  unfold look upd
  by_cases hk : k = id
  · subst hk
    have : hasV (M.filter fun y => y.1 != k) k = false := hasV_not.2 fun x hx => by
      have := (List.mem_filter.1 hx).2
      simpa using this
    simp [this]
  · have : hasV (M.filter fun y => y.1 != id) k = hasV M k := by
      rw [Bool.eq_iff_iff, hasV_iff, hasV_iff]
      constructor
      · rintro ⟨x, hx, e⟩; exact ⟨x, (List.mem_filter.1 hx).1, e⟩
      · rintro ⟨x, hx, e⟩; exact ⟨x, List.mem_filter.2 ⟨hx, by simp only [bne_iff_ne]; rw [e]; exact hk⟩, e⟩
    simp [hk, this]
section
variable {p mp : Nat} {r : Int} {B : Int → Nat} {V : Int → Value} {M : List Mb} {S : Nat → Prop} {w w5 : World}
theorem cut_mem {x u : Mb} {v' : Value} (h : TrB w p r mp B V M) (hx : x ∈ M) (hleaf : kidsV M x.1 = []) (hu : u ∈ M) (hup : u.1 = x.2) (hux : u.1 ≠ x.1)
    (hf : Frm (fun k => (V x.2).ownBlock = some k ∨ k = B x.2 ∨ k = mp) w w5) (hb : Blk w5 (B x.2) 55 [.int .i64 u.2, v']) (ho : w5.ownsRow 0 3 1 v' ((kidsV M x.2).filter (· != x.1)).length (wordsI ((kidsV M x.2).filter (· != x.1))))
    (hat : v'.ownBlock = (V x.2).ownBlock) (hmap : IMap w5 mp .i64 (M.length - 1) (upd (look M B) x.1 none)) :
    TrB w5 p r mp B (fun k => if k = x.2 then v' else V k) (M.filter fun y => y.1 != x.1) ∧ ∀ k, Own p mp B (fun k => if k = x.2 then v' else V k) (M.filter fun y => y.1 != x.1) k → Own p mp B V M k := by
  have hinj : ∀ y ∈ M, y.1 = x.2 → y = u := fun y hy e => h.vd.inj y hy u hu (by rw [e, hup])
  have htop : Blk w5 p 52 [.int .i64 r, .map (some mp)] := h.top.frm hf (by
    rintro (e | e | e)
    · rw [← hup] at e; exact h.neBlk hu h.top (by decide) e
    · rw [← hup] at e; exact (h.top.ne (h.mem u hu).1 (by decide)) e
    · exact h.map.ne_blk h.top e.symm)
  have hsub : ∀ y, y ∈ (M.filter fun y => y.1 != x.1) → y ∈ M := fun y hy => (List.mem_filter.1 hy).1
  have hlen := len_filter h.vd hx
  refine ⟨⟨?_, htop, ?_, fun y hy => ?_, fun y hy z hz hyz => ?_, ?_⟩, ?_⟩
  · have h1 := h.root
    constructor
    · intro e; rw [h1.1 e] at hu; simp at hu
    · intro e
      have : u ∈ (M.filter fun y => y.1 != x.1) := List.mem_filter.2 ⟨hu, by simpa using hux⟩
      rw [e] at this; simp at this
  · rw [← look_filter, show (M.filter fun y => y.1 != x.1).length = M.length - 1 by omega]; exact hmap
  · have hyM := hsub y hy
    rw [kidsV_filter]
    by_cases hyp : y.1 = x.2
    · obtain rfl := hinj y hyM hyp
      rw [hyp]
      simp only [if_true]
      exact ⟨hb, ho⟩
    · simp only [hyp, if_false]
      have hnk : x.1 ∉ kidsV M y.1 := by
        rw [mem_kidsV]
        intro hm
        have := h.vd.inj _ hm x hx rfl
        exact hyp (by rw [← this])
      rw [filter_same hnk]
      refine ⟨(h.mem y hyM).1.frm hf ?_, own_frm (h.mem y hyM).2 hf ?_⟩
      · rintro (e | e | e)
        · rw [← hup] at e; exact h.neBlk hu (h.mem y hyM).1 (by decide) e
        · rw [← hup] at e; exact (h.dis y hyM u hu (by rw [hup]; exact hyp)).1 e
        · exact h.map.ne_blk (h.mem y hyM).1 e.symm
      · rintro b hb' (e | e | e)
        · rw [← hup] at e; exact (h.dis y hyM u hu (by rw [hup]; exact hyp)).2 b hb' e
        · rw [← hup] at e; rw [e] at hb'; exact h.neBlk hyM (h.mem u hu).1 (by decide) hb'
        · rw [e] at hb'; exact h.neMap hyM hb'
  · have hyM := hsub y hy
    have hzM := hsub z hz
    refine ⟨(h.dis y hyM z hzM hyz).1, fun b hb' => ?_⟩
    by_cases hyp : y.1 = x.2
    · have hzp : ¬ z.1 = x.2 := fun e => hyz (hyp.trans e.symm)
      simp only [hyp, hzp, if_true, if_false] at hb' ⊢
      rw [hat, ← hyp] at hb'
      exact (h.dis y hyM z hzM hyz).2 b hb'
    · simp only [hyp, if_false] at hb'
      by_cases hzp : z.1 = x.2
      · simp only [hzp, if_true]
        rw [hat, ← hzp]
        exact (h.dis y hyM z hzM hyz).2 b hb'
      · simp only [hzp, if_false]
        exact (h.dis y hyM z hzM hyz).2 b hb'
  · exact h.vd.filter (leaf_of hleaf)
  · rintro k (rfl | rfl | ⟨y, hy, hk⟩)
    · exact .inl rfl
    · exact .inr (.inl rfl)
    · have hyM := hsub y hy
      refine .inr (.inr ⟨y, hyM, hk.imp_right fun hk => ?_⟩)
      by_cases hyp : y.1 = x.2
      · simp only [hyp, if_true] at hk
        rw [hyp, ← hat]; exact hk
      · simpa only [hyp, if_false] using hk
end
def Cutted (p : Nat) (S : Nat → Prop) (M : List Mb) (id : Int) (w : World) (e : Ending) (w' : World) : Prop :=
  e = .returned (.int .i64 (cutV M id).2) ∧ Left p S (cutV M id).1 w w'
theorem left_below {p : Nat} {S : Nat → Prop} {M : List Mb} {w w' : World} (h : Tr w p S M) (hb : Below w.heap.size w w') : Left p S M w w' :=
  ⟨S, h.below hb, fun _ h => .inl h, (Frm.of_below hb).mono (fun k hk h => absurd hk (by omega))⟩
section
variable {p : Nat} {S : Nat → Prop} {M : List Mb}
set_option maxRecDepth 100000 in
set_option maxHeartbeats 4000000 in
theorem cut_any (id : Int) (w : World) (h : Tr w p S M) (hlen : M.length ≤ 1000) : Calls Try.prog 11 #[.pointer (some ⟨p, 0, none⟩), .int .i64 id] w (Cutted p S M id w) := by
  have H := Troupe.hid h
  obtain ⟨r, mp, B, V, h, hS⟩ := h
  have B1 : Below w.heap.size w (w.alloc (.cells #[.int .i64 id] 3)) := (Below.refl _ _).alloc (Nat.le_refl _) _
  have F1 : Frm (fun _ => False) w (w.alloc (.cells #[.int .i64 id] 3)) := (Frm.refl _ w).alloc _
  have bx : Blk (w.alloc (.cells #[.int .i64 id] 3)) w.heap.size 3 [.int .i64 id] := Blk.new w 3 _
  have h1 := h.heap F1
  have HS := Troupe.hid hS
  have HT := Troupe.hid h
  have HB1 := Troupe.hid B1
  have HF1 := Troupe.hid F1
  have BX := Troupe.hid bx
  have HT1 := Troupe.hid h1
  obtain ⟨m, hm⟩ : ∃ m, m = (look M B id).getD (.pointer none) := ⟨_, rfl⟩
  have MM := Troupe.hid hm
  clear hS h B1 F1 bx h1 hm
  by_cases hv : hasV M id = false
  · have RES : Hid (cutV M id = (M, 2)) := by unfold Hid cutV; rw [if_pos hv]
    have hmn : m = .pointer none := by rw [MM.out]; exact look_not hv
    subst hmn
    clear hv
    go_enter Try.func11, Try.ntmps11
    go_wp2_with fail
    generalize w.alloc (.cells #[.int .i64 id] 3) = W1 at *
    refine region_still_tail 5 (by kernel_rfl) (by kernel_rfl) ?_
    intro w2 hh hf
    have t2 := HT1.out.heap hf
    have c1 : w2.cell? ⟨p, 1, none⟩ = some (.map (some mp)) := t2.top.cell 1
    have c2 : w2.cell? ⟨w.heap.size, 0, none⟩ = some (.int .i64 id) := (BX.out.heap hh).cell 0
    have M2 := Troupe.hid t2.map
    have B2 := Troupe.hid (HB1.out.trans (hf.below HB1.out.size (fun _ h => h.elim)))
    clear hh hf t2
    simp only [List.take_succ_cons, List.take_zero, List.drop_succ_cons, List.drop_zero]
    repeat still_step
    refine wpStill_nil ?_
    go_wp2_with (at_lookup; refine wpList_look rfl _ _ 50 rfl 3 56 Try.underlying50 Try.underlying3 _ (zero56 _) rfl M2.out _ rfl ?_; rw [← MM.out])
    go_ret
    unfold Cutted; rw [RES.out]
    exact ⟨rfl, left_below H.out B2.out⟩
  obtain ⟨x, hx, rfl⟩ := hasV_iff.1 (show hasV M id = true by simpa using hv)
  have hmn : m = .pointer (some ⟨B x.1, 0, none⟩) := by rw [MM.out]; exact look_has (hasV_mem hx)
  subst hmn
  obtain ⟨x1, x2⟩ := HT.out.mem x hx
  obtain ⟨A0, c0, hV0, -⟩ := own_form x2
  rw [hV0] at x1
  have X1 := Troupe.hid (x1.frm HF1.out (fun h => h))
  have HX := Troupe.hid hx
  have hv' := Troupe.hid hv
  clear x1 x2 hV0 hx hv
  obtain ⟨nk, hnk⟩ : ∃ nk, nk = (kidsV M x.1).length := ⟨_, rfl⟩
  rw [← hnk] at X1
  have NK := Troupe.hid hnk
  clear hnk
  by_cases hk : 0 < nk
  · have RES : Hid (cutV M x.1 = (M, 6)) := by
      unfold Hid cutV
      rw [if_neg hv'.out, if_pos (fun e => by have := NK.out; rw [e] at this; simp at this; omega)]
    go_enter Try.func11, Try.ntmps11
    go_wp2_with fail
    generalize w.alloc (.cells #[.int .i64 x.1] 3) = W1 at *
    refine region_still_tail 5 (by kernel_rfl) (by kernel_rfl) ?_
    intro w2 hh hf
    have t2 := HT1.out.heap hf
    have c1 : w2.cell? ⟨p, 1, none⟩ = some (.map (some mp)) := t2.top.cell 1
    have c2 : w2.cell? ⟨w.heap.size, 0, none⟩ = some (.int .i64 x.1) := (BX.out.heap hh).cell 0
    have c3 : w2.cell? ⟨B x.1, 1, none⟩ = some (.slice A0 nk c0) := (X1.out.heap hh).cell 1
    have M2 := Troupe.hid t2.map
    have B2 := Troupe.hid (HB1.out.trans (hf.below HB1.out.size (fun _ h => h.elim)))
    clear hh hf t2
    simp only [List.take_succ_cons, List.take_zero, List.drop_succ_cons, List.drop_zero]
    repeat still_step
    refine wpStill_nil ?_
    go_wp2_with (at_lookup; refine wpList_look rfl _ _ 50 rfl 3 56 Try.underlying50 Try.underlying3 _ (zero56 _) rfl M2.out _ rfl ?_; rw [← MM.out])
    go_ret
    unfold Cutted; rw [RES.out]
    exact ⟨rfl, left_below H.out B2.out⟩
  obtain rfl : nk = 0 := by omega
  have hleaf : kidsV M x.1 = [] := List.eq_nil_of_length_eq_zero NK.out.symm
  have RES : Hid (cutV M x.1 = (M.filter (fun y => y.1 != x.1), 0)) := by
    unfold Hid cutV
    rw [if_neg hv'.out, if_neg (fun e => e hleaf)]
  have LEAF := Troupe.hid hleaf
  clear hleaf hk
  obtain ⟨up, hup⟩ : ∃ up, up = (look M B x.2).getD (.pointer none) := ⟨_, rfl⟩
  have UP := Troupe.hid hup
  clear hup
  by_cases h0 : x.2 = 0
  · have hup0 : up = .pointer none := by
      rw [UP.out]
      refine look_not (hasV_not.2 fun y hy e => ?_)
      have := HT.out.vd.pos y hy
      omega
    subst hup0
    have H0 := Troupe.hid h0
    clear h0
    go_enter Try.func11, Try.ntmps11
    go_wp2_with fail
    generalize w.alloc (.cells #[.int .i64 x.1] 3) = W1 at *
    refine region_still_tail 5 (by kernel_rfl) (by kernel_rfl) ?_
    intro w2 hh hf
    have t2 := HT1.out.heap hf
    have c1 : w2.cell? ⟨p, 1, none⟩ = some (.map (some mp)) := t2.top.cell 1
    have c2 : w2.cell? ⟨w.heap.size, 0, none⟩ = some (.int .i64 x.1) := (BX.out.heap hh).cell 0
    have c3 : w2.cell? ⟨B x.1, 1, none⟩ = some (.slice A0 0 c0) := (X1.out.heap hh).cell 1
    have M2 := Troupe.hid t2.map
    have T2 := Troupe.hid t2
    have X2 := Troupe.hid (X1.out.heap hh)
    have BX2 := Troupe.hid (BX.out.heap hh)
    have F2 := Troupe.hid (HF1.out.trans hf (fun _ _ h => h))
    clear hh hf t2
    simp only [List.take_succ_cons, List.take_zero, List.drop_succ_cons, List.drop_zero]
    repeat still_step
    refine wpStill_nil ?_
    go_wp2_with (at_lookup; refine wpList_look rfl _ _ 50 rfl 3 56 Try.underlying50 Try.underlying3 _ (zero56 _) rfl M2.out _ rfl ?_; rw [← MM.out])
    clear c1 c2 c3
    refine region_still_tail 8 (by kernel_rfl) (by kernel_rfl) ?_
    intro w3 hh hf
    have t3 := T2.out.heap hf
    have c1 : w3.cell? ⟨p, 1, none⟩ = some (.map (some mp)) := t3.top.cell 1
    have c3 : w3.cell? ⟨B x.1, 0, none⟩ = some (.int .i64 x.2) := (X2.out.heap hh).cell 0
    have M3 := Troupe.hid t3.map
    have T3 := Troupe.hid t3
    have BX3 := Troupe.hid (BX2.out.heap hh)
    have F3 := Troupe.hid (F2.out.trans hf (fun _ _ h => h))
    have f3 : w3.frozen? ⟨p, 0, none⟩ = false := t3.top.frozen 0
    have d3 : w3.cell? ⟨p, 0, none⟩ = some (.int .i64 r) := t3.top.cell 0
    clear hh hf t3
    simp only [List.take_succ_cons, List.take_zero, List.drop_succ_cons, List.drop_zero]
    repeat still_step
    refine wpStill_nil ?_
    go_wp2_with (at_lookup; refine wpList_look rfl _ _ 50 rfl 3 56 Try.underlying50 Try.underlying3 _ (zero56 _) rfl M3.out _ rfl ?_; rw [← UP.out])
    clear c1 c3 d3 f3
    have TP := T3.out.top.set_ 0 (.int .i64 0)
    have MP := T3.out.map.far (p := ⟨p, 0, none⟩) (fun e => T3.out.map.ne_blk T3.out.top e) (.int .i64 0)
    have BXP := BX3.out.far (p := ⟨p, 0, none⟩) (fun e => BX3.out.ne T3.out.top (by decide) e) (.int .i64 0)
    have FP : Frm (fun k => k = p) w (w3.setCell ⟨p, 0, none⟩ (.int .i64 0)) := (F3.out.mono (S' := fun k => k = p) (fun _ _ h => h.elim)).trans (Frm.one w3 ⟨p, 0, none⟩ (.int .i64 0)) (fun _ _ h => h)
    have HTP := Troupe.hid TP
    have HMP := Troupe.hid MP
    have HBX := Troupe.hid BXP
    have HFP := Troupe.hid FP
    clear TP MP BXP FP
    generalize w3.setCell ⟨p, 0, none⟩ (.int .i64 0) = w4 at *
    refine region_still_tail 5 (by kernel_rfl) (by kernel_rfl) ?_
    intro w5 hh hf
    have c1 : w5.cell? ⟨p, 1, none⟩ = some (.map (some mp)) := (HTP.out.heap hh).cell 1
    have c2 : w5.cell? ⟨w.heap.size, 0, none⟩ = some (.int .i64 x.1) := (HBX.out.heap hh).cell 0
    have M5 := Troupe.hid (HMP.out.heap hh)
    have T5 := Troupe.hid (HTP.out.heap hh)
    have F5 := Troupe.hid (HFP.out.trans hf (fun _ _ h => h.elim))
    clear hh hf
    simp only [List.take_succ_cons, List.take_zero, List.drop_succ_cons, List.drop_zero]
    repeat still_step
    refine wpStill_nil ?_
    refine wpList_del rfl (.tmp 49) (.tmp 50) 50 3 56 rfl Try.underlying50 Try.underlying3 rfl M5.out x.1 rfl ?_
    intro w6 hm6 hf6
    have M6 := Troupe.hid hm6
    have F6 := Troupe.hid hf6
    clear hm6 hf6
    go_wp2_with fail
    go_ret
    unfold Cutted; rw [RES.out]
    have hnil := cut_root HT.out.vd HX.out H0.out LEAF.out
    have hlen2 := len_filter HT.out.vd HX.out
    rw [hnil] at hlen2
    simp only [List.length_nil] at hlen2
    have h6 := M6.out
    rw [show (look M B x.1).isSome = true by simp [look, hasV_mem HX.out], look_filter, hnil, if_pos rfl, show M.length - 1 = 0 by omega] at h6
    have hT6 : TrB w6 p 0 mp B V [] := ⟨by simp, T5.out.frm F6.out (fun e => M5.out.ne_blk T5.out e.symm), h6, fun y hy => by simp at hy, fun y hy => by simp at hy, trivial⟩
    rw [hnil]
    refine ⟨rfl, _, ⟨_, _, _, _, hT6, fun k hk => hk⟩, fun k hk => ?_, (F5.out.mono (S' := S) (fun k _ hk => by rw [hk]; exact HS.out _ (.inl rfl))).trans F6.out (fun k _ hk => by rw [hk]; exact HS.out _ (.inr (.inl rfl)))⟩
    rcases hk with rfl | rfl | ⟨y, hy, _⟩
    · exact .inl (HS.out _ (.inl rfl))
    · exact .inl (HS.out _ (.inr (.inl rfl)))
    · simp at hy
  · obtain ⟨u, hu, hue, hux⟩ := cut_notroot HT.out.vd HX.out h0
    have hup0 : up = .pointer (some ⟨B x.2, 0, none⟩) := by
      rw [UP.out]
      exact look_has (by rw [← hue]; exact hasV_mem hu)
    subst hup0
    have hkl : (kidsV M x.2).length ≤ M.length := by unfold kidsV; rw [List.length_map]; exact List.length_filter_le _ _
    obtain ⟨a, b, hab, ha, hb, hfil⟩ := split_kid (HT.out.vd.nodup_kids x.2) (mem_kidsV.2 HX.out : x.1 ∈ kidsV M x.2)
    obtain ⟨m1, m2⟩ := HT.out.mem u hu
    rw [hue] at m1 m2
    have hVf : ∃ g c, V x.2 = .slice (some ⟨g, 0, none⟩) (kidsV M x.2).length c := by
      obtain ⟨A, c, hV, -⟩ := own_form m2
      rw [hV] at m2
      rcases own_blk m2 with ⟨_, h0, _⟩ | ⟨g, cs, rfl, _⟩
      · rw [hab] at h0; simp at h0
      · exact ⟨g, c, hV⟩
    obtain ⟨g, c, hV⟩ := hVf
    obtain ⟨nn, hnn⟩ : ∃ nn, nn = (kidsV M x.2).length := ⟨_, rfl⟩
    rw [← hnn] at hV hkl m2
    have hgl : g < w.heap.size := (m2.lt g (by rw [hV]; rfl)).2
    have NU := Troupe.hid (HT.out.neBlk hu HT.out.top (by decide))
    have NBk := Troupe.hid (HT.out.neBlk hu (HT.out.mem u hu).1 (by decide))
    have NM := Troupe.hid (HT.out.neMap hu)
    have PB := Troupe.hid (HT.out.top.ne m1 (by decide))
    have MB : Hid (mp ≠ B x.2) := fun e => HT.out.map.ne_blk m1 e
    rw [hue, hV] at NU NBk NM
    rw [hV] at m1 m2
    have HU1 := Troupe.hid m1
    have HU2 := Troupe.hid m2
    have HU := Troupe.hid hu
    have HUE := Troupe.hid hue
    have HUX := Troupe.hid hux
    have HV := Troupe.hid hV
    have HAB := Troupe.hid hab
    have NN := Troupe.hid hnn
    have HA := Troupe.hid ha
    have HBb := Troupe.hid hb
    have HFIL := Troupe.hid hfil
    have H0 := Troupe.hid h0
    clear hu hue hux hab ha hb hfil m1 m2 hV hnn h0
    go_enter Try.func11, Try.ntmps11
    go_wp2_with fail
    generalize w.alloc (.cells #[.int .i64 x.1] 3) = W1 at *
    refine region_still_tail 5 (by kernel_rfl) (by kernel_rfl) ?_
    intro w2 hh hf
    have t2 := HT1.out.heap hf
    have c1 : w2.cell? ⟨p, 1, none⟩ = some (.map (some mp)) := t2.top.cell 1
    have c2 : w2.cell? ⟨w.heap.size, 0, none⟩ = some (.int .i64 x.1) := (BX.out.heap hh).cell 0
    have c3 : w2.cell? ⟨B x.1, 1, none⟩ = some (.slice A0 0 c0) := (X1.out.heap hh).cell 1
    have M2 := Troupe.hid t2.map
    have T2 := Troupe.hid t2
    have X2 := Troupe.hid (X1.out.heap hh)
    have BX2 := Troupe.hid (BX.out.heap hh)
    have F2 := Troupe.hid (HF1.out.trans hf (fun _ _ h => h))
    clear hh hf t2
    simp only [List.take_succ_cons, List.take_zero, List.drop_succ_cons, List.drop_zero]
    repeat still_step
    refine wpStill_nil ?_
    go_wp2_with (at_lookup; refine wpList_look rfl _ _ 50 rfl 3 56 Try.underlying50 Try.underlying3 _ (zero56 _) rfl M2.out _ rfl ?_; rw [← MM.out])
    clear c1 c2 c3
    refine region_still_tail 8 (by kernel_rfl) (by kernel_rfl) ?_
    intro w3 hh hf
    have t3 := T2.out.heap hf
    have c1 : w3.cell? ⟨p, 1, none⟩ = some (.map (some mp)) := t3.top.cell 1
    have c3 : w3.cell? ⟨B x.1, 0, none⟩ = some (.int .i64 x.2) := (X2.out.heap hh).cell 0
    have M3 := Troupe.hid t3.map
    have T3 := Troupe.hid t3
    have BX3 := Troupe.hid (BX2.out.heap hh)
    have F3 := Troupe.hid (F2.out.trans hf (fun _ _ h => h))
    have f3 : w3.frozen? ⟨p, 0, none⟩ = false := t3.top.frozen 0
    have d3 : w3.cell? ⟨p, 0, none⟩ = some (.int .i64 r) := t3.top.cell 0
    clear hh hf t3
    simp only [List.take_succ_cons, List.take_zero, List.drop_succ_cons, List.drop_zero]
    repeat still_step
    refine wpStill_nil ?_
    have u3 := HU1.out.frm F3.out (fun h => h)
    have c4 : w3.cell? ⟨B x.2, 1, none⟩ = some (.slice (some ⟨g, 0, none⟩) nn c) := u3.cell 1
    have U3 := Troupe.hid u3
    have DL := Troupe.hid (delete_any x.1 w.heap.size g nn c a b w3 (by rw [← HAB.out]; exact NN.out.symm) (by omega) HA.out HBb.out (by rw [← HAB.out]; exact own_frm HU2.out F3.out (fun _ _ h => h)) (BX3.out.cell 0) (by omega))
    clear u3
    go_wp2_with (at_lookup; refine wpList_look rfl _ _ 50 rfl 3 56 Try.underlying50 Try.underlying3 _ (zero56 _) rfl M3.out _ rfl ?_; rw [← UP.out])
    refine DL.out.mono ?_
    rintro e w4 ⟨rfl, ho4, hf4⟩
    have hab : (Value.slice (some ⟨g, 0, none⟩) (a ++ b).length c).ownBlock = (Value.slice (some ⟨g, 0, none⟩) nn c).ownBlock := rfl
    rw [hab] at hf4
    have u4 := U3.out.frm hf4 NBk.out
    have u4c := u4.cell
    have u4f := u4.frozen
    have t4 := T3.out.top.frm hf4 NU.out
    have mp4 := T3.out.map.frm hf4 NM.out
    have hbxg : ¬ (Value.slice (some ⟨g, 0, none⟩) nn c).ownBlock = some w.heap.size := fun e => by
      simp [Value.ownBlock] at e; omega
    have bx4 := BX3.out.frm hf4 hbxg
    obtain ⟨kb, hkb⟩ : ∃ kb, kb = (a ++ b).length := ⟨_, rfl⟩
    rw [← hkb] at ho4 ⊢
    have KB := Troupe.hid hkb
    have T5 := Troupe.hid (t4.far (p := ⟨B x.2, 1, none⟩) PB.out (.slice (some ⟨g, 0, none⟩) kb c))
    have MP5 := Troupe.hid (mp4.far (p := ⟨B x.2, 1, none⟩) MB.out (.slice (some ⟨g, 0, none⟩) kb c))
    have BX5 := Troupe.hid (bx4.far (p := ⟨B x.2, 1, none⟩) (fun e => bx4.ne u4 (by decide) e) (.slice (some ⟨g, 0, none⟩) kb c))
    have U5 := Troupe.hid (u4.set_ 1 (.slice (some ⟨g, 0, none⟩) kb c))
    have O5 := Troupe.hid (own_frm ho4 (Frm.one w4 ⟨B x.2, 1, none⟩ (.slice (some ⟨g, 0, none⟩) kb c)) (fun b hb e => by
      obtain ⟨cs, hbk⟩ := own_at ho4 hb
      exact hbk.ne u4 (by decide) e))
    have F5 : Hid (Frm (fun k => (V x.2).ownBlock = some k ∨ k = B x.2 ∨ k = mp) w (w4.setCell ⟨B x.2, 1, none⟩ (.slice (some ⟨g, 0, none⟩) kb c))) := by
      unfold Hid
      rw [HV.out]
      exact ((F3.out.mono (S' := fun k => (Value.slice (some ⟨g, 0, none⟩) nn c).ownBlock = some k ∨ k = B x.2 ∨ k = mp) (fun _ _ h => h.elim)).trans hf4 (fun _ _ h => .inl h)).trans (Frm.one w4 ⟨B x.2, 1, none⟩ _) (fun _ _ h => .inr (.inl h))
    clear ho4 hf4 u4 t4 mp4 bx4 hab hkb c1 c3 d3 f3 c4
    go_wp2_with fail
    generalize w4.setCell ⟨B x.2, 1, none⟩ (.slice (some ⟨g, 0, none⟩) kb c) = w5 at *
    refine region_still_tail 5 (by kernel_rfl) (by kernel_rfl) ?_
    intro w6 hh hf
    have c1 : w6.cell? ⟨p, 1, none⟩ = some (.map (some mp)) := (T5.out.heap hh).cell 1
    have c2 : w6.cell? ⟨w.heap.size, 0, none⟩ = some (.int .i64 x.1) := (BX5.out.heap hh).cell 0
    have M6 := Troupe.hid (MP5.out.heap hh)
    have U6 := Troupe.hid (U5.out.heap hh)
    have O6 := Troupe.hid (own_heap O5.out hh)
    have F6 := Troupe.hid (F5.out.trans hf (fun _ _ h => h.elim))
    clear hh hf
    simp only [List.take_succ_cons, List.take_zero, List.drop_succ_cons, List.drop_zero]
    repeat still_step
    refine wpStill_nil ?_
    refine wpList_del rfl (.tmp 49) (.tmp 50) 50 3 56 rfl Try.underlying50 Try.underlying3 rfl M6.out x.1 rfl ?_
    intro w7 hm7 hf7
    have M7 := Troupe.hid hm7
    have F7 := Troupe.hid hf7
    clear hm7 hf7
    go_wp2_with fail
    go_ret
    unfold Cutted; rw [RES.out]
    have h7 := M7.out
    rw [show (look M B x.1).isSome = true by simp [look, hasV_mem HX.out], if_pos rfl] at h7
    have hfr := F6.out.trans F7.out (fun _ _ h => .inr (.inr h))
    obtain ⟨hTR, hOW⟩ := cut_mem (v' := .slice (some ⟨g, 0, none⟩) kb c) HT.out HX.out LEAF.out HU.out HUE.out HUX.out hfr (U6.out.frm F7.out (fun e => MB.out e.symm))
      (by rw [HFIL.out, ← KB.out]; exact own_frm O6.out F7.out (fun b hb e => by
            obtain ⟨cs, hbk⟩ := own_at O6.out hb
            exact M6.out.ne_blk hbk e.symm)) (by rw [HV.out]; rfl) h7
    refine ⟨rfl, _, ⟨_, _, _, _, hTR, fun k hk => hk⟩, fun k hk => .inl (HS.out k (hOW k hk)), hfr.mono (fun k _ hk => ?_)⟩
    rcases hk with hk | rfl | rfl
    · exact HS.out k (.inr (.inr ⟨u, HU.out, .inr (by rw [HUE.out]; exact hk)⟩))
    · exact HS.out _ (.inr (.inr ⟨u, HU.out, .inl (by rw [HUE.out])⟩))
    · exact HS.out _ (.inr (.inl rfl))
end
end Go.Proofs.Ytmdiagcmfcjleaa
