/- The budget's Ask and Forget by contracts. -/
import Derived.Test.YtodkennpgfmenaaBudget
import Derived.Test.YtodkennpgfmenaaMix
namespace Go.Proofs.Ytodkennpgfmenaa
open Go.RowKit Go.Maps Go.Troupe
attribute [local go_sem] reads readAt readUpon Cls

theorem own_at {w : World} {base n size : Nat} {e : TypeId} {v : Value} {xs : List Value} {b : Nat} (h : w.ownsRow base e size v n xs) (hb : v.ownBlock = some b) : ∃ cs, Blk w b e cs := by
  obtain ⟨A, cap, rfl, -⟩ := own_form h
  rcases own_blk h with ⟨rfl, -⟩ | ⟨g, cs, rfl, hbk, -⟩
  · simp [Value.ownBlock] at hb
  · simp [Value.ownBlock] at hb
    subst hb
    exact ⟨cs, hbk⟩
theorem _root_.Go.Troupe.Blk.blk_cells {w : World} {g : Nat} {t : TypeId} {cs : List Value} (h : Blk w g t cs) : Cells w (g + 1) (some ⟨g, 0, none⟩) cs := by
  have := Cells.blk (n := cs.length) h (Nat.lt_succ_self g)
  rwa [List.take_length] at this
def give (G : Int → List Int) (c t : Int) : Int → List Int := fun k => if k = c then G k ++ [t] else G k
def Asked (p m : Nat) (S : Nat → Prop) (L W : Int) (G : Int → List Int) (child N : Int) (w : World) (e : Ending) (w' : World) : Prop :=
  e = .returned (.bool (!(leftOf L (G child) N W == 0))) ∧ ∃ S', Budget w' p m S' L W (if leftOf L (G child) N W == 0 then G else give G child N) ∧
    (∀ k, S' k → S k ∨ (w.heap.size ≤ k ∧ k < w'.heap.size)) ∧ Frm S w w'
set_option maxRecDepth 100000 in
set_option maxHeartbeats 400000 in
theorem ask_any {p m : Nat} {S : Nat → Prop} {L W : Int} {G : Int → List Int} (child now : Int) (w : World) (h : Budget w p m S L W G) (hn : (G child).length ≤ 1000000) :
    Calls Try.prog 12 #[.pointer (some ⟨p, 0, none⟩), .int .i64 child, .int .i64 now] w (Asked p m S L W G child (clamp now 0 1099511627776) w) := by
  have LE := Troupe.hid (left_any child now w h hn)
  have TK := Troupe.hid (tick_any now)
  unfold Asked
  generalize clamp now 0 1099511627776 = N at *
  have H := Troupe.hid h
  clear h
  go_enter Try.func12, Try.ntmps12
  go_wp2_with fail
  refine LE.out.mono ?_
  rintro e w1 ⟨rfl, hb⟩
  have H1 := Troupe.hid (H.out.below hb)
  have B1 := Troupe.hid hb
  clear hb
  by_cases hz : leftOf L (G child) N W = 0
  · have hz' : (leftOf L (G child) N W == 0) = true := by rw [hz]; rfl
    clear hz
    go_wp2_with fail
    go_ret
    exact ⟨rfl, S, H1.out, fun _ h => .inl h, (Frm.of_below B1.out).mono (fun k hk hs => absurd hk (by omega))⟩
  · have hz' : (leftOf L (G child) N W == 0) = false := by rw [beq_eq_false_iff_ne]; exact hz
    clear hz
    obtain ⟨n, g, h1, h2, h3, h4⟩ := H1.out.mp
    have hsp := H1.out.sp
    obtain ⟨A, cap, hv, hle, hcm, hc, hnil, hsm⟩ := own_form (h2 child)
    have hvv : (g child).getD nilS = .slice A (G child).length cap := hv
    have hoc := h2 child
    rw [hvv] at hoc
    have hnp : ¬ (Value.slice A (G child).length cap).ownBlock = some p := fun e => by
      rcases own_blk hoc with ⟨rfl, -⟩ | ⟨b, cs, rfl, hb, -⟩
      · simp [Value.ownBlock] at e
      · simp [Value.ownBlock] at e; exact hb.ne hsp (by decide) e
    have hnm : ¬ (Value.slice A (G child).length cap).ownBlock = some m := fun e => by
      rcases own_blk hoc with ⟨rfl, -⟩ | ⟨b, cs, rfl, hb, -⟩
      · simp [Value.ownBlock] at e
      · simp [Value.ownBlock] at e; exact h1.ne_blk hb e.symm
    let S0 : World → Prop := fun w' => Frm (fun k => (Value.slice A (G child).length cap).ownBlock = some k) w1 w'
    have hne : Nonempty (SW S0) := ⟨⟨w1, Frm.refl _ _⟩⟩
    have FC : ∀ x : SW S0, x.w.cell? ⟨p, 2, none⟩ = some (.map (some m)) := fun x => (hsp.frm x.h hnp).cell 2
    have FL : ∀ x : SW S0, (Instr.lookup 54 (.map (some m)) (.int .i64 child) false).run Try.prog x.w = .ok (.slice A (G child).length cap) x.w := fun x => by
      have := (h1.frm x.h hnm).run_look (P := Try.prog) Try.underlying54 Try.underlying3 (zero32 _) child
      rw [show (g child).getD (.slice none 0 0) = _ from hvv] at this
      exact this
    have GC := Troupe.hid hvv
    have H3 := Troupe.hid h3
    have H4 := Troupe.hid h4
    have H2 := Troupe.hid h2
    have M1 := Troupe.hid h1
    have SP1 := Troupe.hid hsp
    have OC := Troupe.hid hoc
    have NP := Troupe.hid hnp
    have NM := Troupe.hid hnm
    clear h1 h2 h3 h4 hsp hv hc hnil hsm hoc hnp hnm hvv
    go_wp2_with fail
    refine region_mix (S := Cls S0) 12 15 (by kernel_rfl) (by kernel_rfl) (fun _ _ d _ _ h => by cases d <;> exact h) ?_
    intro w2 hh e1 e2 e3
    have F2 : Frm (fun _ => False) w1 w2 := Frm.of_heap hh e1 e2 e3
    clear hh e1 e2 e3
    refine ⟨Cls.of (F2.mono (fun _ _ h => h.elim)), ?_⟩
    simp only [List.take_succ_cons, List.take_zero, List.drop_succ_cons, List.drop_zero]
    repeat (refine wpReads_step (fun K hK => ?_); go_simp; refine hK _ ?_; clear hK K)
    refine wpReads_nil ?_
    unfold wpMid
    go_wp2_with fail
    refine (TK.out _).mono ?_
    rintro e w' ⟨rfl, rfl⟩
    go_wp2_with fail
    refine ⟨Cls.of (F2.mono (fun _ _ h => h.elim)), ?_⟩
    unfold wpMid
    go_wp2_with fail
    have F3 : Frm (fun _ => False) w1 (w2.alloc (.cells #[.int .i64 N] 3)) := F2.alloc _
    have B3 : Blk (w2.alloc (.cells #[.int .i64 N] 3)) w2.heap.size 3 [.int .i64 N] := cells_one w2 3 _
    have OC3 := Troupe.hid (own_frm OC.out F3 (fun _ _ h => h))
    have C3 : Hid (Cells (w2.alloc (.cells #[.int .i64 N] 3)) (w2.heap.size + 1) (some ⟨w2.heap.size, 0, none⟩) [.int .i64 N]) := B3.blk_cells
    have hs3 : (w2.alloc (.cells #[.int .i64 N] 3)).heap.size = w2.heap.size + 1 := by simp
    have HS2 : w1.heap.size ≤ w2.heap.size := F2.size
    have FR3 := Troupe.hid F3
    refine ⟨Cls.of (F3.mono (fun _ _ h => h.elim)), ?_⟩
    clear F2 F3 B3 FC FL
    generalize w2.alloc (.cells #[.int .i64 N] 3) = w3 at *
    unfold wpMid
    refine wpList_app rfl (.tmp 22) (.tmp 25) 32 rfl 0 3 info3 Try.underlying32 rfl (by decide) (.slice A (G child).length cap) (G child).length ((G child).map (Value.int .i64)) rfl OC3.out (w2.heap.size + 1) (some ⟨w2.heap.size, 0, none⟩) 1 1 [.int .i64 N] rfl rfl C3.out (fun h => by cases h) (by simp [Value.oneCell']) (by omega) (by unfold maxLen; omega) (Nat.zero_le _) ?_
    intro v' w4 h'
    have A4 := Troupe.hid h'
    clear h'
    go_wp2_with fail
    have F4 : Frm (fun k => (Value.slice A (G child).length cap).ownBlock = some k) w1 w4 := (FR3.out.mono (fun _ _ h => h.elim)).trans A4.out.frm (fun _ _ h => h)
    have FR4 := Troupe.hid F4
    have M4 := M1.out.frm F4 NM.out
    refine ⟨Cls.of F4, ?_⟩
    unfold wpMid
    clear F4
    go_wp2_with (at_mapUpdate; refine wpList_put rfl _ _ _ 54 rfl 3 32 Try.underlying54 Try.underlying3 rfl M4 child rfl v' rfl ?_; intro w5 hm5 hf5; have M5 := Troupe.hid hm5; have F5 := Troupe.hid hf5; clear hm5 hf5)
    go_ret
    have hs4 := A4.out.frm.size
    have hs5 := F5.out.size
    have hw1 := B1.out.size
    have hv4 : ∀ b, v'.ownBlock = some b → b < w4.heap.size ∧ b ≠ m := fun b hb => by
      obtain ⟨cs, hbk⟩ := own_at A4.out.own hb
      exact ⟨hbk.lt, fun e => M4.ne_blk hbk e.symm⟩
    have hvS : ∀ b, v'.ownBlock = some b → (Value.slice A (G child).length cap).ownBlock = some b ∨ w1.heap.size ≤ b := fun b hb => by
      rcases A4.out.at_ with e | e
      · exact .inl (e ▸ hb)
      · rw [e] at hb; cases hb; exact .inr (by omega)
    have hgc : (g child).getD nilS = .slice A (G child).length cap := GC.out
    have hpm : p ≠ m := fun e => M1.out.ne_blk SP1.out e.symm
    have FF : Frm (fun k => (Value.slice A (G child).length cap).ownBlock = some k ∨ k = m) w1 w5 := FR4.out.and_then F5.out
    refine ⟨rfl, fun k => S k ∨ (w.heap.size ≤ k ∧ k < w5.heap.size), ?_, fun _ h => h, ?_⟩
    · refine ⟨SP1.out.frm FF (fun h => h.elim NP.out hpm), ⟨_, _, M5.out, fun k => ?_, fun j k hjk b hj hk => ?_, fun k b hb => ?_⟩, ⟨.inl H.out.sS.1, .inl H.out.sS.2⟩, H.out.hL, H.out.hW⟩
      · by_cases hk : k = child
        · subst hk
          simp only [upd_same, Option.getD_some, give, if_true, List.length_append, List.length_cons, List.length_nil, List.map_append, List.map_cons, List.map_nil]
          exact own_frm A4.out.own F5.out (fun b hb => (hv4 b hb).2)
        · simp only [upd_ne _ _ hk, give, if_neg hk]
          refine own_frm (H2.out k) FF (fun b hb h => ?_)
          rcases h with h | h
          · exact H3.out k child hk b hb (by rw [hgc]; exact h)
          · obtain ⟨cs, hbk⟩ := own_at (H2.out k) hb
            exact M1.out.ne_blk hbk h.symm
      · by_cases hj' : j = child
        · subst hj'
          rw [upd_same] at hj
          rw [upd_ne _ _ (Ne.symm hjk)] at hk
          rcases hvS b hj with h | h
          · exact H3.out j k hjk b (by rw [hgc]; exact h) hk
          · have := (H4.out k b hk).2; omega
        · rw [upd_ne _ _ hj'] at hj
          by_cases hk' : k = child
          · subst hk'
            rw [upd_same] at hk
            rcases hvS b hk with h | h
            · exact H3.out j k hjk b hj (by rw [hgc]; exact h)
            · have := (H4.out j b hj).2; omega
          · rw [upd_ne _ _ hk'] at hk
            exact H3.out j k hjk b hj hk
      · by_cases hk' : k = child
        · subst hk'
          rw [upd_same] at hb
          have h1 := (hv4 b hb).1
          rcases hvS b hb with h | h
          · have := H4.out k b (by rw [hgc]; exact h)
            exact ⟨.inl this.1, by omega⟩
          · exact ⟨.inr ⟨by omega, by omega⟩, by omega⟩
        · rw [upd_ne _ _ hk'] at hb
          have := H4.out k b hb
          exact ⟨.inl this.1, by omega⟩
    · refine ((Frm.of_below B1.out).mono (S' := S) (fun k hk h => absurd hk (by omega))).trans FF (fun k hk h => ?_)
      rcases h with h | h
      · exact (H4.out child k (by rw [hgc]; exact h)).1
      · rw [h]; exact H.out.sS.2

def Forgot (p m : Nat) (S : Nat → Prop) (L W : Int) (G : Int → List Int) (child : Int) (w : World) (e : Ending) (w' : World) : Prop :=
  e = .returned (.tuple #[]) ∧ Budget w' p m S L W (fun k => if k = child then [] else G k) ∧ Frm S w w'
theorem forget_any {p m : Nat} {S : Nat → Prop} {L W : Int} {G : Int → List Int} (child : Int) (w : World) (h : Budget w p m S L W G) :
    Calls Try.prog 15 #[.pointer (some ⟨p, 0, none⟩), .int .i64 child] w (Forgot p m S L W G child w) := by
  obtain ⟨n, g, h1, h2, h3, h4⟩ := h.mp
  obtain ⟨w1, hrun, hm1, hf1⟩ := h1.run_del (P := Try.prog) Try.underlying54 Try.underlying3 0 child
  have hrun' : ∀ ty, (Builtin.delete_ #[54, 3] ty #[.map (some m), .int .i64 child]).run Try.prog w = .ok (.tuple #[]) w1 := fun _ => hrun
  have c0 : w.cell? ⟨p, 2, none⟩ = some (.map (some m)) := h.sp.cell 2
  have H := Troupe.hid h
  have H2 := Troupe.hid h2
  have H3 := Troupe.hid h3
  have H4 := Troupe.hid h4
  have M0 := Troupe.hid h1
  have M1 := Troupe.hid hm1
  have F1 := Troupe.hid hf1
  clear h h1 h2 h3 h4 hrun hm1 hf1
  go_enter Try.func15, Try.ntmps15
  go_wp2_with fail
  (try simp only [Exit.inBlock, Exit.then]); refine bodyPost_ret (results_none rfl _ _ _) rfl ?_
  have hpm : p ≠ m := fun e => M0.out.ne_blk H.out.sp e.symm
  refine ⟨rfl, ⟨H.out.sp.frm F1.out hpm, ⟨_, _, M1.out, fun k => ?_, fun j k hjk b hj hk => ?_, fun k b hb => ?_⟩, H.out.sS, H.out.hL, H.out.hW⟩, F1.out.mono (fun k _ h => h ▸ H.out.sS.2)⟩
  · by_cases hk : k = child
    · subst hk; simp only [upd_same, Option.getD_none, if_true]; exact World.ownsRow_nil _ _ _ _
    · simp only [upd_ne _ _ hk, if_neg hk]
      refine own_frm (H2.out k) F1.out (fun b hb h => ?_)
      obtain ⟨cs, hbk⟩ := own_at (H2.out k) hb
      exact M0.out.ne_blk hbk h.symm
  · by_cases hj' : j = child
    · subst hj'; rw [upd_same] at hj; simp [nilS, Value.ownBlock] at hj
    · rw [upd_ne _ _ hj'] at hj
      by_cases hk' : k = child
      · subst hk'; rw [upd_same] at hk; simp [nilS, Value.ownBlock] at hk
      · rw [upd_ne _ _ hk'] at hk; exact H3.out j k hjk b hj hk
  · by_cases hk' : k = child
    · subst hk'; rw [upd_same] at hb; simp [nilS, Value.ownBlock] at hb
    · rw [upd_ne _ _ hk'] at hb
      have := H4.out k b hb
      exact ⟨this.1, Nat.lt_of_lt_of_le this.2 F1.out.size⟩
end Go.Proofs.Ytodkennpgfmenaa
